/- More of the program's data as Lean types: analysed families; and terms that are built. No conditions. -/
import Derived.Test.YtpgojhgfhhgomaaIvWq
namespace Go.Iv
set_option linter.unusedVariables false
set_option linter.unusedSimpArgs false
structure RF where
  field : Int
  args : List Tm
  results : List Tm
def encRF (x : RF) : V := .agg [.i .i64 x.field, .list 5 (List.map encT x.args) false, .list 5 (List.map encT x.results) false]
@[simp] theorem encRF_refold (x : RF) : V.agg [.i .i64 x.field, .list 5 (List.map encT x.args) false, .list 5 (List.map encT x.results) false] = encRF x := rfl
theorem encRF_def (x : RF) : encRF x = V.agg [.i .i64 x.field, .list 5 (List.map encT x.args) false, .list 5 (List.map encT x.results) false] := rfl
@[simp] theorem encRF_cells (x : RF) : (encRF x).cells = [.i .i64 x.field, .list 5 (List.map encT x.args) false, .list 5 (List.map encT x.results) false] := by rw [encRF_def]; rfl
@[simp] theorem encRF_clr (x : RF) : (encRF x).clr = encRF x := by rw [encRF_def]; rfl
@[simp] theorem encRF_hard (x : RF) : (encRF x).hard = encRF x := by rw [encRF_def]; rfl
@[simp] theorem encRF_give (x : RF) : (encRF x).give = encRF x := by rw [encRF_def]; rfl
@[simp] theorem encRF_free (x : RF) : (encRF x).free = true := by rw [encRF_def]; rfl
@[simp] theorem encRF_tup (x : RF) : (encRF x).isTup = false := by rw [encRF_def]; rfl
@[simp] theorem encRF_good (x : RF) : (encRF x).good 3 = true := by rw [encRF_def]; rfl
@[simp] theorem encRF_fits (x : RF) : (encRF x).fits 3 = true := by rw [encRF_def]; rfl
@[simp] theorem encRF_stv (x : RF) : stv (encRF x) = [.i .i64 x.field, .list 5 (List.map encT x.args) false, .list 5 (List.map encT x.results) false] := by rw [encRF_def]; rfl
@[simp] theorem encRF_nlt (x : RF) (t o : Nat) : (encRF x = V.lptr t o) = False := by rw [encRF_def]; exact eq_false nofun
@[simp] theorem encRF_noid (x : RF) : (encRF x).noid = true := by simp [encRF_def, -encRF_refold]
@[simp] theorem noid_RFs (l : List RF) : V.noidL (l.map encRF) = true := noidL_map _ (fun x => by simp) l
structure CF where
  name : ByteArray
  fields : List Tm
  recs : List RF
  results : List Tm
def encCF (x : CF) : V := .agg [.s x.name, .list 5 (List.map encT x.fields) false, .list 3 (List.map encRF x.recs) false, .list 5 (List.map encT x.results) false]
@[simp] theorem encCF_refold (x : CF) : V.agg [.s x.name, .list 5 (List.map encT x.fields) false, .list 3 (List.map encRF x.recs) false, .list 5 (List.map encT x.results) false] = encCF x := rfl
theorem encCF_def (x : CF) : encCF x = V.agg [.s x.name, .list 5 (List.map encT x.fields) false, .list 3 (List.map encRF x.recs) false, .list 5 (List.map encT x.results) false] := rfl
@[simp] theorem encCF_cells (x : CF) : (encCF x).cells = [.s x.name, .list 5 (List.map encT x.fields) false, .list 3 (List.map encRF x.recs) false, .list 5 (List.map encT x.results) false] := by rw [encCF_def]; rfl
@[simp] theorem encCF_clr (x : CF) : (encCF x).clr = encCF x := by rw [encCF_def]; rfl
@[simp] theorem encCF_hard (x : CF) : (encCF x).hard = encCF x := by rw [encCF_def]; rfl
@[simp] theorem encCF_give (x : CF) : (encCF x).give = encCF x := by rw [encCF_def]; rfl
@[simp] theorem encCF_free (x : CF) : (encCF x).free = true := by rw [encCF_def]; rfl
@[simp] theorem encCF_tup (x : CF) : (encCF x).isTup = false := by rw [encCF_def]; rfl
@[simp] theorem encCF_good (x : CF) : (encCF x).good 4 = true := by rw [encCF_def]; rfl
@[simp] theorem encCF_fits (x : CF) : (encCF x).fits 4 = true := by rw [encCF_def]; rfl
@[simp] theorem encCF_stv (x : CF) : stv (encCF x) = [.s x.name, .list 5 (List.map encT x.fields) false, .list 3 (List.map encRF x.recs) false, .list 5 (List.map encT x.results) false] := by rw [encCF_def]; rfl
@[simp] theorem encCF_nlt (x : CF) (t o : Nat) : (encCF x = V.lptr t o) = False := by rw [encCF_def]; exact eq_false nofun
@[simp] theorem encCF_noid (x : CF) : (encCF x).noid = true := by simp [encCF_def, -encCF_refold]
@[simp] theorem noid_CFs (l : List CF) : V.noidL (l.map encCF) = true := noidL_map _ (fun x => by simp) l
structure Fam where
  name : ByteArray
  levels : Int
  params : List Tm
  indices : List Tm
  sort : Tm
  ctors : List CF
def encFam (x : Fam) : V := .agg [.s x.name, .i .i64 x.levels, .list 5 (List.map encT x.params) false, .list 5 (List.map encT x.indices) false, .i .i64 x.sort.kind, .i .i64 x.sort.index, .s x.sort.name, .list 2 (List.map encL x.sort.levels) false, .list 5 (List.map encT x.sort.kids) false, .list 4 (List.map encCF x.ctors) false]
@[simp] theorem encFam_refold (x : Fam) : V.agg [.s x.name, .i .i64 x.levels, .list 5 (List.map encT x.params) false, .list 5 (List.map encT x.indices) false, .i .i64 x.sort.kind, .i .i64 x.sort.index, .s x.sort.name, .list 2 (List.map encL x.sort.levels) false, .list 5 (List.map encT x.sort.kids) false, .list 4 (List.map encCF x.ctors) false] = encFam x := rfl
theorem encFam_def (x : Fam) : encFam x = V.agg [.s x.name, .i .i64 x.levels, .list 5 (List.map encT x.params) false, .list 5 (List.map encT x.indices) false, .i .i64 x.sort.kind, .i .i64 x.sort.index, .s x.sort.name, .list 2 (List.map encL x.sort.levels) false, .list 5 (List.map encT x.sort.kids) false, .list 4 (List.map encCF x.ctors) false] := rfl
@[simp] theorem encFam_cells (x : Fam) : (encFam x).cells = [.s x.name, .i .i64 x.levels, .list 5 (List.map encT x.params) false, .list 5 (List.map encT x.indices) false, .i .i64 x.sort.kind, .i .i64 x.sort.index, .s x.sort.name, .list 2 (List.map encL x.sort.levels) false, .list 5 (List.map encT x.sort.kids) false, .list 4 (List.map encCF x.ctors) false] := by rw [encFam_def]; rfl
@[simp] theorem encFam_clr (x : Fam) : (encFam x).clr = encFam x := by rw [encFam_def]; rfl
@[simp] theorem encFam_hard (x : Fam) : (encFam x).hard = encFam x := by rw [encFam_def]; rfl
@[simp] theorem encFam_give (x : Fam) : (encFam x).give = encFam x := by rw [encFam_def]; rfl
@[simp] theorem encFam_free (x : Fam) : (encFam x).free = true := by rw [encFam_def]; rfl
@[simp] theorem encFam_tup (x : Fam) : (encFam x).isTup = false := by rw [encFam_def]; rfl
@[simp] theorem encFam_good (x : Fam) : (encFam x).good 10 = true := by rw [encFam_def]; rfl
@[simp] theorem encFam_fits (x : Fam) : (encFam x).fits 10 = true := by rw [encFam_def]; rfl
@[simp] theorem encFam_stv (x : Fam) : stv (encFam x) = [.s x.name, .i .i64 x.levels, .list 5 (List.map encT x.params) false, .list 5 (List.map encT x.indices) false, .i .i64 x.sort.kind, .i .i64 x.sort.index, .s x.sort.name, .list 2 (List.map encL x.sort.levels) false, .list 5 (List.map encT x.sort.kids) false, .list 4 (List.map encCF x.ctors) false] := by rw [encFam_def]; rfl
@[simp] theorem encFam_nlt (x : Fam) (t o : Nat) : (encFam x = V.lptr t o) = False := by rw [encFam_def]; exact eq_false nofun
@[simp] theorem encFam_noid (x : Fam) : (encFam x).noid = true := by simp [encFam_def, -encFam_refold]
structure Sh where
  own : Tm
  params : List Tm
  indices : Int
def encSh (x : Sh) : V := .agg [.i .i64 x.own.kind, .i .i64 x.own.index, .s x.own.name, .list 2 (List.map encL x.own.levels) false, .list 5 (List.map encT x.own.kids) false, .list 5 (List.map encT x.params) false, .i .i64 x.indices]
@[simp] theorem encSh_refold (x : Sh) : V.agg [.i .i64 x.own.kind, .i .i64 x.own.index, .s x.own.name, .list 2 (List.map encL x.own.levels) false, .list 5 (List.map encT x.own.kids) false, .list 5 (List.map encT x.params) false, .i .i64 x.indices] = encSh x := rfl
theorem encSh_def (x : Sh) : encSh x = V.agg [.i .i64 x.own.kind, .i .i64 x.own.index, .s x.own.name, .list 2 (List.map encL x.own.levels) false, .list 5 (List.map encT x.own.kids) false, .list 5 (List.map encT x.params) false, .i .i64 x.indices] := rfl
@[simp] theorem encSh_cells (x : Sh) : (encSh x).cells = [.i .i64 x.own.kind, .i .i64 x.own.index, .s x.own.name, .list 2 (List.map encL x.own.levels) false, .list 5 (List.map encT x.own.kids) false, .list 5 (List.map encT x.params) false, .i .i64 x.indices] := by rw [encSh_def]; rfl
@[simp] theorem encSh_clr (x : Sh) : (encSh x).clr = encSh x := by rw [encSh_def]; rfl
@[simp] theorem encSh_hard (x : Sh) : (encSh x).hard = encSh x := by rw [encSh_def]; rfl
@[simp] theorem encSh_give (x : Sh) : (encSh x).give = encSh x := by rw [encSh_def]; rfl
@[simp] theorem encSh_free (x : Sh) : (encSh x).free = true := by rw [encSh_def]; rfl
@[simp] theorem encSh_tup (x : Sh) : (encSh x).isTup = false := by rw [encSh_def]; rfl
@[simp] theorem encSh_good (x : Sh) : (encSh x).good 7 = true := by rw [encSh_def]; rfl
@[simp] theorem encSh_fits (x : Sh) : (encSh x).fits 7 = true := by rw [encSh_def]; rfl
@[simp] theorem encSh_stv (x : Sh) : stv (encSh x) = [.i .i64 x.own.kind, .i .i64 x.own.index, .s x.own.name, .list 2 (List.map encL x.own.levels) false, .list 5 (List.map encT x.own.kids) false, .list 5 (List.map encT x.params) false, .i .i64 x.indices] := by rw [encSh_def]; rfl
@[simp] theorem encSh_nlt (x : Sh) (t o : Nat) : (encSh x = V.lptr t o) = False := by rw [encSh_def]; exact eq_false nofun
@[simp] theorem encSh_noid (x : Sh) : (encSh x).noid = true := by simp [encSh_def, -encSh_refold]
def CF.zero : CF := ⟨noName, [], [], []⟩
theorem encCF_zero : encCF .zero = .agg [.s ⟨#[]⟩, .list 5 [] false, .list 3 [] false, .list 5 [] false] := rfl
def Fam.zero : Fam := ⟨noName, 0, [], [], .zero, []⟩
theorem encFam_zero : encFam .zero = .agg [.s ⟨#[]⟩, .i .i64 0, .list 5 [] false, .list 5 [] false, .i .i64 0, .i .i64 0, .s ⟨#[]⟩, .list 2 [] false, .list 5 [] false, .list 4 [] false] := rfl
/-- a term of two parts -/
def mk2 (k : Int) (a b : Tm) : Tm :=
  if h : 1 + a.sz + b.sz < 1073741824 then ⟨.mk k 0 noName ⟨[], by simp⟩ 2 (fun j => if j.1 = 0 then a.raw else b.raw), by
    simp only [Tm.sz] at h
    simp [Term.sz, List.ofFn_succ]; omega⟩ else .zero
variable {k : Int} {a b : Tm}
theorem mk2_raw (h : 1 + a.sz + b.sz < 1073741824) : (mk2 k a b).raw = .mk k 0 noName ⟨[], by simp⟩ 2 (fun j => if j.1 = 0 then a.raw else b.raw) := by
  unfold mk2; rw [dif_pos h]
theorem mk2_enc (h : 1 + a.sz + b.sz < 1073741824) : encT (mk2 k a b) = .agg [.i .i64 k, .i .i64 0, .s ⟨#[]⟩, .list 2 [] false, .list 5 [encT a, encT b] false] := by
  unfold encT
  rw [mk2_raw h]
  simp [encR, List.ofFn_succ, noName, encT]
theorem mk2_sz (h : 1 + a.sz + b.sz < 1073741824) : (mk2 k a b).sz = 1 + a.sz + b.sz := by
  unfold Tm.sz
  rw [mk2_raw h]
  simp [Term.sz, List.ofFn_succ]; omega
theorem mk2_kind (h : 1 + a.sz + b.sz < 1073741824) : (mk2 k a b).kind = k := by
  unfold Tm.kind; rw [mk2_raw h]
theorem mk2_kids (h : 1 + a.sz + b.sz < 1073741824) : (mk2 k a b).kids = [a, b] := by
  unfold mk2; rw [dif_pos h]
  simp [Tm.kids, List.ofFn_succ]
theorem mk2_cells (h : 1 + a.sz + b.sz < 1073741824) : (encT (mk2 k a b)).cells = [.i .i64 k, .i .i64 0, .s ⟨#[]⟩, .list 2 [] false, .list 5 [encT a, encT b] false] := by
  rw [mk2_enc h]; rfl
/-- the sizes of terms, and one for each -/
def szs (l : List Tm) : Nat := (l.map fun t => t.sz + 1).sum
@[simp] theorem szs_nil : szs [] = 0 := rfl
@[simp] theorem szs_cons (t : Tm) (l : List Tm) : szs (t :: l) = t.sz + 1 + szs l := by simp [szs]
@[simp] theorem szs_append (l r : List Tm) : szs (l ++ r) = szs l + szs r := by simp [szs]
def applyT (f : Tm) (args : List Tm) : Tm := args.foldl (fun f a => mk2 4 f a) f
def pisT (ctx : List Tm) (t : Tm) : Tm := ctx.foldr (fun a t => mk2 6 a t) t
@[simp] theorem applyT_nil (f : Tm) : applyT f [] = f := rfl
@[simp] theorem applyT_cons (f a : Tm) (l : List Tm) : applyT f (a :: l) = applyT (mk2 4 f a) l := rfl
@[simp] theorem pisT_nil (t : Tm) : pisT [] t = t := rfl
@[simp] theorem pisT_cons (t a : Tm) (l : List Tm) : pisT (a :: l) t = mk2 6 a (pisT l t) := rfl
theorem applyT_sz : ∀ (args : List Tm) (f : Tm), f.sz + szs args < 1073741824 → (applyT f args).sz = f.sz + szs args
  | [], f, h => rfl
  | a :: l, f, h => by
    simp at h ⊢
    have h1 : 1 + f.sz + a.sz < 1073741824 := by omega
    have h2 := mk2_sz (k := 4) h1
    rw [applyT_sz l _ (by omega)]; omega
theorem pisT_sz : ∀ (ctx : List Tm) (t : Tm), t.sz + szs ctx < 1073741824 → (pisT ctx t).sz = t.sz + szs ctx
  | [], t, h => rfl
  | a :: l, t, h => by
    simp at h ⊢
    have := pisT_sz l t (by omega)
    rw [mk2_sz (by omega)]; omega
end Go.Iv
