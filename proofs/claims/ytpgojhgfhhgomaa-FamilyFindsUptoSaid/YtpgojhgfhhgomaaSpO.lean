/- What the builders of terms return: applications, products, a family itself, level parameters. No conditions. -/
import Derived.Test.YtpgojhgfhhgomaaSpN
import Derived.Test.YtpgojhgfhhgomaaIvTz
namespace Go.Iv.Ir
open Go.Iv
set_option maxRecDepth 100000
set_option linter.unusedVariables false
set_option linter.unusedSimpArgs false
attribute [local irreducible] limit
variable {K : List Kt} {F : Fr} {H : Hp} {Q : QQ} {ops : List Ins} {keep : List Nat} {dr : Bool} {dd : Option Nat}
def IsT (t : Tm) (v : V) : Prop := v = encT t
@[simp] theorem isT_enc (t u : Tm) : IsT t (encT u) ↔ encT u = encT t := Iff.rfl
theorem szs_drop {l : List Tm} {j : Nat} (h : j < l.length) : szs (l.drop j) = l[j].sz + 1 + szs (l.drop (j + 1)) := by
  rw [List.drop_eq_getElem_cons h, szs_cons]
/-- the function so far: the first, or one that was built -/
def cur (f : Tm) : Option (Tm × Tm) → Tm
  | none => f
  | some (u, a) => mk2 4 u a
def curOk : Option (Tm × Tm) → Prop
  | none => True
  | some (u, a) => 1 + u.sz + a.sz < 1073741824
def curC (f : Tm) : Option (Tm × Tm) → List V
  | none => (encT f).cells
  | some (u, a) => [.i .i64 4, .i .i64 0, .s ⟨#[]⟩, .list 2 [] true, .list 5 [encT u, encT a] false]
theorem t35 (f : Tm) (args : List Tm) (hb : f.sz + szs args < 1073741824) (hl : args.length < 1073741824) : ∃ v, Ret T 35 [encT f, .list 5 (List.map encT args) false] v ∧ IsT (applyT f args) v := by
  have hlen := hl
  refine ret_of rfl rfl (by simp) ?_
  simp [fr0]
  refine wk_loop (α := {p : Nat × Option (Tm × Tm) // p.1 ≤ args.length ∧ applyT (cur f p.2) (args.drop p.1) = applyT f args ∧ (cur f p.2).sz + szs (args.drop p.1) < 1073741824 ∧ curOk p.2}) (fun p => [(9, .i .i64 p.1.1)]) (fun p => [(2, some (curC f p.1.2))]) (fun p => args.length - p.1.1) ⟨(0, none), by simp, by simp [cur], by simpa [cur] using hb, trivial⟩ (by rfl) (by simp [curC]) ?_
  rintro ⟨⟨j, o⟩, hle, hap, hs, hok⟩ hl
  dsimp only at hle hap hs hok
  cases o with
  | none =>
    simp only [cur] at hap hs
    simp [curC]
    constructor
    · intro hj
      have hw := wrap_succ j _ hj hlen
      have hd := szs_drop hj
      have hq : 1 + f.sz + args[j].sz < 1073741824 := by omega
      have hc := hl ⟨(j + 1, some (f, args[j])), hj, by
        rw [← hap, List.drop_eq_getElem_cons hj]; rfl, by
        show (mk2 4 f args[j]).sz + szs (args.drop (j + 1)) < _
        rw [mk2_sz hq]; omega, hq⟩ (by simp; omega)
      simp [curC] at hc hw
      simp [get_some hj, hw, hc]
    · intro hj
      have : args.drop j = [] := List.drop_eq_nil_of_le hj
      rw [this] at hap
      simp at hap
      simp [← hap]
  | some q =>
    obtain ⟨u, a⟩ := q
    simp only [cur] at hap hs
    have hfold := (mk2_enc (k := 4) (a := u) (b := a) hok).symm
    simp [curC]
    constructor
    · intro hj
      have hw := wrap_succ j _ hj hlen
      have hd := szs_drop hj
      have hq : 1 + (mk2 4 u a).sz + args[j].sz < 1073741824 := by omega
      have hc := hl ⟨(j + 1, some (mk2 4 u a, args[j])), hj, by
        rw [← hap, List.drop_eq_getElem_cons hj]; rfl, by
        show (mk2 4 (mk2 4 u a) args[j]).sz + szs (args.drop (j + 1)) < _
        rw [mk2_sz hq]; omega, hq⟩ (by simp; omega)
      simp [curC] at hc hw
      simp [get_some hj, hw, hfold, hc]
    · intro hj
      have : args.drop j = [] := List.drop_eq_nil_of_le hj
      rw [this] at hap
      simp at hap
      simp [hfold, ← hap]
theorem r35 (f : Tm) (args : List Tm) (hb : f.sz + szs args < 1073741824) (hl : args.length < 1073741824) : Ret T 35 [encT f, .list 5 (List.map encT args) false] (encT (applyT f args)) := by
  obtain ⟨v, h, rfl⟩ := t35 f args hb hl
  exact h
theorem t37 (i : Nat) (hi : i < 8) : ∃ v, Ret T 37 [.i .i64 i, .i .i64 0] v ∧ v = .tuple [.agg [.i .i64 0, .list 2 [.agg [.i .i64 i, .i .i64 0]] false], .i .i64 0] := by
  refine ret_of rfl rfl (by simp) ?_
  have e1 : ¬ (i : Int) < -65536 := by omega
  have e2 : ¬ 8 ≤ (i : Int) := by omega
  simp [fr0, e1, e2]
/-- a level parameter -/
def lvT (i : Nat) : Level := ⟨0, ⟨[⟨i, 0⟩], by simp⟩⟩
theorem encL_lvT (i : Nat) : encL (lvT i) = .agg [.i .i64 0, .list 2 [.agg [.i .i64 i, .i .i64 0]] false] := by simp [encL_def, -encL_refold, lvT, Level.vars, encLV_def, -encLV_refold]
theorem r37 (i : Nat) (hi : i < 8) : Ret T 37 [.i .i64 i, .i .i64 0] (.tuple [encL (lvT i), .i .i64 0]) := by
  obtain ⟨v, h, rfl⟩ := t37 i hi
  rw [encL_lvT]; exact h
def lvsT (n : Nat) : List Level := (List.range n).map lvT
theorem lvsT_len (n : Nat) : (lvsT n).length = n := by simp [lvsT]
theorem lvsT_succ (n : Nat) : List.map encL (lvsT (n + 1)) = List.map encL (lvsT n) ++ [encL (lvT n)] := by
  simp [lvsT, List.range_succ]
def IsLs (n : Nat) (v : V) : Prop := v = .list 2 (List.map encL (lvsT n)) false
theorem t16 (n : Nat) (hn : n ≤ 8) : ∃ v, Ret T 16 [.i .i64 n] v ∧ IsLs n v := by
  refine ret_of rfl rfl (by simp) ?_
  simp [fr0]
  refine wk_loop (α := {j : Nat // j ≤ n}) (fun j => [(4, .i .i64 j.1), (3, .list 2 (List.map encL (lvsT j.1)) true)]) (fun _ => []) (fun j => n - j.1) ⟨0, by omega⟩ (by rfl) (by rfl) ?_
  rintro ⟨j, hle⟩ hl
  simp
  constructor
  · intro hj
    have hj : j < n := by omega
    have hw := wrap_succ j n hj (by omega)
    have hc := hl ⟨j + 1, hj⟩ (by simp; omega)
    have hr := r37 j (by omega)
    have hlim : (lvsT j).length + 1 ≤ limit := lim_le (by rw [lvsT_len]; omega)
    simp only [lvsT_succ] at hc
    simp at hc hw
    simp [wc_ret hr, hw, hlim, hc]
  · intro hj
    have : j = n := by omega
    subst this
    simp [IsLs]
theorem r16 (n : Nat) (hn : n ≤ 8) : Ret T 16 [.i .i64 n] (.list 2 (List.map encL (lvsT n)) false) := by
  obtain ⟨v, h, rfl⟩ := t16 n hn
  exact h
/-- the constant of a family, with its level parameters -/
def selfT (s : ByteArray) (n : Nat) (h : n < 1073741824) : Tm := .flat 3 0 s ⟨lvsT n, by rw [lvsT_len]; exact h⟩
theorem encT_self (s : ByteArray) (n : Nat) (h : n < 1073741824) : encT (selfT s n h) = .agg [.i .i64 3, .i .i64 0, .s s, .list 2 (List.map encL (lvsT n)) false, .list 5 [] false] := rfl
theorem t32 (s : ByteArray) (n : Nat) (hn : n < 1073741824) : ∃ v, Ret T 32 [.s s, .i .i64 n] v ∧ IsT (selfT s n hn) v := by
  refine ret_of rfl rfl (by simp) ?_
  simp [fr0]
  refine wk_loop (α := {j : Nat // j ≤ n}) (fun j => [(10, .i .i64 j.1)]) (fun j => [(5, some [.i .i64 3, .i .i64 0, .s s, .list 2 (List.map encL (lvsT j.1)) true, .list 5 [] true])]) (fun j => n - j.1) ⟨0, by omega⟩ (by rfl) (by rfl) ?_
  rintro ⟨j, hle⟩ hl
  simp
  constructor
  · intro hj
    have hj : j < n := by omega
    have hw := wrap_succ j n hj (by omega)
    have hc := hl ⟨j + 1, hj⟩ (by simp; omega)
    have hlim : (lvsT j).length + 1 ≤ limit := lim_le (by rw [lvsT_len]; omega)
    simp only [lvsT_succ] at hc
    simp at hc hw
    simp [hw, hlim, hc, (encL_lvT j).symm, -encL_refold]
  · intro hj
    have : j = n := by omega
    subst this
    simp [IsT, encT_self]
theorem r32 (s : ByteArray) (n : Nat) (hn : n < 1073741824) : Ret T 32 [.s s, .i .i64 n] (encT (selfT s n hn)) := by
  obtain ⟨v, h, rfl⟩ := t32 s n hn
  exact h
end Go.Iv.Ir
