/- What CtorType returns, and that taking apart undoes the building. No conditions. -/
import Derived.Test.YtpgojhgfhhgomaaSpQ
namespace Go.Iv.Ir
open Go.Iv
set_option maxRecDepth 100000
set_option linter.unusedVariables false
set_option linter.unusedSimpArgs false
attribute [local irreducible] limit
variable {K : List Kt} {F : Fr} {H : Hp} {Q : QQ} {ops : List Ins} {keep : List Nat} {dr : Bool} {dd : Option Nat}
theorem selfT_sz (s : ByteArray) (n : Nat) (h : n < 1073741824) : (selfT s n h).sz = 1 := by simp [selfT, Tm.flat, Tm.sz, Term.sz]
theorem vT_sz (i : Int) : (vT i).sz = 1 := by simp [vT, Tm.flat, Tm.sz, Term.sz]
theorem varsT_szs (n m : Nat) : szs (varsT n m) ≤ 8192 := by
  have : ∀ l : List Nat, szs (l.map fun i => vT ((m + n - 1 - i : Nat) : Int)) = 2 * l.length := by
    intro l
    induction l with
    | nil => rfl
    | cons a l ih => simp [ih, vT_sz]; omega
  unfold varsT
  split
  · rw [this]; simp; omega
  · simp
/-- what CtorType returns -/
def ctT (f : Fam) (n : Nat) (h : n < 1073741824) (c : CF) : Tm := overT 6 f.params (overT 6 c.fields (applyT (selfT f.name n h) (varsT f.params.length c.fields.length ++ c.results)))
def IsCT (t : Tm) (v : V) : Prop := v = .tuple [encT t, .i .i64 0]
theorem t14 (f : Fam) (n : Nat) (hn : n ≤ 8) (hf : f.levels = n) (hcs : f.ctors.length < 1073741824) (k : Nat) (hk : k < f.ctors.length)
    (hb : szs f.params + szs f.ctors[k].fields + szs f.ctors[k].results < 1000000) (hp : f.params.length < 1000000) (hfl : f.ctors[k].fields.length < 1000000) (hr : f.ctors[k].results.length < 1000000) :
    ∃ v, Ret T 14 [encFam f, .i .i64 k] v ∧ IsCT (ctT f n (by omega) f.ctors[k]) v := by
  have hv := varsT_szs f.params.length f.ctors[k].fields.length
  have hvl := varsT_len f.params.length f.ctors[k].fields.length
  have hvl2 : (varsT f.params.length f.ctors[k].fields.length).length ≤ 4096 := by rw [hvl]; split <;> omega
  have hb1 : (selfT f.name n (by omega)).sz + szs (varsT f.params.length f.ctors[k].fields.length ++ f.ctors[k].results) < 1073741824 := by rw [selfT_sz, szs_append]; omega
  have h32 := r32 f.name n (by omega)
  have h35 := r35 (selfT f.name n (by omega)) (varsT f.params.length f.ctors[k].fields.length ++ f.ctors[k].results) hb1 (by simp; omega)
  have hsx := applyT_sz _ _ hb1
  rw [selfT_sz, szs_append] at hsx
  have h36 := r36 f.ctors[k].fields (applyT (selfT f.name n (by omega)) (varsT f.params.length f.ctors[k].fields.length ++ f.ctors[k].results)) (by omega) (by omega)
  have hsy := overT_sz 6 f.ctors[k].fields (applyT (selfT f.name n (by omega)) (varsT f.params.length f.ctors[k].fields.length ++ f.ctors[k].results)) (by omega)
  have h36' := r36 f.params (overT 6 f.ctors[k].fields (applyT (selfT f.name n (by omega)) (varsT f.params.length f.ctors[k].fields.length ++ f.ctors[k].results))) (by omega) (by omega)
  have hlim : (varsT f.params.length f.ctors[k].fields.length).length + f.ctors[k].results.length ≤ limit := lim_le (by omega)
  have hpl : f.params.length < 1073741824 := by omega
  have hfl' : f.ctors[k].fields.length < 1099511627776 := by omega
  simp only [List.map_append] at h35
  refine ret_of rfl rfl (by simp) ?_
  rw [← hf] at h32
  simp [fr0, hk, get_some hk, hpl, hfl', hlim, wc_ret h32, wc_ret h35, wc_ret h36, wc_ret h36', IsCT, ctT]
theorem allT_over : ∀ (ctx : List Tm) (t : Tm), t.sz + szs ctx < 1073741824 → allT (overT 6 ctx t) = (ctx ++ (allT t).1, (allT t).2)
  | [], t, h => rfl
  | a :: l, t, h => by
    simp at h
    have hs := overT_sz 6 l t (by omega)
    have hq : 1 + a.sz + (overT 6 l t).sz < 1073741824 := by omega
    have hk := mk2_kids (k := 6) hq
    have ih := allT_over l t (by omega)
    rw [overT_cons, allT_pi (mk2_kind hq) (by rw [hk]; rfl)]
    simp [hk, ih]
theorem applyT_kind : ∀ (args : List Tm) (f : Tm), f.sz + szs args < 1073741824 → f.kind ≠ 6 → (applyT f args).kind ≠ 6
  | [], f, h, hf => hf
  | a :: l, f, h, hf => by
    simp at h
    have hq : 1 + f.sz + a.sz < 1073741824 := by omega
    refine applyT_kind l _ ?_ ?_
    · rw [mk2_sz hq]; omega
    · rw [mk2_kind hq]; decide
theorem spineT_apply : ∀ (args : List Tm) (f : Tm), f.sz + szs args < 1073741824 → spineT (applyT f args) = ((spineT f).1, (spineT f).2 ++ args)
  | [], f, h => by simp
  | a :: l, f, h => by
    simp at h
    have hq : 1 + f.sz + a.sz < 1073741824 := by omega
    have hk := mk2_kids (k := 4) hq
    have ih := spineT_apply l (mk2 4 f a) (by rw [mk2_sz hq]; omega)
    rw [applyT_cons, ih, spineT_app (mk2_kind hq) (by rw [hk]; rfl)]
    simp [hk]
theorem allT_szs : ∀ t : Tm, szs (allT t).1 + (allT t).2.sz = t.sz := by
  refine Tm.ind fun t ih => ?_
  by_cases h : t.kind = 6 ∧ t.kids.length = 2
  · rw [allT_pi h.1 h.2]
    have := ih t.kids[1] (by simp)
    have e := t.sz_kids
    have hk : t.kids = [t.kids[0], t.kids[1]] := by
      apply List.ext_getElem
      · simp [h.2]
      · intro i h1 h2; simp at h2; match i, h2 with
        | 0, _ => rfl
        | 1, _ => rfl
    have es : (t.kids.map Tm.sz).sum = t.kids[0].sz + t.kids[1].sz := by
      conv => lhs; rw [hk]
      simp
    simp; omega
  · rw [allT_no h]; simp
theorem spineT_szs : ∀ t : Tm, szs (spineT t).2 + (spineT t).1.sz = t.sz := by
  refine Tm.ind fun t ih => ?_
  by_cases h : t.kind = 4 ∧ t.kids.length = 2
  · rw [spineT_app h.1 h.2]
    have := ih t.kids[0] (by simp)
    have e := t.sz_kids
    have hk : t.kids = [t.kids[0], t.kids[1]] := by
      apply List.ext_getElem
      · simp [h.2]
      · intro i h1 h2; simp at h2; match i, h2 with
        | 0, _ => rfl
        | 1, _ => rfl
    have es : (t.kids.map Tm.sz).sum = t.kids[0].sz + t.kids[1].sz := by
      conv => lhs; rw [hk]
      simp
    simp; omega
  · rw [spineT_no h]; simp
theorem szs_take (l : List Tm) (n : Nat) : szs (l.take n) + szs (l.drop n) = szs l := by rw [← szs_append, List.take_append_drop]
theorem szs_ge (l : List Tm) : 2 * l.length ≤ szs l := by
  induction l with
  | nil => simp
  | cons a l ih => have := a.sz_pos; simp; omega
end Go.Iv.Ir
