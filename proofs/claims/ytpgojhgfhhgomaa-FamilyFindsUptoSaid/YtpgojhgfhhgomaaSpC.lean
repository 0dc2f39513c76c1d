/- What the guards of the laws of signatures return. No conditions. -/
import Derived.Test.YtpgojhgfhhgomaaSpB
namespace Go.Iv.Ir
open Go.Iv
set_option maxRecDepth 100000
set_option linter.unusedVariables false
set_option linter.unusedSimpArgs false
variable {K : List Kt} {F : Fr} {H : Hp} {Q : QQ} {ops : List Ins} {keep : List Nat} {dr : Bool} {dd : Option Nat}
theorem t6 (t : Tm) (n : Int) : ∃ v, Ret T 6 [encT t, .i .i64 n] v ∧ IsB v := by
  refine ret_of rfl rfl (by simp) ?_
  simp [fr0]
noncomputable def g6 (t : Tm) (n : Int) : Bool := (ex_b (t6 t n)).choose
theorem r6 (t : Tm) (n : Int) : Ret T 6 [encT t, .i .i64 n] (.b (g6 t n)) := (ex_b (t6 t n)).choose_spec
@[simp] theorem c6 (t : Tm) (n : Int) : WC T (.fn 6) [encT t, .i .i64 n] dd ops keep dr K F H Q ↔ WO T ops keep dr K (F.put dd (.b (g6 t n))) H Q := wc_ret (r6 t n)
theorem t56 (t : Tm) : ∃ v, Ret T 56 [encT t] v ∧ IsB v := by
  refine ret_of rfl rfl (by simp) ?_
  simp [fr0]
noncomputable def g56 (t : Tm) : Bool := (ex_b (t56 t)).choose
theorem r56 (t : Tm) : Ret T 56 [encT t] (.b (g56 t)) := (ex_b (t56 t)).choose_spec
@[simp] theorem c56 (t : Tm) : WC T (.fn 56) [encT t] dd ops keep dr K F H Q ↔ WO T ops keep dr K (F.put dd (.b (g56 t))) H Q := wc_ret (r56 t)
theorem t57 : ∀ (t : Tre) (n : Int), ∃ v, Ret T 57 [encTr t, .i .i64 n] v ∧ IsB v := by
  refine Tre.ind fun t ih => ?_
  intro n
  refine ret_of rfl rfl (by simp) ?_
  simp [fr0]
  intro h1 h2 h3
  refine wk_loop (fun (j : Nat) => [(5, .i .i64 j)]) (fun _ => []) (fun j => t.branches.length - j) 0 (by rfl) (by rfl) ?_
  intro j hl
  simp
  intro hj
  have hc := hl (j + 1) (by omega)
  have hw := wrap_succ j _ hj (by simp)
  simp at hc hw
  obtain ⟨v, hr, e, rfl⟩ := ih t.branches[j] (by simp) (IntKind.i64.wrap (n + 1))
  simp [get_some hj, hw, hc, wc_ret hr]
noncomputable def g57 (t : Tre) (n : Int) : Bool := (ex_b (t57 t n)).choose
theorem r57 (t : Tre) (n : Int) : Ret T 57 [encTr t, .i .i64 n] (.b (g57 t n)) := (ex_b (t57 t n)).choose_spec
@[simp] theorem c57 (t : Tre) (n : Int) : WC T (.fn 57) [encTr t, .i .i64 n] dd ops keep dr K F H Q ↔ WO T ops keep dr K (F.put dd (.b (g57 t n))) H Q := wc_ret (r57 t n)
theorem t38 (a : Decl) : ∃ v, Ret T 38 [encD a] v ∧ IsB v := by
  refine ret_of rfl rfl (by simp) ?_
  simp [fr0]
  intro h1 h2 h3 h4 h5 h6 h7
  refine wk_loop (fun (j : Nat) => [(3, .i .i64 j)]) (fun _ => []) (fun j => a.ctors.length - j) 0 (by rfl) (by rfl) ?_
  intro j hl
  simp
  constructor
  · intro hj
    have hc := hl (j + 1) (by omega)
    have hw := wrap_succ j _ hj (by simp)
    simp at hc hw
    simp [get_some hj, hw, hc]
  · intro hj
    clear hl hj
    refine wk_loop (fun (j : Nat) => [(4, .i .i64 j)]) (fun _ => []) (fun j => a.recur.rules.length - j) 0 (by rfl) (by rfl) ?_
    intro j hl
    simp
    constructor
    · intro hj
      have hc := hl (j + 1) (by omega)
      have hw := wrap_succ j _ hj (by simp)
      simp at hc hw
      simp [get_some hj, hw, hc]
    · intro hj
      clear hl hj
      refine wk_loop (fun (j : Nat) => [(5, .i .i64 j)]) (fun _ => []) (fun j => a.funs.length - j) 0 (by rfl) (by rfl) ?_
      intro j hl
      simp
      intro hj
      have hc := hl (j + 1) (by omega)
      have hw := wrap_succ j _ hj (by simp)
      simp at hc hw
      simp [get_some hj, hw, hc]
noncomputable def g38 (a : Decl) : Bool := (ex_b (t38 a)).choose
theorem r38 (a : Decl) : Ret T 38 [encD a] (.b (g38 a)) := (ex_b (t38 a)).choose_spec
@[simp] theorem c38 (a : Decl) : WC T (.fn 38) [encD a] dd ops keep dr K F H Q ↔ WO T ops keep dr K (F.put dd (.b (g38 a))) H Q := wc_ret (r38 a)
theorem t17 (a : List Decl) (ha : a.length < 1073741824) : ∃ v, Ret T 17 [.list 23 (List.map encD a) false] v ∧ IsB v := by
  refine ret_of rfl rfl (by simp) ?_
  simp [fr0]
  refine wk_loop (fun (j : Nat) => [(3, .i .i64 j)]) (fun _ => []) (fun j => a.length - j) 0 (by rfl) (by rfl) ?_
  intro j hl
  simp
  intro hj h80
  have hc := hl (j + 1) (by omega)
  have hw := wrap_succ j _ hj ha
  simp at hc hw
  simp [get_some hj, hw, hc]
theorem t58 (a : Decl) : ∃ v, Ret T 58 [encD a] v ∧ IsB v := by
  refine ret_of rfl rfl (by simp) ?_
  simp [fr0]
noncomputable def g58 (a : Decl) : Bool := (ex_b (t58 a)).choose
theorem r58 (a : Decl) : Ret T 58 [encD a] (.b (g58 a)) := (ex_b (t58 a)).choose_spec
@[simp] theorem c58 (a : Decl) : WC T (.fn 58) [encD a] dd ops keep dr K F H Q ↔ WO T ops keep dr K (F.put dd (.b (g58 a))) H Q := wc_ret (r58 a)
theorem t83 (t : Tm) : ∃ v, Ret T 83 [encT t] v ∧ IsI v := by
  refine ret_of rfl rfl (by simp) ?_
  simp [fr0]
  refine wk_loop (fun (a : Tm × Int) => [(3, .i .i64 a.2)]) (fun a => [(1, some (encT a.1).cells)]) (fun a => a.1.sz) (t, 0) (by rfl) (by simp) ?_
  rintro ⟨t, n⟩ hl
  simp
  intro hk hd
  have h1 : 1 < t.kids.length := by omega
  have hc := fun n => hl (t.kids[1], n) (Tm.kid_sz (by simp))
  simp at hc
  simp [get_some h1, hc]
noncomputable def g83 (t : Tm) : Int := (ex_i (t83 t)).choose
theorem r83 (t : Tm) : Ret T 83 [encT t] (.i .i64 (g83 t)) := (ex_i (t83 t)).choose_spec
@[simp] theorem c83 (t : Tm) : WC T (.fn 83) [encT t] dd ops keep dr K F H Q ↔ WO T ops keep dr K (F.put dd (.i .i64 (g83 t))) H Q := wc_ret (r83 t)
theorem t74 (a : Decl) : ∃ v, Ret T 74 [encD a] v ∧ IsB v := by
  refine ret_of rfl rfl (by simp) ?_
  simp [fr0]
  refine wk_loop (fun (x : Nat × Bool) => [(4, .i .i64 x.1), (3, .b x.2)]) (fun _ => []) (fun x => a.ctors.length - x.1) (0, _) (by rfl) (by rfl) ?_
  rintro ⟨j, b⟩ hl
  simp
  intro hj
  have hc := fun b => hl (j + 1, b) (by simp; omega)
  have hw := wrap_succ j _ hj (by simp)
  simp [-Bool.forall_bool] at hc hw
  simp [get_some hj, hw, hc]
noncomputable def g74 (a : Decl) : Bool := (ex_b (t74 a)).choose
theorem r74 (a : Decl) : Ret T 74 [encD a] (.b (g74 a)) := (ex_b (t74 a)).choose_spec
@[simp] theorem c74 (a : Decl) : WC T (.fn 74) [encD a] dd ops keep dr K F H Q ↔ WO T ops keep dr K (F.put dd (.b (g74 a))) H Q := wc_ret (r74 a)
def IsF (a : Decl) (v : V) : Prop := ∃ e, v = .i .i64 e ∧ (e = 0 → 0 ≤ a.fixed)
@[simp] theorem isF_i (a : Decl) (e : Int) : IsF a (.i .i64 e) ↔ (e = 0 → 0 ≤ a.fixed) := by simp [IsF]
theorem t59 (a : Decl) : ∃ v, Ret T 59 [encD a] v ∧ IsF a v := by
  refine ret_of rfl rfl (by simp) ?_
  simp [fr0]
  intro h1 h2 h3 h4
  refine ⟨fun _ _ _ => ?_, fun _ => ?_⟩
  all_goals
    refine wk_loop (fun (j : Nat) => [(3, .i .i64 j)]) (fun _ => []) (fun j => a.funs.length - j) 0 (by rfl) (by rfl) ?_
    intro j hl
    simp [h3]
    intro hj
    have hc := hl (j + 1) (by omega)
    have hw := wrap_succ j _ hj (by simp)
    simp at hc hw
    simp [get_some hj, hw, hc]
noncomputable def g59 (a : Decl) : Int := (t59 a).choose_spec.2.choose
theorem r59 (a : Decl) : Ret T 59 [encD a] (.i .i64 (g59 a)) := by
  have h := (t59 a).choose_spec
  have h2 := h.2.choose_spec.1
  have h1 := h.1
  rw [h2] at h1; exact h1
@[simp] theorem c59 (a : Decl) : WC T (.fn 59) [encD a] dd ops keep dr K F H Q ↔ WO T ops keep dr K (F.put dd (.i .i64 (g59 a))) H Q := wc_ret (r59 a)
theorem g59_fixed (a : Decl) (h : g59 a = 0) : 0 ≤ a.fixed := (t59 a).choose_spec.2.choose_spec.2 h
end Go.Iv.Ir
