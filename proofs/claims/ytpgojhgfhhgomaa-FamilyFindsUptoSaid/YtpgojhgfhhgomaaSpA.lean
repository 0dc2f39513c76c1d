/- What the functions of the reference of terms return: some integer, or some answer. No conditions. -/
import Derived.Test.YtpgojhgfhhgomaaIrTest
import Derived.Test.YtpgojhgfhhgomaaIvTy
namespace Go.Iv.Ir
open Go.Iv
set_option maxRecDepth 100000
set_option linter.unusedVariables false
set_option linter.unusedSimpArgs false
variable {K : List Kt} {F : Fr} {H : Hp} {Q : QQ} {ops : List Ins} {keep : List Nat} {dr : Bool} {dd : Option Nat}
theorem t19 : ∀ t : Tm, ∃ v, Ret T 19 [encT t] v ∧ IsI v := by
  refine Tm.ind fun t ih => ?_
  refine ret_of rfl rfl (by simp) ?_
  simp [fr0]
  refine wk_loop (fun (a : Nat × Int) => [(4, .i .i64 a.1), (3, .i .i64 a.2)]) (fun _ => []) (fun a => t.kids.length - a.1) (0, 1) (by rfl) (by rfl) ?_
  rintro ⟨j, n⟩ hl
  simp
  intro hj
  have hc := fun n => hl (j + 1, n) (by simp; omega)
  simp [-Bool.forall_bool] at hc
  obtain ⟨v, hr, e, rfl⟩ := ih t.kids[j] (by simp)
  simp [get_some hj, wc_ret hr, wrap_succ j _ hj, hc]
noncomputable def g19 (t : Tm) : Int := (ex_i (t19 t)).choose
theorem r19 (t : Tm) : Ret T 19 [encT t] (.i .i64 (g19 t)) := (ex_i (t19 t)).choose_spec
@[simp] theorem c19 (t : Tm) : WC T (.fn 19) [encT t] dd ops keep dr K F H Q ↔ WO T ops keep dr K (F.put dd (.i .i64 (g19 t))) H Q := wc_ret (r19 t)
theorem t20 : ∀ t : Tm, ∃ v, Ret T 20 [encT t] v ∧ IsI v := by
  refine Tm.ind fun t ih => ?_
  refine ret_of rfl rfl (by simp) ?_
  simp [fr0]
  refine wk_loop (fun (a : Nat × Int) => [(4, .i .i64 a.1), (3, .i .i64 a.2)]) (fun _ => []) (fun a => t.kids.length - a.1) (0, 0) (by rfl) (by rfl) ?_
  rintro ⟨j, n⟩ hl
  simp
  intro hj
  have hc := fun n => hl (j + 1, n) (by simp; omega)
  simp [-Bool.forall_bool] at hc
  obtain ⟨v, hr, e, rfl⟩ := ih t.kids[j] (by simp)
  simp [get_some hj, wc_ret hr, wrap_succ j _ hj, hc]
noncomputable def g20 (t : Tm) : Int := (ex_i (t20 t)).choose
theorem r20 (t : Tm) : Ret T 20 [encT t] (.i .i64 (g20 t)) := (ex_i (t20 t)).choose_spec
@[simp] theorem c20 (t : Tm) : WC T (.fn 20) [encT t] dd ops keep dr K F H Q ↔ WO T ops keep dr K (F.put dd (.i .i64 (g20 t))) H Q := wc_ret (r20 t)
theorem t79 (n : Int) : ∃ v, Ret T 79 [.i .i64 n] v ∧ IsI v := by
  refine ret_of rfl rfl (by simp) ?_
  simp [fr0]
noncomputable def g79 (n : Int) : Int := (ex_i (t79 n)).choose
theorem r79 (n : Int) : Ret T 79 [.i .i64 n] (.i .i64 (g79 n)) := (ex_i (t79 n)).choose_spec
@[simp] theorem c79 (n : Int) : WC T (.fn 79) [.i .i64 n] dd ops keep dr K F H Q ↔ WO T ops keep dr K (F.put dd (.i .i64 (g79 n))) H Q := wc_ret (r79 n)
theorem t80 (n : Int) : ∃ v, Ret T 80 [.i .u8 n] v ∧ IsB v := by
  refine ret_of rfl rfl (by simp) ?_
  simp [fr0]
noncomputable def g80 (n : Int) : Bool := (ex_b (t80 n)).choose
theorem r80 (n : Int) : Ret T 80 [.i .u8 n] (.b (g80 n)) := (ex_b (t80 n)).choose_spec
@[simp] theorem c80 (n : Int) : WC T (.fn 80) [.i .u8 n] dd ops keep dr K F H Q ↔ WO T ops keep dr K (F.put dd (.b (g80 n))) H Q := wc_ret (r80 n)
theorem t65 (n m : Int) : ∃ v, Ret T 65 [.i .i64 n, .i .i64 m] v ∧ IsI v := by
  refine ret_of rfl rfl (by simp) ?_
  simp [fr0]
noncomputable def g65 (n m : Int) : Int := (ex_i (t65 n m)).choose
theorem r65 (n m : Int) : Ret T 65 [.i .i64 n, .i .i64 m] (.i .i64 (g65 n m)) := (ex_i (t65 n m)).choose_spec
@[simp] theorem c65 (n m : Int) : WC T (.fn 65) [.i .i64 n, .i .i64 m] dd ops keep dr K F H Q ↔ WO T ops keep dr K (F.put dd (.i .i64 (g65 n m))) H Q := wc_ret (r65 n m)
theorem t62 (t : Tm) : ∃ v, Ret T 62 [encT t] v ∧ IsB v := by
  refine ret_of rfl rfl (by simp) ?_
  simp [fr0]
noncomputable def g62 (t : Tm) : Bool := (ex_b (t62 t)).choose
theorem r62 (t : Tm) : Ret T 62 [encT t] (.b (g62 t)) := (ex_b (t62 t)).choose_spec
@[simp] theorem c62 (t : Tm) : WC T (.fn 62) [encT t] dd ops keep dr K F H Q ↔ WO T ops keep dr K (F.put dd (.b (g62 t))) H Q := wc_ret (r62 t)
theorem t63 (s : ByteArray) : ∃ v, Ret T 63 [.s s] v ∧ IsB v := by
  refine ret_of rfl rfl (by simp) ?_
  simp [fr0]
  intro h1 h2
  refine wk_loop (fun (a : Nat × Bool) => [(4, .i .i64 a.1), (3, .b a.2)]) (fun _ => []) (fun a => s.size - a.1) (0, true) (by rfl) (by rfl) ?_
  rintro ⟨j, b⟩ hl
  simp
  intro hj
  have hc := fun b => hl (j + 1, b) (by simp; omega)
  simp [-Bool.forall_bool] at hc
  simp [byte_some hj, wrap_succ j _ hj (by omega), hc]
noncomputable def g63 (s : ByteArray) : Bool := (ex_b (t63 s)).choose
theorem r63 (s : ByteArray) : Ret T 63 [.s s] (.b (g63 s)) := (ex_b (t63 s)).choose_spec
@[simp] theorem c63 (s : ByteArray) : WC T (.fn 63) [.s s] dd ops keep dr K F H Q ↔ WO T ops keep dr K (F.put dd (.b (g63 s))) H Q := wc_ret (r63 s)
theorem t81 (l : Level) : ∃ v, Ret T 81 [encL l] v ∧ IsB v := by
  refine ret_of rfl rfl (by simp) ?_
  simp [fr0]
  intro h1 h2
  refine wk_loop (fun (j : Nat) => [(3, .i .i64 j)]) (fun _ => []) (fun j => l.vars.length - j) 0 (by rfl) (by rfl) ?_
  intro j hl
  simp
  intro hj
  have hc := hl (j + 1) (by omega)
  have hw := wrap_succ j _ hj (by simp)
  simp at hc hw
  rcases j with _ | i
  · simp at hc hw
    simp [get_some hj, hw, hc]
  · have hi : i < l.vars.length := by omega
    have hu := wrap_of i _ hi (by simp)
    simp at hc hw
    simp [get_some hj, get_some hi, hw, hu, hc]
noncomputable def g81 (l : Level) : Bool := (ex_b (t81 l)).choose
theorem r81 (l : Level) : Ret T 81 [encL l] (.b (g81 l)) := (ex_b (t81 l)).choose_spec
@[simp] theorem c81 (l : Level) : WC T (.fn 81) [encL l] dd ops keep dr K F H Q ↔ WO T ops keep dr K (F.put dd (.b (g81 l))) H Q := wc_ret (r81 l)
theorem t64 (l : Level) (p q : Int) : ∃ v, Ret T 64 [encL l, .i .i64 p, .i .i64 q] v ∧ IsI v := by
  refine ret_of rfl rfl (by simp) ?_
  simp [fr0]
  intro h1
  refine wk_loop (fun (j : Nat) => [(7, .i .i64 j)]) (fun _ => []) (fun j => l.vars.length - j) 0 (by rfl) (by rfl) ?_
  intro j hl
  simp
  constructor
  · intro hj
    have hc := hl (j + 1) (by omega)
    have hw := wrap_succ j _ hj (by simp)
    simp at hc hw
    simp [get_some hj, hw, hc]
  · intro h2
    refine wk_loop (fun (j : Nat) => [(8, .i .i64 j)]) (fun _ => []) (fun j => l.vars.length - j) 0 (by rfl) (by rfl) ?_
    intro j hl
    simp
    intro hj
    have hc := hl (j + 1) (by omega)
    have hw := wrap_succ j _ hj (by simp)
    simp at hc hw
    simp [get_some hj, hw, hc]
noncomputable def g64 (l : Level) (p q : Int) : Int := (ex_i (t64 l p q)).choose
theorem r64 (l : Level) (p q : Int) : Ret T 64 [encL l, .i .i64 p, .i .i64 q] (.i .i64 (g64 l p q)) := (ex_i (t64 l p q)).choose_spec
@[simp] theorem c64 (l : Level) (p q : Int) : WC T (.fn 64) [encL l, .i .i64 p, .i .i64 q] dd ops keep dr K F H Q ↔ WO T ops keep dr K (F.put dd (.i .i64 (g64 l p q))) H Q := wc_ret (r64 l p q)
theorem t40 : ∀ t : Tm, ∀ a b c d e : Int, ∃ v, Ret T 40 [encT t, .i .i64 a, .i .i64 b, .i .i64 c, .i .i64 d, .i .i64 e] v ∧ IsI v := by
  refine Tm.ind fun t ih => ?_
  intro a b c d e
  refine ret_of rfl rfl (by simp) ?_
  simp [fr0]
  intro h1
  refine ⟨fun _ _ _ => ?_, fun _ _ => ?_⟩
  all_goals
    refine wk_loop (fun (j : Nat) => [(13, .i .i64 j)]) (fun _ => []) (fun j => t.levels.length - j) 0 (by rfl) (by rfl) ?_
    intro j hl
    simp
    constructor
    · intro hj
      have hc := hl (j + 1) (by omega)
      have hw := wrap_succ j _ hj (by simp)
      simp at hc hw
      simp [get_some hj, hw, hc]
    · repeat' (first | (intro _) | (refine And.intro ?_ ?_))
      all_goals
        refine wk_loop (fun (j : Nat) => [(15, .i .i64 j)]) (fun _ => []) (fun j => t.kids.length - j) 0 (by rfl) (by rfl) ?_
        intro j hl
        simp
        intro hj
        have hc := hl (j + 1) (by omega)
        have hw := wrap_succ j _ hj (by simp)
        simp at hc hw
        obtain ⟨v, hr, e, rfl⟩ := ih t.kids[j] (by simp) (IntKind.i64.wrap (a + g65 t.kind j)) b c d e
        simp [get_some hj, hw, hc, wc_ret hr]
noncomputable def g40 (t : Tm) (a b c d e : Int) : Int := (ex_i (t40 t a b c d e)).choose
theorem r40 (t : Tm) (a b c d e : Int) : Ret T 40 [encT t, .i .i64 a, .i .i64 b, .i .i64 c, .i .i64 d, .i .i64 e] (.i .i64 (g40 t a b c d e)) := (ex_i (t40 t a b c d e)).choose_spec
@[simp] theorem c40 (t : Tm) (a b c d e : Int) : WC T (.fn 40) [encT t, .i .i64 a, .i .i64 b, .i .i64 c, .i .i64 d, .i .i64 e] dd ops keep dr K F H Q ↔ WO T ops keep dr K (F.put dd (.i .i64 (g40 t a b c d e))) H Q := wc_ret (r40 t a b c d e)
theorem t21 (t : Tm) (a b c d : Int) : ∃ v, Ret T 21 [encT t, .i .i64 a, .i .i64 b, .i .i64 c, .i .i64 d] v ∧ IsI v := by
  refine ret_of rfl rfl (by simp) ?_
  simp [fr0]
noncomputable def g21 (t : Tm) (a b c d : Int) : Int := (ex_i (t21 t a b c d)).choose
theorem r21 (t : Tm) (a b c d : Int) : Ret T 21 [encT t, .i .i64 a, .i .i64 b, .i .i64 c, .i .i64 d] (.i .i64 (g21 t a b c d)) := (ex_i (t21 t a b c d)).choose_spec
@[simp] theorem c21 (t : Tm) (a b c d : Int) : WC T (.fn 21) [encT t, .i .i64 a, .i .i64 b, .i .i64 c, .i .i64 d] dd ops keep dr K F H Q ↔ WO T ops keep dr K (F.put dd (.i .i64 (g21 t a b c d))) H Q := wc_ret (r21 t a b c d)
end Go.Iv.Ir
