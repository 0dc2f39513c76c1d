/- What the comparisons of the references return: some answer, and true of a thing and itself. No conditions. -/
import Derived.Test.YtpgojhgfhhgomaaSpA
namespace Go.Iv.Ir
open Go.Iv
set_option maxRecDepth 100000
set_option linter.unusedVariables false
set_option linter.unusedSimpArgs false
variable {K : List Kt} {F : Fr} {H : Hp} {Q : QQ} {ops : List Ins} {keep : List Nat} {dr : Bool} {dd : Option Nat}
theorem t70 (a b : Level) : ∃ v, Ret T 70 [encL a, encL b] v ∧ IsB v := by
  refine ret_of rfl rfl (by simp) ?_
  simp [fr0]
  intro h1 h2
  refine wk_loop (fun (j : Nat) => [(5, .i .i64 j)]) (fun _ => []) (fun j => a.vars.length - j) 0 (by rfl) (by rfl) ?_
  intro j hl
  simp
  intro hj
  have hc := hl (j + 1) (by omega)
  have hw := wrap_succ j _ hj (by simp)
  simp at hc hw
  have hj' : j < b.vars.length := by omega
  simp [get_some hj, get_some hj', hw, hc]
theorem e70 (a : Level) : ∃ v, Ret T 70 [encL a, encL a] v ∧ v = .b true := by
  refine ret_of rfl rfl (by simp) ?_
  simp [fr0]
  refine wk_loop (fun (j : Nat) => [(5, .i .i64 j)]) (fun _ => []) (fun j => a.vars.length - j) 0 (by rfl) (by rfl) ?_
  intro j hl
  simp
  intro hj
  have hc := hl (j + 1) (by omega)
  have hw := wrap_succ j _ hj (by simp)
  simp at hc hw
  simp [get_some hj, hw, hc]
open Classical in
noncomputable def g70 (a b : Level) : Bool := if h : ∃ e, Ret T 70 [encL a, encL b] (.b e) then h.choose else true
theorem r70 (a b : Level)  : Ret T 70 [encL a, encL b] (.b (g70 a b)) := by
  have h := ex_b (t70 a b )
  unfold g70; rw [dif_pos h]; exact h.choose_spec
@[simp] theorem c70 (a b : Level)  : WC T (.fn 70) [encL a, encL b] dd ops keep dr K F H Q ↔ WO T ops keep dr K (F.put dd (.b (g70 a b))) H Q := wc_ret (r70 a b )
@[simp] theorem g70_self (a : Level)  : g70 a a = true := by
  obtain ⟨v, hv, rfl⟩ := e70 a 
  have := ret_eq hv (r70 a a )
  simp at this; first | exact this | exact this.symm
theorem t51 (a b : List Level) (ha : a.length < 1073741824) : ∃ v, Ret T 51 [.list 2 (List.map encL a) false, .list 2 (List.map encL b) false] v ∧ IsB v := by
  refine ret_of rfl rfl (by simp) ?_
  simp [fr0]
  intro h1
  refine wk_loop (fun (j : Nat) => [(5, .i .i64 j)]) (fun _ => []) (fun j => a.length - j) 0 (by rfl) (by rfl) ?_
  intro j hl
  simp
  intro hj
  have hc := hl (j + 1) (by omega)
  have hw := wrap_succ j _ hj (by simp [ha])
  simp at hc hw
  have hj' : j < b.length := by omega
  simp [get_some hj, get_some hj', hw, hc]
theorem e51 (a : List Level) (ha : a.length < 1073741824) : ∃ v, Ret T 51 [.list 2 (List.map encL a) false, .list 2 (List.map encL a) false] v ∧ v = .b true := by
  refine ret_of rfl rfl (by simp) ?_
  simp [fr0]
  refine wk_loop (fun (j : Nat) => [(5, .i .i64 j)]) (fun _ => []) (fun j => a.length - j) 0 (by rfl) (by rfl) ?_
  intro j hl
  simp
  intro hj
  have hc := hl (j + 1) (by omega)
  have hw := wrap_succ j _ hj (by simp [ha])
  simp at hc hw
  simp [get_some hj, hw, hc]
open Classical in
noncomputable def g51 (a b : List Level) : Bool := if h : ∃ e, Ret T 51 [.list 2 (List.map encL a) false, .list 2 (List.map encL b) false] (.b e) then h.choose else true
theorem r51 (a b : List Level) (ha : a.length < 1073741824) : Ret T 51 [.list 2 (List.map encL a) false, .list 2 (List.map encL b) false] (.b (g51 a b)) := by
  have h := ex_b (t51 a b ha)
  unfold g51; rw [dif_pos h]; exact h.choose_spec
@[simp] theorem c51 (a b : List Level) (ha : a.length < 1073741824) : WC T (.fn 51) [.list 2 (List.map encL a) false, .list 2 (List.map encL b) false] dd ops keep dr K F H Q ↔ WO T ops keep dr K (F.put dd (.b (g51 a b))) H Q := wc_ret (r51 a b ha)
@[simp] theorem g51_self (a : List Level) (ha : a.length < 1073741824) : g51 a a = true := by
  obtain ⟨v, hv, rfl⟩ := e51 a ha
  have := ret_eq hv (r51 a a ha)
  simp at this; first | exact this | exact this.symm
theorem t29 : ∀ a b : Tm, ∃ v, Ret T 29 [encT a, encT b] v ∧ IsB v := by
  refine Tm.ind fun a ih => ?_
  intro b
  refine ret_of rfl rfl (by simp) ?_
  simp [fr0]
  intro h1 h2 h3 h4 h5
  refine wk_loop (fun (j : Nat) => [(5, .i .i64 j)]) (fun _ => []) (fun j => a.kids.length - j) 0 (by rfl) (by rfl) ?_
  intro j hl
  simp
  intro hj
  have hc := hl (j + 1) (by omega)
  have hw := wrap_succ j _ hj (by simp)
  simp at hc hw
  have hj' : j < b.kids.length := by omega
  obtain ⟨v, hr, e, rfl⟩ := ih a.kids[j] (by simp) b.kids[j]
  simp [get_some hj, get_some hj', hw, hc, wc_ret hr]
theorem e29 : ∀ a : Tm, ∃ v, Ret T 29 [encT a, encT a] v ∧ v = .b true := by
  refine Tm.ind fun a ih => ?_
  refine ret_of rfl rfl (by simp) ?_
  simp [fr0]
  refine wk_loop (fun (j : Nat) => [(5, .i .i64 j)]) (fun _ => []) (fun j => a.kids.length - j) 0 (by rfl) (by rfl) ?_
  intro j hl
  simp
  intro hj
  have hc := hl (j + 1) (by omega)
  have hw := wrap_succ j _ hj (by simp)
  simp at hc hw
  obtain ⟨v, hr, rfl⟩ := ih a.kids[j] (by simp)
  simp [get_some hj, hw, hc, wc_ret hr]
open Classical in
noncomputable def g29 (a b : Tm) : Bool := if h : ∃ e, Ret T 29 [encT a, encT b] (.b e) then h.choose else true
theorem r29 (a b : Tm)  : Ret T 29 [encT a, encT b] (.b (g29 a b)) := by
  have h := ex_b (t29 a b )
  unfold g29; rw [dif_pos h]; exact h.choose_spec
@[simp] theorem c29 (a b : Tm)  : WC T (.fn 29) [encT a, encT b] dd ops keep dr K F H Q ↔ WO T ops keep dr K (F.put dd (.b (g29 a b))) H Q := wc_ret (r29 a b )
@[simp] theorem g29_self (a : Tm)  : g29 a a = true := by
  obtain ⟨v, hv, rfl⟩ := e29 a 
  have := ret_eq hv (r29 a a )
  simp at this; first | exact this | exact this.symm
theorem t12 (a b : List Tm) (ha : a.length < 1073741824) : ∃ v, Ret T 12 [.list 5 (List.map encT a) false, .list 5 (List.map encT b) false] v ∧ IsB v := by
  refine ret_of rfl rfl (by simp) ?_
  simp [fr0]
  intro h1
  refine wk_loop (fun (j : Nat) => [(5, .i .i64 j)]) (fun _ => []) (fun j => a.length - j) 0 (by rfl) (by rfl) ?_
  intro j hl
  simp
  intro hj
  have hc := hl (j + 1) (by omega)
  have hw := wrap_succ j _ hj (by simp [ha])
  simp at hc hw
  have hj' : j < b.length := by omega
  simp [get_some hj, get_some hj', hw, hc]
theorem e12 (a : List Tm) (ha : a.length < 1073741824) : ∃ v, Ret T 12 [.list 5 (List.map encT a) false, .list 5 (List.map encT a) false] v ∧ v = .b true := by
  refine ret_of rfl rfl (by simp) ?_
  simp [fr0]
  refine wk_loop (fun (j : Nat) => [(5, .i .i64 j)]) (fun _ => []) (fun j => a.length - j) 0 (by rfl) (by rfl) ?_
  intro j hl
  simp
  intro hj
  have hc := hl (j + 1) (by omega)
  have hw := wrap_succ j _ hj (by simp [ha])
  simp at hc hw
  simp [get_some hj, hw, hc]
open Classical in
noncomputable def g12 (a b : List Tm) : Bool := if h : ∃ e, Ret T 12 [.list 5 (List.map encT a) false, .list 5 (List.map encT b) false] (.b e) then h.choose else true
theorem r12 (a b : List Tm) (ha : a.length < 1073741824) : Ret T 12 [.list 5 (List.map encT a) false, .list 5 (List.map encT b) false] (.b (g12 a b)) := by
  have h := ex_b (t12 a b ha)
  unfold g12; rw [dif_pos h]; exact h.choose_spec
@[simp] theorem c12 (a b : List Tm) (ha : a.length < 1073741824) : WC T (.fn 12) [.list 5 (List.map encT a) false, .list 5 (List.map encT b) false] dd ops keep dr K F H Q ↔ WO T ops keep dr K (F.put dd (.b (g12 a b))) H Q := wc_ret (r12 a b ha)
@[simp] theorem g12_self (a : List Tm) (ha : a.length < 1073741824) : g12 a a = true := by
  obtain ⟨v, hv, rfl⟩ := e12 a ha
  have := ret_eq hv (r12 a a ha)
  simp at this; first | exact this | exact this.symm
theorem t30 (a b : Recur) : ∃ v, Ret T 30 [encRec a, encRec b] v ∧ IsB v := by
  refine ret_of rfl rfl (by simp) ?_
  simp [fr0]
theorem e30 (a : Recur) : ∃ v, Ret T 30 [encRec a, encRec a] v ∧ v = .b true := by
  refine ret_of rfl rfl (by simp) ?_
  simp [fr0]
open Classical in
noncomputable def g30 (a b : Recur) : Bool := if h : ∃ e, Ret T 30 [encRec a, encRec b] (.b e) then h.choose else true
theorem r30 (a b : Recur)  : Ret T 30 [encRec a, encRec b] (.b (g30 a b)) := by
  have h := ex_b (t30 a b )
  unfold g30; rw [dif_pos h]; exact h.choose_spec
@[simp] theorem c30 (a b : Recur)  : WC T (.fn 30) [encRec a, encRec b] dd ops keep dr K F H Q ↔ WO T ops keep dr K (F.put dd (.b (g30 a b))) H Q := wc_ret (r30 a b )
@[simp] theorem g30_self (a : Recur)  : g30 a a = true := by
  obtain ⟨v, hv, rfl⟩ := e30 a 
  have := ret_eq hv (r30 a a )
  simp at this; first | exact this | exact this.symm
theorem t31 : ∀ a b : Tre, ∃ v, Ret T 31 [encTr a, encTr b] v ∧ IsB v := by
  refine Tre.ind fun a ih => ?_
  intro b
  refine ret_of rfl rfl (by simp) ?_
  simp [fr0]
  intro h1 h2 h3 h4
  refine wk_loop (fun (j : Nat) => [(5, .i .i64 j)]) (fun _ => []) (fun j => a.branches.length - j) 0 (by rfl) (by rfl) ?_
  intro j hl
  simp
  intro hj
  have hc := hl (j + 1) (by omega)
  have hw := wrap_succ j _ hj (by simp)
  simp at hc hw
  have hj' : j < b.branches.length := by omega
  obtain ⟨v, hr, e, rfl⟩ := ih a.branches[j] (by simp) b.branches[j].tree
  simp [get_some hj, get_some hj', hw, hc, wc_ret hr]
theorem e31 : ∀ a : Tre, ∃ v, Ret T 31 [encTr a, encTr a] v ∧ v = .b true := by
  refine Tre.ind fun a ih => ?_
  refine ret_of rfl rfl (by simp) ?_
  simp [fr0]
  refine wk_loop (fun (j : Nat) => [(5, .i .i64 j)]) (fun _ => []) (fun j => a.branches.length - j) 0 (by rfl) (by rfl) ?_
  intro j hl
  simp
  intro hj
  have hc := hl (j + 1) (by omega)
  have hw := wrap_succ j _ hj (by simp)
  simp at hc hw
  obtain ⟨v, hr, rfl⟩ := ih a.branches[j] (by simp)
  simp [get_some hj, hw, hc, wc_ret hr]
open Classical in
noncomputable def g31 (a b : Tre) : Bool := if h : ∃ e, Ret T 31 [encTr a, encTr b] (.b e) then h.choose else true
theorem r31 (a b : Tre)  : Ret T 31 [encTr a, encTr b] (.b (g31 a b)) := by
  have h := ex_b (t31 a b )
  unfold g31; rw [dif_pos h]; exact h.choose_spec
@[simp] theorem c31 (a b : Tre)  : WC T (.fn 31) [encTr a, encTr b] dd ops keep dr K F H Q ↔ WO T ops keep dr K (F.put dd (.b (g31 a b))) H Q := wc_ret (r31 a b )
@[simp] theorem g31_self (a : Tre)  : g31 a a = true := by
  obtain ⟨v, hv, rfl⟩ := e31 a 
  have := ret_eq hv (r31 a a )
  simp at this; first | exact this | exact this.symm
@[simp] theorem c29z (t : Tm) : WC T (.fn 29) [encT t, .agg [.i .i64 0, .i .i64 0, .s ⟨#[]⟩, .list 2 [] false, .list 5 [] false]] dd ops keep dr K F H Q ↔ WO T ops keep dr K (F.put dd (.b (g29 t .zero))) H Q := by
  rw [← encT_zero]; exact c29 t .zero
@[simp] theorem c31z (t : Tre) : WC T (.fn 31) [encTr t, .agg [.i .i64 0, .i .i64 0, .i .i64 0, .s ⟨#[]⟩, .list 2 [] false, .list 5 [] false, .i .i64 0, .list 10 [] false]] dd ops keep dr K F H Q ↔ WO T ops keep dr K (F.put dd (.b (g31 t .zero))) H Q := by
  rw [← encTr_zero]; exact c31 t .zero
theorem t73 (t : Tm) : ∃ v, Ret T 73 [encT t] v ∧ IsB v := by
  refine ret_of rfl rfl (by simp) ?_
  simp [fr0]
noncomputable def g73 (t : Tm) : Bool := (ex_b (t73 t)).choose
theorem r73 (t : Tm) : Ret T 73 [encT t] (.b (g73 t)) := (ex_b (t73 t)).choose_spec
@[simp] theorem c73 (t : Tm) : WC T (.fn 73) [encT t] dd ops keep dr K F H Q ↔ WO T ops keep dr K (F.put dd (.b (g73 t))) H Q := wc_ret (r73 t)
theorem sameLv (a : List Level) (ha : a.length < 1073741824) : encT (.flat 3 0 ⟨#[]⟩ ⟨a, ha⟩) = .agg [.i .i64 3, .i .i64 0, .s ⟨#[]⟩, .list 2 (List.map encL a) false, .list 5 [] false] := rfl
@[simp] theorem c29l (a b : List Level) (ha : a.length < 1073741824) (hb : b.length < 1073741824) : WC T (.fn 29) [.agg [.i .i64 3, .i .i64 0, .s ⟨#[]⟩, .list 2 (List.map encL a) false, .list 5 [] false], .agg [.i .i64 3, .i .i64 0, .s ⟨#[]⟩, .list 2 (List.map encL b) false, .list 5 [] false]] dd ops keep dr K F H Q ↔ WO T ops keep dr K (F.put dd (.b (g29 (.flat 3 0 ⟨#[]⟩ ⟨a, ha⟩) (.flat 3 0 ⟨#[]⟩ ⟨b, hb⟩)))) H Q := by
  rw [← sameLv a ha, ← sameLv b hb]; exact c29 _ _
theorem e11 (a : List Level) (ha : a.length < 1073741824) : ∃ v, Ret T 11 [.list 2 (List.map encL a) false, .list 2 (List.map encL a) false] v ∧ v = .b true := by
  refine ret_of rfl rfl (by simp) ?_
  simp [fr0, ha]
theorem e10 (a : Decl) : ∃ v, Ret T 10 [encD a, encD a] v ∧ v = .b true := by
  refine ret_of rfl rfl (by simp) ?_
  simp [fr0]
  refine wk_loop (fun (j : Nat) => [(5, .i .i64 j)]) (fun _ => []) (fun j => a.ctors.length - j) 0 (by rfl) (by rfl) ?_
  intro j hl
  simp
  constructor
  · intro hj
    have hc := hl (j + 1) (by omega)
    have hw := wrap_succ j _ hj (by simp)
    simp at hc hw
    simp [get_some hj, hw, hc]
  · intro hj
    clear hl hj
    refine wk_loop (fun (j : Nat) => [(6, .i .i64 j)]) (fun _ => []) (fun j => a.funs.length - j) 0 (by rfl) (by rfl) ?_
    intro j hl
    simp
    intro hj
    have hc := hl (j + 1) (by omega)
    have hw := wrap_succ j _ hj (by simp)
    simp at hc hw
    simp [get_some hj, hw, hc]
end Go.Iv.Ir
