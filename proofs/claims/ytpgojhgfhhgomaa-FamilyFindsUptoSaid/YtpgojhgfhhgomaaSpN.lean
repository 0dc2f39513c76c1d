/- What the program's own comparison of terms returns, and its making of variables. No conditions. -/
import Derived.Test.YtpgojhgfhhgomaaSpM
namespace Go.Iv.Ir
open Go.Iv
set_option maxRecDepth 100000
set_option linter.unusedVariables false
set_option linter.unusedSimpArgs false
attribute [local irreducible] limit
variable {K : List Kt} {F : Fr} {H : Hp} {Q : QQ} {ops : List Ins} {keep : List Nat} {dr : Bool} {dd : Option Nat}
theorem t66 (a b : List LV) (ha : a.length < 1073741824) : ∃ v, Ret T 66 [.list 2 (List.map encLV a) false, .list 2 (List.map encLV b) false] v ∧ IsB v := by
  refine ret_of rfl rfl (by simp) ?_
  simp [fr0]
  intro h1
  refine wk_loop (fun (j : Nat) => [(13, .i .i64 j)]) (fun _ => []) (fun j => a.length - j) 0 (by rfl) (by rfl) ?_
  intro j hl
  simp
  intro hj
  have hc := hl (j + 1) (by omega)
  have hw := wrap_succ j _ hj ha
  have hj' : j < b.length := by omega
  simp at hc hw
  simp [get_some hj, get_some hj', hw, hc]
theorem t46 (a b : Level) : ∃ v, Ret T 46 [encL a, encL b] v ∧ IsB v := by
  obtain ⟨e, he⟩ := ex_b (t66 a.vars b.vars (by simp))
  refine ret_of rfl rfl (by simp) ?_
  simp [fr0, wc_ret he]
noncomputable def g46 (a b : Level) : Bool := (ex_b (t46 a b)).choose
theorem r46 (a b : Level) : Ret T 46 [encL a, encL b] (.b (g46 a b)) := (ex_b (t46 a b)).choose_spec
@[simp] theorem c46 (a b : Level) : WC T (.fn 46) [encL a, encL b] dd ops keep dr K F H Q ↔ WO T ops keep dr K (F.put dd (.b (g46 a b))) H Q := wc_ret (r46 a b)
theorem t45 (a b : List Level) (ha : a.length < 1073741824) : ∃ v, Ret T 45 [.list 2 (List.map encL a) false, .list 2 (List.map encL b) false, .fn (.func 46) [] []] v ∧ IsB v := by
  refine ret_of rfl rfl (by simp) ?_
  simp [fr0]
  intro h1
  refine wk_loop (fun (j : Nat) => [(17, .i .i64 j)]) (fun _ => []) (fun j => a.length - j) 0 (by rfl) (by rfl) ?_
  intro j hl
  simp
  intro hj
  have hc := hl (j + 1) (by omega)
  have hw := wrap_succ j _ hj ha
  have hj' : j < b.length := by omega
  simp at hc hw
  simp [get_some hj, get_some hj', hw, hc]
theorem t47 (a b : List Tm) (ha : a.length < 1073741824) (ih : ∀ x ∈ a, ∀ y, ∃ v, Ret T 23 [encT x, encT y] v ∧ IsB v) : ∃ v, Ret T 47 [.list 5 (List.map encT a) false, .list 5 (List.map encT b) false, .fn (.func 23) [] []] v ∧ IsB v := by
  refine ret_of rfl rfl (by simp) ?_
  simp [fr0]
  intro h1
  refine wk_loop (fun (j : Nat) => [(17, .i .i64 j)]) (fun _ => []) (fun j => a.length - j) 0 (by rfl) (by rfl) ?_
  intro j hl
  simp
  intro hj
  have hc := hl (j + 1) (by omega)
  have hw := wrap_succ j _ hj ha
  have hj' : j < b.length := by omega
  simp at hc hw
  obtain ⟨e, he⟩ := ex_b (ih a[j] (by simp) b[j])
  simp [get_some hj, get_some hj', hw, hc, wc_ret he]
theorem t23 : ∀ a b : Tm, ∃ v, Ret T 23 [encT a, encT b] v ∧ IsB v := by
  refine Tm.ind fun a ih => ?_
  intro b
  obtain ⟨e1, h1⟩ := ex_b (t45 a.levels b.levels (by simp))
  obtain ⟨e2, h2⟩ := ex_b (t47 a.kids b.kids (by simp) ih)
  refine ret_of rfl rfl (by simp) ?_
  simp [fr0, wc_ret h1, wc_ret h2]
noncomputable def g23 (a b : Tm) : Bool := (ex_b (t23 a b)).choose
theorem r23 (a b : Tm) : Ret T 23 [encT a, encT b] (.b (g23 a b)) := (ex_b (t23 a b)).choose_spec
@[simp] theorem c23 (a b : Tm) : WC T (.fn 23) [encT a, encT b] dd ops keep dr K F H Q ↔ WO T ops keep dr K (F.put dd (.b (g23 a b))) H Q := wc_ret (r23 a b)
theorem t52 (a b : List Tm) (ha : a.length < 1073741824) : ∃ v, Ret T 52 [.list 5 (List.map encT a) false, .list 5 (List.map encT b) false, .fn (.func 23) [] []] v ∧ IsB v := by
  obtain ⟨e2, h2⟩ := ex_b (t47 a b ha fun x _ y => t23 x y)
  refine ret_of rfl rfl (by simp) ?_
  simp [fr0, wc_ret h2]
open Classical in
noncomputable def g52 (a b : List Tm) : Bool := if h : ∃ e, Ret T 52 [.list 5 (List.map encT a) false, .list 5 (List.map encT b) false, .fn (.func 23) [] []] (.b e) then h.choose else true
@[simp] theorem c52 (a b : List Tm) (ha : a.length < 1073741824) : WC T (.fn 52) [.list 5 (List.map encT a) false, .list 5 (List.map encT b) false, .fn (.func 23) [] []] dd ops keep dr K F H Q ↔ WO T ops keep dr K (F.put dd (.b (g52 a b))) H Q := by
  apply wc_ret
  have h := ex_b (t52 a b ha)
  unfold g52; rw [dif_pos h]; exact h.choose_spec
@[simp] theorem c52t (a b : List Tm) (j : Nat) (ha : a.length < 1073741824) : WC T (.fn 52) [.list 5 (List.take j (List.map encT a)) false, .list 5 (List.map encT b) false, .fn (.func 23) [] []] dd ops keep dr K F H Q ↔ WO T ops keep dr K (F.put dd (.b (g52 (a.take j) b))) H Q := by
  rw [← List.map_take]; exact c52 (a.take j) b (by simp; omega)
/-- a variable -/
def vT (i : Int) : Tm := .flat 0 i noName ⟨[], by simp⟩
theorem encT_vT (i : Int) : encT (vT i) = .agg [.i .i64 0, .i .i64 i, .s ⟨#[]⟩, .list 2 [] false, .list 5 [] false] := rfl
/-- the variables of the first n binders, m further out -/
def varsT (n m : Nat) : List Tm := if 1 ≤ n ∧ n ≤ 4096 then (List.range n).map fun i => vT ((m + n - 1 - i : Nat) : Int) else []
theorem varsT_len (n m : Nat) : (varsT n m).length = if 1 ≤ n ∧ n ≤ 4096 then n else 0 := by
  unfold varsT; split <;> simp
def zT : V := .agg [.i .i64 0, .i .i64 0, .s ⟨#[]⟩, .list 2 [] true, .list 5 [] true]
def arrAt (n m j : Nat) : List V := (List.range j).map (fun i => encT (vT ((m + n - 1 - i : Nat) : Int))) ++ List.replicate (n - j) zT
theorem arr_get (n m j : Nat) (h : j < n) : (arrAt n m j)[j]? = some zT := by
  unfold arrAt
  rw [List.getElem?_append_right (by simp)]
  simp only [List.length_map, List.length_range, Nat.sub_self]
  obtain ⟨k, hk⟩ : ∃ k, n - j = k + 1 := ⟨n - j - 1, by omega⟩
  rw [hk]; rfl
theorem arr_step (n m j : Nat) (h : j < n) : (arrAt n m j).set j (encT (vT ((m + n - 1 - j : Nat) : Int))) = arrAt n m (j + 1) := by
  unfold arrAt
  rw [List.set_append_right _ _ (by simp)]
  obtain ⟨k, hk⟩ : ∃ k, n - j = k + 1 := ⟨n - j - 1, by omega⟩
  have hk2 : n - (j + 1) = k := by omega
  rw [hk, hk2]
  simp [List.range_succ, List.replicate_succ]
theorem arr_end (n m : Nat) : arrAt n m n = (List.range n).map (fun i => encT (vT ((m + n - 1 - i : Nat) : Int))) := by simp [arrAt]
def IsVs (n m : Nat) (v : V) : Prop := v = .list 5 (List.map encT (varsT n m)) true
theorem t34 (n m : Nat) (hn : n < 1073741824) (hm : m < 1099511627776) : ∃ v, Ret T 34 [.i .i64 n, .i .i64 m] v ∧ IsVs n m v := by
  refine ret_of rfl rfl (by simp) ?_
  by_cases h1 : n < 1
  · have h0 : n = 0 := by omega
    subst h0
    simp [fr0, IsVs, varsT]
  by_cases h2 : 4096 < n
  · have e1 : ¬ ((n : Int) < 1) := by omega
    have e2 : (4096 : Int) < n := by omega
    have e3 : ¬ n ≤ 4096 := by omega
    simp [fr0, e1, e2, IsVs, varsT, e3]
  have e1 : ¬ ((n : Int) < 1) := by omega
  have e2 : ¬ (4096 : Int) < n := by omega
  have e3 : ¬ ((m : Int) < 0) := by omega
  have hlim : n ≤ limit := lim_le (by omega)
  have e0 : Hp.empty.next = 0 := rfl
  simp [fr0, e1, e2, e3, hlim, e0, elemOf]
  refine wk_loopH (α := {p : Nat × Hp // p.1 ≤ n ∧ p.2.ob 0 = some (.arr 5 (arrAt n m p.1))}) (fun p => [(21, .i .i64 p.1.1)]) (fun _ => []) (fun p => p.1.2) (fun p => n - p.1.1) ⟨(0, _), by simp, ?_⟩ (by rfl) (by rfl) rfl ?_
  · simp [arrAt, e0, zT]
  rintro ⟨⟨j, H⟩, hle, hob⟩ hl
  dsimp only at hle hob
  simp
  constructor
  · intro hj
    have hw := wrap_succ j n hj hn
    have hv : IntKind.i64.wrap (IntKind.i64.wrap (IntKind.i64.wrap ((m : Int) + n) - 1) - j) = ((m + n - 1 - j : Nat) : Int) := by
      rw [show IntKind.i64.wrap ((m : Int) + n) = (m : Int) + n by rw [IntKind.wrap_i64]; omega]
      rw [show IntKind.i64.wrap ((m : Int) + n - 1) = (m : Int) + n - 1 by rw [IntKind.wrap_i64]; omega]
      rw [IntKind.wrap_i64]; omega
    have hz : ofCells zT [.i .i64 0, .i .i64 ((m + n - 1 - j : Nat) : Int), .s ⟨#[]⟩, .list 2 [] false, .list 5 [] false] = encT (vT ((m + n - 1 - j : Nat) : Int)) := rfl
    have hc := fun H' h => hl ⟨(j + 1, H'), hj, h⟩ (by simp; omega)
    simp at hc hw
    simp [hob, hj, hw, hv, arr_get n m j hj]
    refine ⟨by simp [zT], hc _ ?_⟩
    have hd : List.drop 5 zT.cells = [] := rfl
    simp only [hd, hp_put_ob, upd_eq, hz, arr_step n m j hj]
  · intro hj
    have : j = n := by omega
    subst this
    have hl2 : (arrAt j m j).length = j := by simp [arrAt]
    have hj0 : 0 < j := by omega
    have htk : List.take j (arrAt j m j) = List.map encT (varsT j m) := by
      rw [List.take_of_length_le (by omega), arr_end]
      unfold varsT
      rw [if_pos (by omega), List.map_map]; rfl
    simp [hob, hl2, htk, hj0, IsVs]
theorem r34 (n m : Nat) (hn : n < 1073741824) (hm : m < 1099511627776) : Ret T 34 [.i .i64 n, .i .i64 m] (.list 5 (List.map encT (varsT n m)) true) := by
  obtain ⟨v, h, rfl⟩ := t34 n m hn hm
  exact h
@[simp] theorem c34 (n m : Nat) (hn : n < 1073741824) (hm : m < 1099511627776) : WC T (.fn 34) [.i .i64 n, .i .i64 m] dd ops keep dr K F H Q ↔ WO T ops keep dr K (F.put dd (.list 5 (List.map encT (varsT n m)) true)) H Q := wc_ret (r34 n m hn hm)
end Go.Iv.Ir
