/- What the taking apart of an application returns: the arguments are collected in an array, which is reversed. No conditions. -/
import Derived.Test.YtpgojhgfhhgomaaSpF
import Derived.Test.YtpgojhgfhhgomaaIvWq
namespace Go.Iv.Ir
open Go.Iv
set_option maxRecDepth 100000
set_option linter.unusedVariables false
set_option linter.unusedSimpArgs false
attribute [local irreducible] limit
variable {K : List Kt} {F : Fr} {H : Hp} {Q : QQ} {ops : List Ins} {keep : List Nat} {dr : Bool} {dd : Option Nat}
/-- reversed as far as i -/
def Rv (l : List Tm) (i : Nat) (r : List Tm) : Prop := r.length = l.length ∧ ∀ k, k < l.length → r[k]? = if k < i ∨ l.length ≤ k + i then l[l.length - 1 - k]? else l[k]?
def RvS (l : List Tm) (id nx : Nat) (p : Nat × Nat × List Tm × Hp) : Prop :=
  p.1 + p.2.1 + 1 = l.length ∧ p.1 ≤ p.2.1 + 1 ∧ Rv l p.1 p.2.2.1 ∧ p.2.2.2.ob id = some (.arr 5 (List.map encT p.2.2.1)) ∧ p.2.2.2.next = nx
theorem rv_done {l r : List Tm} {i j : Nat} (h : Rv l i r) (hij : i + j + 1 = l.length) (hle : ¬ i < j) (hle2 : i ≤ j + 1) : r = l.reverse := by
  apply List.ext_getElem?
  intro k
  by_cases hk : k < l.length
  · rw [h.2 k hk, List.getElem?_reverse hk]
    split
    · rfl
    · rename_i hn
      have : l.length - 1 - k = k := by omega
      rw [this]
  · have h1 : r[k]? = none := by simp [h.1]; omega
    have h2 : l.reverse[k]? = none := by simp; omega
    rw [h1, h2]
theorem rv_step {l r : List Tm} {i j : Nat} (h : Rv l i r) (hij : i + j + 1 = l.length) (hlt : i < j) (hi : i < r.length) (hj : j < r.length) : Rv l (i + 1) ((r.set i r[j]).set j r[i]) := by
  have hl := h.1
  refine ⟨by simp [hl], fun k hk => ?_⟩
  have e1 : r[i]? = l[i]? := by rw [h.2 i (by omega), if_neg (by omega)]
  have e2 : r[j]? = l[j]? := by rw [h.2 j (by omega), if_neg (by omega)]
  rw [get_some hi] at e1
  rw [get_some hj] at e2
  rw [List.getElem?_set, List.getElem?_set]
  by_cases c1 : j = k
  · subst c1
    simp [hj]
    rw [e1, if_pos (by omega)]
    congr 1; omega
  · by_cases c2 : i = k
    · subst c2
      simp [hi, c1]
      rw [e2]
      congr 1; omega
    · simp [c1, c2]
      rw [h.2 k hk]
      by_cases c3 : k < i ∨ l.length ≤ k + i
      · rw [if_pos c3, if_pos (by omega)]
      · rw [if_neg c3, if_neg (by omega)]
def IsRv (id nx : Nat) (l : List Tm) (v : V) (H' : Hp) : Prop := v = .tuple [] ∧ H'.ob id = some (.arr 5 (List.map encT l.reverse)) ∧ H'.next = nx
theorem t48 (H : Hp) (id : Nat) (l : List Tm) (hl : l.length < 1073741824) (h0 : 0 < l.length) (hob : H.ob id = some (.arr 5 (List.map encT l))) :
    ∃ n v H', run T n (.fn 48) [.hs 5 id 0 l.length] H = some (.ret v, H') ∧ IsRv id H.next l v H' := by
  obtain ⟨m, hm⟩ : ∃ m, l.length = m + 1 := ⟨l.length - 1, by omega⟩
  have hw0 : IntKind.i64.wrap (m : Int) = (m : Int) := by rw [IntKind.wrap_i64]; omega
  refine run_ofH rfl rfl ?_
  simp [fr0, hm, hw0]
  refine wk_loopH (α := {p : Nat × Nat × List Tm × Hp // RvS l id H.next p}) (fun p => [(2, .i .i64 p.1.1), (3, .i .i64 p.1.2.1)]) (fun _ => []) (fun p => p.1.2.2.2) (fun p => p.1.2.1) ⟨(0, m, l, H), by
    refine ⟨by simp [hm], by simp, ⟨rfl, fun k hk => ?_⟩, hob, rfl⟩
    rw [if_neg (by omega)]⟩ (by rfl) (by rfl) rfl ?_
  rintro ⟨⟨i, j, r, H1⟩, hij, hle, hrv, hob1, hnx⟩ hl1
  dsimp only at hij hle hrv hob1 hnx
  have hrl := hrv.1
  simp
  constructor
  · intro hlt
    have hi : i < r.length := by omega
    have hj : j < r.length := by omega
    have hw := wrap_succ i r.length hi (by omega)
    have hw2 : IntKind.i64.wrap ((j : Int) - 1) = ((j - 1 : Nat) : Int) := by rw [IntKind.wrap_i64]; omega
    have hin : i < m + 1 := by omega
    have hjn : j < m + 1 := by omega
    have hc := fun H' r' h => hl1 ⟨(i + 1, j - 1, r', H'), h⟩ (by simp; omega)
    simp at hc hw
    have g2 : ((List.map encT r).set i (encT r[j]))[j]? = some (encT r[j]) := by
      rw [List.getElem?_set]
      simp [get_some hj]; omega
    simp [hob1, hin, hjn, get_some hi, get_some hj, hw, hw2, g2]

    refine hc _ ((r.set i r[j]).set j r[i]) ⟨by simp; omega, by simp; omega, rv_step hrv hij hlt hi hj, ?_, ?_⟩
    · simp [List.map_set]
    · simp [hnx]
  · intro hlt
    exact ⟨[], H1, by simp, rfl, by rw [hob1, rv_done hrv hij (by omega) hle], hnx⟩
theorem t48e (H : Hp) : ∃ n, run T n (.fn 48) [.list 5 [] false] H = some (.ret (.tuple []), H) := by
  have : ∃ n v H', run T n (.fn 48) [.list 5 [] false] H = some (.ret v, H') ∧ (v = .tuple [] ∧ H' = H) := by
    refine run_ofH rfl rfl ?_
    have hw0 : IntKind.i64.wrap (0 - 1) = -1 := rfl
    have hw1 : IntKind.i64.wrap (-1) = -1 := rfl
    simp [fr0, hw0, hw1]
    refine wk_unroll ?_
    simp
  obtain ⟨n, v, H', h, rfl, rfl⟩ := this
  exact ⟨n, h⟩
/-- what is collected so far: nothing, or an array -/
def AccOk (acc : List Tm) (v : V) (H : Hp) : Prop := (acc = [] ∧ v = .list 5 [] true) ∨ (acc ≠ [] ∧ ∃ id, v = .hs 5 id 0 acc.length ∧ H.ob id = some (.arr 5 (List.map encT acc)) ∧ id < H.next)
theorem t24 (t : Tm) : ∃ v, Ret T 24 [encT t] v ∧ IsSp false t v := by
  refine ret_of rfl rfl (by simp) ?_
  simp [fr0]
  refine wk_loopH (α := {p : Tm × List Tm × V × Hp // (spineT p.1).2 ++ p.2.1.reverse = (spineT t).2 ∧ (spineT p.1).1 = (spineT t).1 ∧ AccOk p.2.1 p.2.2.1 p.2.2.2}) (fun p => [(4, p.1.2.2.1)]) (fun p => [(1, some (encT p.1.1).cells)]) (fun p => p.1.2.2.2) (fun p => p.1.1.sz) ⟨(t, [], .list 5 [] true, .empty), by simp [AccOk]⟩ (by rfl) (by simp) rfl ?_
  rintro ⟨⟨u, acc, v, H⟩, h1, h2, hacc⟩ hl
  dsimp only at h1 h2 hacc
  have hal : acc.length < 1073741824 := by
    have := congrArg List.length h1
    have := spineT_len' t
    simp at *; omega
  by_cases hk : u.kind = 4 ∧ u.kids.length = 2
  · obtain ⟨hk, hd⟩ := hk
    have hu := spineT_app hk hd
    have i0 : 0 < u.kids.length := by omega
    have i1 : 1 < u.kids.length := by omega
    have hc := fun (v' : V) (H' : Hp) (h : AccOk (acc ++ [u.kids[1]]) v' H') => hl ⟨(u.kids[0], acc ++ [u.kids[1]], v', H'), by rw [hu] at h1; simpa using h1, by rw [hu] at h2; exact h2, h⟩ (Tm.kid_sz (by simp))
    simp at hc
    rcases hacc with ⟨rfl, rfl⟩ | ⟨hne, id, rfl, hob, hid⟩
    · have h1' : 1 ≤ limit := lim_le (by omega)
      simp [hk, hd, get_some i0, get_some i1, h1']
      refine hc _ _ (Or.inr ⟨by simp, H.next, by simp, by simp, by simp⟩)
    · have hlim : acc.length + 1 ≤ limit := lim_le (by omega)
      simp [hk, hd, get_some i0, get_some i1, hob, hlim]
      refine hc _ _ (Or.inr ⟨by simp, H.next, by simp, by simp, by simp⟩)
  · have hu := spineT_no hk
    rw [hu] at h1 h2
    simp at h1 h2
    have hor : ((u.kind = 4) = True ∧ ¬ (u.kids.length : Int) = 2) ∨ ¬ u.kind = 4 := by
      by_cases h : u.kind = 4
      · left; exact ⟨by simp [h], fun c => hk ⟨h, by omega⟩⟩
      · right; exact h
    rcases hacc with ⟨rfl, rfl⟩ | ⟨hne, id, rfl, hob, hid⟩
    · obtain ⟨n, hr⟩ := t48e H
      rcases hor with ⟨e4, hd⟩ | hk
      · simp [e4, hd, wc_run hr, IsSp, ← h1, ← h2]
      · simp [hk, wc_run hr, IsSp, ← h1, ← h2]
    · have h0 : 0 < acc.length := List.length_pos_iff.2 hne
      obtain ⟨n, v, H', hr, rfl, hob', hnx⟩ := t48 H id acc hal h0 hob
      have htk : List.take acc.length (List.map encT acc).reverse = (List.map encT acc).reverse := by
        apply List.take_of_length_le; simp
      have hno : V.noidL (List.map encT acc).reverse = true := by rw [← List.map_reverse]; exact noid_Ts _
      rcases hor with ⟨e4, hd⟩ | hk
      · simp [e4, hd, wc_run hr, hob', IsSp, ← h1, ← h2, htk, hno]
      · simp [hk, wc_run hr, hob', IsSp, ← h1, ← h2, htk, hno]
theorem r24 (t : Tm) : Ret T 24 [encT t] (.tuple [encT (spineT t).1, .list 5 (List.map encT (spineT t).2) false]) := by
  obtain ⟨v, h, rfl⟩ := t24 t
  exact h
@[simp] theorem c24 (t : Tm) : WC T (.fn 24) [encT t] dd ops keep dr K F H Q ↔ WO T ops keep dr K (F.put dd (.tuple [encT (spineT t).1, .list 5 (List.map encT (spineT t).2) false])) H Q := wc_ret (r24 t)
end Go.Iv.Ir
