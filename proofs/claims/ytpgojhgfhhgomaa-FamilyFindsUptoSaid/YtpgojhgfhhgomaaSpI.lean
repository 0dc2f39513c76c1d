/- What the program's search for a name and its Applied return. No conditions. -/
import Derived.Test.YtpgojhgfhhgomaaSpH
namespace Go.Iv.Ir
open Go.Iv
set_option maxRecDepth 100000
set_option linter.unusedVariables false
set_option linter.unusedSimpArgs false
attribute [local irreducible] limit
variable {K : List Kt} {F : Fr} {H : Hp} {Q : QQ} {ops : List Ins} {keep : List Nat} {dr : Bool} {dd : Option Nat}
@[simp] theorem c49 (d : Decl) (a : Int) : WC T (.fn 49) [encD d, .i .i64 a] dd ops keep dr K F H Q ↔ WO T ops keep dr K (F.put dd (.fn (.func 67) [] [.cptr [.i .i64 a], .cptr (encD d).cells])) H Q := wc_ret (r49 d a)
def Hz (H : Hp) : Prop := H.ob 0 = some (.cells zE) ∧ H.ob 1 = some (.cells [.i .i64 0]) ∧ 2 ≤ H.next
theorem t25 (env : List Decl) (he : env.length < 1073741824) (nm : ByteArray) : ∃ v, Ret T 25 [.list 23 (List.map encD env) false, .s nm] v ∧ IsFd env nm v := by
  refine ret_of rfl rfl (by simp) ?_
  have e0 : Hp.empty.next = 0 := rfl
  simp [fr0, e0]
  refine wk_loopH (α := {p : Nat × Bool × Hp // NF nm env p.1 ∧ Hz p.2.2}) (fun p => [(12, .i .i64 p.1.1), (3, if p.1.2.1 then .cptr [.s nm] else .lptr 3 0)]) (fun p => [(3, if p.1.2.1 then none else some [.s nm])]) (fun p => p.1.2.2) (fun p => env.length - p.1.1) ⟨(0, false, _), nf_zero, ?_⟩ (by rfl) (by rfl) rfl ?_
  · exact ⟨rfl, rfl, by simp [Hp.empty]⟩
  rintro ⟨⟨j, b, H⟩, hnf, h0, h1, h2⟩ hl
  dsimp only at hnf h0 h1 h2
  have i0 : ¬ 0 = H.next := by omega
  have i1 : ¬ 1 = H.next := by omega
  have hz : Li H.next nm (H.new (.lp (LRf nm .ready .normal))) none := by
    refine ⟨by simp, ?_, ?_⟩
    · simp [i0, h0]
    · simp [i1, h1]
  cases b with
  | false =>
    simp
    constructor
    · intro hj
      have hw := wrap_succ j _ hj he
      simp at hw
      simp [get_some hj]
      obtain ⟨n, v, H', hr, rfl, hL', hnx⟩ := t67 h2 env[j] j hz
      cases hx : entryOf env[j] j nm with
      | none =>
        rw [hx] at hL'
        have hx0 : (entryOf env[j] 0 nm).isSome = false := by rw [entryOf_some _ 0 j, hx]; rfl
        have hc := hl ⟨(j + 1, true, H'.put H.next none), nf_succ hnf (get_some hj) hx0, by simp [i0]; exact hL'.2.1, by simp [i1]; exact hL'.2.2, by simp [hnx]; omega⟩ (by simp; omega)
        simp at hc
        refine wk_rf (L := LRf nm .ready .normal) (by simp [Fr.frzAll, frz]; exact ⟨rfl, rfl, rfl⟩) hr hL'.1 (by simp [LRf]) ?_
        simp [LRf, Fr.frzAll, frz, hw, hc]
      | some e =>
        rw [hx] at hL'
        have hf := findE_hit (k := 0) hnf (get_some hj) (by simpa using hx)
        have g0 : H'.ob 0 = some (.cells (encE e).cells) := hL'.2.1
        have g1 : H'.ob 1 = some (.cells [.i .i64 0]) := hL'.2.2
        refine wk_rf (L := LRf nm .done .ret) (by simp [Fr.frzAll, frz]; exact ⟨rfl, rfl, rfl⟩) hr hL'.1 (by simp [LRf]) ?_
        simp [LRf, Fr.frzAll, frz, i0, i1, g0, g1, IsFd, findR, hf]
    · intro hj
      have hf := findE_none (k := 0) hnf hj
      simp [h0, h1, zE, IsFd, findR, hf, encE_zero]
  | true =>
    simp
    constructor
    · intro hj
      have hw := wrap_succ j _ hj he
      simp at hw
      simp [get_some hj]
      obtain ⟨n, v, H', hr, rfl, hL', hnx⟩ := t67 h2 env[j] j hz
      cases hx : entryOf env[j] j nm with
      | none =>
        rw [hx] at hL'
        have hx0 : (entryOf env[j] 0 nm).isSome = false := by rw [entryOf_some _ 0 j, hx]; rfl
        have hc := hl ⟨(j + 1, true, H'.put H.next none), nf_succ hnf (get_some hj) hx0, by simp [i0]; exact hL'.2.1, by simp [i1]; exact hL'.2.2, by simp [hnx]; omega⟩ (by simp; omega)
        simp at hc
        refine wk_rf (L := LRf nm .ready .normal) (by simp [Fr.frzAll, frz]; exact ⟨rfl, rfl, rfl⟩) hr hL'.1 (by simp [LRf]) ?_
        simp [LRf, Fr.frzAll, frz, hw, hc]
      | some e =>
        rw [hx] at hL'
        have hf := findE_hit (k := 0) hnf (get_some hj) (by simpa using hx)
        have g0 : H'.ob 0 = some (.cells (encE e).cells) := hL'.2.1
        have g1 : H'.ob 1 = some (.cells [.i .i64 0]) := hL'.2.2
        refine wk_rf (L := LRf nm .done .ret) (by simp [Fr.frzAll, frz]; exact ⟨rfl, rfl, rfl⟩) hr hL'.1 (by simp [LRf]) ?_
        simp [LRf, Fr.frzAll, frz, i0, i1, g0, g1, IsFd, findR, hf]
    · intro hj
      have hf := findE_none (k := 0) hnf hj
      simp [h0, h1, zE, IsFd, findR, hf, encE_zero]
theorem r25 (env : List Decl) (he : env.length < 1073741824) (n : ByteArray) : Ret T 25 [.list 23 (List.map encD env) false, .s n] (.tuple [encE (findR env n).1, .i .i64 (findR env n).2]) := by
  obtain ⟨v, h, rfl⟩ := t25 env he n
  exact h
@[simp] theorem c25 (env : List Decl) (he : env.length < 1073741824) (n : ByteArray) : WC T (.fn 25) [.list 23 (List.map encD env) false, .s n] dd ops keep dr K F H Q ↔ WO T ops keep dr K (F.put dd (.tuple [encE (findR env n).1, .i .i64 (findR env n).2])) H Q := wc_ret (r25 env he n)
theorem t8 (env : List Decl) (he : env.length < 1073741824) (hx : Fixd env) (t : Tm) : ∃ v, Ret T 8 [.list 23 (List.map encD env) false, encT t] v ∧ IsApp env t v := by
  refine ret_of rfl rfl (by simp) ?_
  by_cases h3 : (spineT t).1.kind = 3
  · have e3 : ((spineT t).1.kind = 3) = True := by simp [h3]
    by_cases hf : (findR env (spineT t).1.name).2 = 0
    · obtain ⟨i, d, hi, hd, _, _⟩ := findR_facts hf
      have ha : declAt env (findR env (spineT t).1.name).1 = d := by simp [declAt, hd, hi]
      have hfx : 0 ≤ d.fixed := hx d (List.mem_of_getElem? hi)
      have hidx : idx (.i .i64 d.fixed) = some d.fixed.toNat := by simp [idx, hfx]
      by_cases k3 : (findR env (spineT t).1.name).1.kind = 3
      · by_cases hl : (spineT t).2.length = (allT d.type).1.length
        · by_cases hle : d.fixed ≤ ((allT d.type).1.length : Int)
          · have hle2 : d.fixed.toNat ≤ (allT d.type).1.length := by omega
            have hnlt : ¬ ((allT d.type).1.length : Int) < d.fixed := by omega
            have htk : List.take (allT d.type).1.length (List.map encT (spineT t).2) = List.map encT (spineT t).2 := by rw [← hl]; simp
            simp [fr0, he, e3, hf, k3, hd, hi, hl, hle, hnlt, hidx, hle2, htk]
            simp [IsApp, appR, appV, h3, hf, k3, ha, hl, hle]
          · have hnlt : ((allT d.type).1.length : Int) < d.fixed := by omega
            simp [fr0, he, e3, hf, k3, hd, hi, hl, hnlt]
            simp [IsApp, appR, appV, h3, hf, k3, ha, hl, hle]
            rfl
        · have hl' : ¬ (((spineT t).2.length : Int) = (allT d.type).1.length) := by omega
          simp [fr0, he, e3, hf, k3, hd, hi, hl']
          simp [IsApp, appR, appV, h3, hf, k3, ha, hl]
          rfl
      · simp [fr0, he, e3, hf, k3]
        simp [IsApp, appR, appV, h3, hf, k3]
        rfl
    · simp [fr0, he, e3, hf]
      simp [IsApp, appR, appV, h3, hf]
      rfl
  · simp [fr0, he, h3]
    simp [IsApp, appR, appV, h3]
    rfl
end Go.Iv.Ir
