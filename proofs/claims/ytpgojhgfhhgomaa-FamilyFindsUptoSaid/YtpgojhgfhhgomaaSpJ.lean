/- The law FamilyApplied, of the machine: on every list of declarations and every term it returns true. No conditions. -/
import Derived.Test.YtpgojhgfhhgomaaSpI
namespace Go.Iv.Ir
open Go.Iv
set_option maxRecDepth 100000
set_option linter.unusedVariables false
set_option linter.unusedSimpArgs false
attribute [local irreducible] limit
variable {K : List Kt} {F : Fr} {H : Hp} {Q : QQ} {ops : List Ins} {keep : List Nat} {dr : Bool} {dd : Option Nat}
/-- a pure function's answer does not depend on the heap -/
theorem ret_pure {k n np : Nat} {res : List Res} {rclr : Bool} {code : IC} {args : List V} {v : V} {H0 H1 : Hp} (hk : T k = some ⟨np, res, rclr, true, code⟩) (h : run T n (.fn k) args H0 = some (.ret v, H1)) : Ret T k args v := by
  cases n with
  | zero => simp [run] at h
  | succ n =>
    refine ⟨n + 1, fun H => ?_⟩
    rw [run, hk] at h ⊢
    simp only [if_true] at h ⊢
    split at h
    · rename_i hn
      rw [if_pos hn]
      split at h
      · rename_i r q e
        split at h
        · rename_i hr
          cases h
          rw [if_pos hr]
        · cases h
      · cases h
    · cases h
@[simp] theorem c10 (d : Decl) : WC T (.fn 10) [encD d, encD d] dd ops keep dr K F H Q ↔ WO T ops keep dr K (F.put dd (.b true)) H Q := by
  obtain ⟨v, h, rfl⟩ := e10 d
  exact wc_ret h
@[simp] theorem c11 (a : List Level) (ha : a.length < 1073741824) : WC T (.fn 11) [.list 2 (List.map encL a) false, .list 2 (List.map encL a) false] dd ops keep dr K F H Q ↔ WO T ops keep dr K (F.put dd (.b true)) H Q := by
  obtain ⟨v, h, rfl⟩ := e11 a ha
  exact wc_ret h
@[simp] theorem c12s (a : List Tm) (ha : a.length < 1073741824) : WC T (.fn 12) [.list 5 (List.map encT a) false, .list 5 (List.map encT a) false] dd ops keep dr K F H Q ↔ WO T ops keep dr K (F.put dd (.b true)) H Q := by
  obtain ⟨v, h, rfl⟩ := e12 a ha
  exact wc_ret h
theorem appR_len (env : List Decl) (t : Tm) : (appR env t).2.1.length < 1073741824 ∧ (appR env t).2.2.1.length < 1073741824 ∧ (appR env t).2.2.2.1.length < 1073741824 := by
  have h1 := spineT_len' t
  have h2 := (spineT t).1.levels_len
  unfold appR
  split
  · refine ⟨h2, ?_, ?_⟩
    · simp; omega
    · simp; omega
  · exact ⟨by simp, by simp, by simp⟩
theorem t3 (h7 : Ret T 7 [] (.b true)) (env : List Decl) (he : env.length < 1073741824) (t : Tm) : ∃ v, Ret T 3 [.list 23 (List.map encD env) false, encT t] v ∧ v = .b true := by
  obtain ⟨v, h5, b, rfl, hb⟩ := t5 env he
  refine ret_of rfl rfl (by simp) ?_
  cases b with
  | false => simp [fr0, wc_ret h5, wc_ret h7]
  | true =>
    have hx := hb rfl
    obtain ⟨v, h8, rfl⟩ := t8 env he hx t
    obtain ⟨v, h9, rfl⟩ := t9 env he hx t
    obtain ⟨l1, l2, l3⟩ := appR_len env t
    generalize appR env t = r at h8 h9 l1 l2 l3
    obtain ⟨a, l, p, i, ok⟩ := r
    simp only [appV] at h8 h9 l1 l2 l3
    simp [fr0, wc_ret h5, wc_ret h7, wc_ret h8, wc_ret h9, l1, l2, l3]
end Go.Iv.Ir
