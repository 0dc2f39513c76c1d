/- What the builder of product types returns: it goes over the telescope from behind. No conditions. -/
import Derived.Test.YtpgojhgfhhgomaaSpO
namespace Go.Iv.Ir
open Go.Iv
set_option maxRecDepth 100000
set_option linter.unusedVariables false
set_option linter.unusedSimpArgs false
attribute [local irreducible] limit
variable {K : List Kt} {F : Fr} {H : Hp} {Q : QQ} {ops : List Ins} {keep : List Nat} {dr : Bool} {dd : Option Nat}
def rf71 : IC × IC := match i71.code with
  | .seq _ (.seq (.seq _ (.block _ (.rf _ _ _ a b))) _) => (a, b)
  | _ => (.skip, .skip)
def LRg (k : Int) (st : LSt) (pend : Ex) : LR := { tm := look [(2, .cptr [.i .i64 k]), (4, .gptr 0 0)], params := [10, 11], asg := rf71.1, body := rf71.2, st := st, pend := pend }
def Lg (id : Nat) (k : Int) (u : Tm) (H : Hp) : Prop := H.ob id = some (.lp (LRg k .ready .normal)) ∧ H.ob 0 = some (.cells (encT u).cells)
def IsG (id nx : Nat) (k : Int) (u : Tm) (v : V) (H : Hp) : Prop := v = .b true ∧ Lg id k u H ∧ H.next = nx
theorem yg {id : Nat} (h2 : 1 ≤ id) {k i : Int} {u a : Tm} (hq : 1 + a.sz + u.sz < 1073741824) (hL : Lg id k u H) : ∃ n v H', run T n (.yld id) [.i .i64 i, encT a] H = some (.ret v, H') ∧ IsG id H.next k (mk2 k a u) v H' := by
  obtain ⟨h, h0⟩ := hL
  refine run_yld h rfl rfl ?_
  have i0 : ¬ 0 = id := by omega
  have j0 : ¬ id = 0 := by omega
  have hcell := mk2_cells (k := k) hq
  simp [LRg, setParams, rf71, i71, roundA_n, h]
  simp [roundE_n, h0, i0, j0]
  refine ⟨rfl, ⟨?_, ?_⟩, rfl⟩
  · simp; rfl
  · rw [hcell]; simp [i0]
def IsPs (id nx : Nat) (k : Int) (u : Tm) (v : V) (H : Hp) : Prop := v = .tuple [] ∧ Lg id k u H ∧ H.next = nx
def overT (k : Int) (ctx : List Tm) (t : Tm) : Tm := ctx.foldr (fun a t => mk2 k a t) t
@[simp] theorem overT_nil (k : Int) (t : Tm) : overT k [] t = t := rfl
@[simp] theorem overT_cons (k : Int) (t a : Tm) (l : List Tm) : overT k (a :: l) t = mk2 k a (overT k l t) := rfl
theorem overT_sz (k : Int) : ∀ (ctx : List Tm) (t : Tm), t.sz + szs ctx < 1073741824 → (overT k ctx t).sz = t.sz + szs ctx
  | [], t, h => rfl
  | a :: l, t, h => by
    simp at h ⊢
    have := overT_sz k l t (by omega)
    rw [mk2_sz (by omega)]; omega
theorem szs_drop_le {l : List Tm} (j : Nat) : szs (l.drop j) ≤ szs l := by
  have : szs l = szs (l.take j) + szs (l.drop j) := by rw [← szs_append, List.take_append_drop]
  omega
theorem t82 {id : Nat} (h2 : 1 ≤ id) {k : Int} (ctx : List Tm) (t : Tm) (hl : ctx.length < 1073741824) (hb : t.sz + szs ctx < 1073741824) (hL : Lg id k t H) : ∃ n v H', run T n (.fn 82) [.yld id, .cptr [.list 5 (List.map encT ctx) false]] H = some (.ret v, H') ∧ IsPs id H.next k (overT k ctx t) v H' := by
  refine run_ofH rfl rfl ?_
  have hw0 : IntKind.i64.wrap ((ctx.length : Int) - 1) = (ctx.length : Int) - 1 := by rw [IntKind.wrap_i64]; omega
  simp [fr0, hw0]
  refine wk_loopH (α := {p : Nat × Hp // p.1 ≤ ctx.length ∧ Lg id k (overT k (ctx.drop p.1) t) p.2 ∧ p.2.next = H.next}) (fun p => [(3, .i .i64 ((p.1.1 : Int) - 1))]) (fun _ => []) (fun p => p.1.2) (fun p => p.1.1) ⟨(ctx.length, H), by simp, by simpa using hL, rfl⟩ (by rfl) (by rfl) rfl ?_
  rintro ⟨⟨j, H1⟩, hle, hL1, hnx⟩ hl1
  dsimp only at hle hL1 hnx
  cases j with
  | zero =>
    simp
    exact ⟨[], H1, by simp, rfl, by simpa using hL1, hnx⟩
  | succ j =>
    have hj : j < ctx.length := by omega
    have hq : 1 + ctx[j].sz + (overT k (ctx.drop (j + 1)) t).sz < 1073741824 := by
      have e1 := szs_drop hj
      have e2 := szs_drop_le (l := ctx) j
      rw [overT_sz k _ _ (by omega)]; omega
    obtain ⟨n, v, H', hr, rfl, hL', hnx'⟩ := yg h2 (i := j) hq hL1
    have hw : IntKind.i64.wrap ((j : Int) - 1) = (j : Int) - 1 := by rw [IntKind.wrap_i64]; omega
    have hc := hl1 ⟨(j, H'), by show j ≤ _; omega, by
      show Lg id k (overT k (ctx.drop j) t) H'
      rw [List.drop_eq_getElem_cons hj]; exact hL', by show H'.next = _; rw [hnx', hnx]⟩ (by simp)
    simp at hc
    simp [get_some hj, wc_run hr, hw, hc]
def Is72 (ctx : List Tm) (v : V) : Prop := v = .fn (.func 82) [] [.cptr [.list 5 (List.map encT ctx) false]]
theorem t72 (ctx : List Tm) : ∃ v, Ret T 72 [.list 5 (List.map encT ctx) false] v ∧ Is72 ctx v := by
  refine ret_of rfl rfl (by simp) ?_
  simp [fr0, capsV, frz, Is72]
theorem r72 (ctx : List Tm) : Ret T 72 [.list 5 (List.map encT ctx) false] (.fn (.func 82) [] [.cptr [.list 5 (List.map encT ctx) false]]) := by
  obtain ⟨v, h, rfl⟩ := t72 ctx
  exact h
def Is55 (k : Int) (v : V) : Prop := v = .fn (.func 71) [] [.cptr [.i .i64 k]]
theorem t55 (k : Int) : ∃ v, Ret T 55 [.i .i64 k] v ∧ Is55 k v := by
  refine ret_of rfl rfl (by simp) ?_
  simp [fr0, capsV, frz, Is55]
theorem r55 (k : Int) : Ret T 55 [.i .i64 k] (.fn (.func 71) [] [.cptr [.i .i64 k]]) := by
  obtain ⟨v, h, rfl⟩ := t55 k
  exact h
theorem t71 (k : Int) (ctx : List Tm) (t : Tm) (hl : ctx.length < 1073741824) (hb : t.sz + szs ctx < 1073741824) : ∃ v, Ret T 71 [.list 5 (List.map encT ctx) false, encT t, .cptr [.i .i64 k]] v ∧ IsT (overT k ctx t) v := by
  refine ret_of rfl rfl (by simp) ?_
  have e0 : Hp.empty.next = 0 := rfl
  have hr := r72 ctx
  simp [fr0, e0, wc_ret hr]
  generalize hH : Hp.new Hp.empty _ = H0
  have n0 : H0.next = 1 := by rw [← hH]; rfl
  have o0 : H0.ob 0 = some (.cells (encT t).cells) := by rw [← hH]; simp [e0]
  have hz : Lg 1 k t (H0.new (.lp (LRg k .ready .normal))) := ⟨by simp [n0], by simp [n0, o0]⟩
  obtain ⟨n, v, H', hr, rfl, hL', hnx⟩ := t82 (Nat.le_refl 1) ctx t hl hb hz
  rw [← n0] at hr
  refine wk_rf (L := LRg k .ready .normal) (by simp [Fr.frzAll, frz]; exact ⟨rfl, rfl, rfl⟩) hr (by rw [n0]; exact hL'.1) (by simp [LRg]) ?_
  have g0 := hL'.2
  simp [LRg, Fr.frzAll, frz, n0, g0]
theorem r71 (k : Int) (ctx : List Tm) (t : Tm) (hl : ctx.length < 1073741824) (hb : t.sz + szs ctx < 1073741824) : Ret T 71 [.list 5 (List.map encT ctx) false, encT t, .cptr [.i .i64 k]] (encT (overT k ctx t)) := by
  obtain ⟨v, h, rfl⟩ := t71 k ctx t hl hb
  exact h
theorem t36 (ctx : List Tm) (t : Tm) (hl : ctx.length < 1073741824) (hb : t.sz + szs ctx < 1073741824) : ∃ v, Ret T 36 [.list 5 (List.map encT ctx) false, encT t] v ∧ IsT (overT 6 ctx t) v := by
  have h1 := r55 6
  have h2 := r71 6 ctx t hl hb
  refine ret_of rfl rfl (by simp) ?_
  simp [fr0, wc_ret h1, wc_ret h2]
theorem r36 (ctx : List Tm) (t : Tm) (hl : ctx.length < 1073741824) (hb : t.sz + szs ctx < 1073741824) : Ret T 36 [.list 5 (List.map encT ctx) false, encT t] (encT (overT 6 ctx t)) := by
  obtain ⟨v, h, rfl⟩ := t36 ctx t hl hb
  exact h
end Go.Iv.Ir
