/- The calculus, for the heap: calls that change it, functions that are called with a yield, loops over functions. No conditions. -/
import Derived.Test.YtpgojhgfhhgomaaIvTy
namespace Go.Iv
set_option linter.unusedVariables false
set_option linter.unusedSimpArgs false
variable {T : Nat → Option IFn} {K : List Kt} {F : Fr} {H H' : Hp} {Q : QQ} {ops : List Ins} {keep : List Nat} {dr : Bool} {d : Option Nat}

@[simp] theorem hp_put_ob (H : Hp) (id : Nat) (o : Option Ob) : (H.put id o).ob = upd H.ob id o := rfl
@[simp] theorem hp_put_next (H : Hp) (id : Nat) (o : Option Ob) : (H.put id o).next = H.next := rfl
@[simp] theorem hp_new_ob (H : Hp) (o : Ob) : (H.new o).ob = upd H.ob H.next (some o) := rfl
@[simp] theorem hp_new_next (H : Hp) (o : Ob) : (H.new o).next = H.next + 1 := rfl
theorem wc_run {n : Nat} {tg : Tg} {args : List V} {v : V} (h : run T n tg args H = some (.ret v, H')) : WC T tg args d ops keep dr K F H Q ↔ WO T ops keep dr K (F.put d v) H' Q := by
  constructor
  · rintro ⟨m, r, H1, hr, q⟩
    have := run_det h hr
    cases this; exact q
  · intro q; exact ⟨n, _, _, h, q⟩
/-- a function that works on the heap: its end -/
def EndH (res : List Res) (rclr : Bool) (P : V → Hp → Prop) : QQ := fun ex F H => match ex with
  | .normal | .ret => ∃ vs H2, ressV F H res = some (vs, H2) ∧ P (packV (if rclr then vs.map (fun v => v.clr.hard) else vs.map V.give)) H2
  | _ => False
@[simp] theorem endH_ret (res : List Res) (rclr : Bool) (P : V → Hp → Prop) (F : Fr) (H : Hp) : EndH res rclr P .ret F H ↔ ∃ vs H2, ressV F H res = some (vs, H2) ∧ P (packV (if rclr then vs.map (fun v => v.clr.hard) else vs.map V.give)) H2 := Iff.rfl
@[simp] theorem endH_normal (res : List Res) (rclr : Bool) (P : V → Hp → Prop) (F : Fr) (H : Hp) : EndH res rclr P .normal F H ↔ ∃ vs H2, ressV F H res = some (vs, H2) ∧ P (packV (if rclr then vs.map (fun v => v.clr.hard) else vs.map V.give)) H2 := Iff.rfl
theorem run_ofH {k np : Nat} {res : List Res} {rclr : Bool} {code : IC} {args : List V} {P : V → Hp → Prop} (hk : T k = some ⟨np, res, rclr, false, code⟩) (hl : args.length = np)
    (h : WK T code [] (fr0 args) H (EndH res rclr P)) : ∃ n v H', run T n (.fn k) args H = some (.ret v, H') ∧ P v H' := by
  obtain ⟨n, ex, F', H', h, q⟩ := h
  simp only [rk_nil] at q
  have hr : ∃ vs H2, (ex = .normal ∨ ex = .ret) ∧ ressV F' H' res = some (vs, H2) ∧ P (packV (if rclr then vs.map (fun v => v.clr.hard) else vs.map V.give)) H2 := by
    unfold EndH at q
    split at q
    · obtain ⟨vs, H2, a, b⟩ := q; exact ⟨vs, H2, Or.inl rfl, a, b⟩
    · obtain ⟨vs, H2, a, b⟩ := q; exact ⟨vs, H2, Or.inr rfl, a, b⟩
    · exact q.elim
  obtain ⟨vs, H2, he, a, b⟩ := hr
  refine ⟨n + 1, _, H2, ?_, b⟩
  rw [run, hk]
  simp only [Bool.false_eq_true, if_false]
  unfold runFn
  rw [if_pos hl]
  have h' : exec (run T n) n code { tm := fun t => ((args[t]?).getD .junk).clr, bx := fun _ => none } H = some (ex, F', H') := h
  simp only [h']
  rcases he with rfl | rfl
  · simp only [a, Option.map_some]
  · simp only [a, Option.map_some]
/-- a call of a value -/
def WVc (T : Nat → Option IFn) (args : Option (List V)) (v : V) (d : Option Nat) (ops : List Ins) (keep : List Nat) (dr : Bool) (K : List Kt) (F : Fr) (H : Hp) (Q : QQ) : Prop :=
  match args, v with
  | some args, .fn (.func k) first cap => WC T (.fn k) (first ++ args ++ cap) d ops keep dr K F H Q
  | some args, .yld id => WC T (.yld id) args d ops keep dr K F H Q
  | _, _ => False
@[simp] theorem wvc_yld {args : List V} {id : Nat} : WVc T (some args) (.yld id) d ops keep dr K F H Q ↔ WC T (.yld id) args d ops keep dr K F H Q := Iff.rfl
@[simp] theorem wvc_fn {args first cap : List V} {k : Nat} : WVc T (some args) (.fn (.func k) first cap) d ops keep dr K F H Q ↔ WC T (.fn k) (first ++ args ++ cap) d ops keep dr K F H Q := Iff.rfl
@[simp] theorem wvc_ite {p : Prop} [Decidable p] {args : Option (List V)} {v : V} : WVc T (if p then args else none) v d ops keep dr K F H Q ↔ p ∧ WVc T args v d ops keep dr K F H Q := by
  split <;> simp_all [WVc]
theorem calls_wc {tg : Tg} {args : List V} : (∃ n ex F' H', (match calls (run T n) d tg args F H with | some (.normal, F', H') => execOps (run T n) ops F' H' | x => x) = some (ex, F', H') ∧ WOr T keep dr K Q ex F' H') ↔ WC T tg args d ops keep dr K F H Q := by
  constructor
  · rintro ⟨n, ex, F', H', h, q⟩
    simp only [calls] at h
    cases hr : run T n tg args H with
    | none => rw [hr] at h; cases h
    | some r =>
      obtain ⟨r, H1⟩ := r
      rw [hr] at h
      refine ⟨n, r, H1, hr, ?_⟩
      cases r with
      | ret v => exact ⟨n, _, _, _, h, q⟩
      | pan v => simp only at h; cases h; exact q
  · rintro ⟨n, r, H1, hr, q⟩
    cases r with
    | ret v =>
      obtain ⟨m, ex, F', H', h, q⟩ := q
      refine ⟨max n m, ex, F', H', ?_, q⟩
      simp only [calls, run_mono (Nat.le_max_left n m) _ _ _ _ hr]
      exact execOps_mono (run_mono (Nat.le_max_right n m)) h
    | pan v =>
      exact ⟨n, .panic v, F, H1, by simp only [calls, hr], q⟩
@[simp] theorem wx_callV {x : Rd} {xs : List Rd} : WX T d (.callV x xs) ops keep dr K F H Q ↔ WVc T (argsV F xs) (x.get F) d ops keep dr K F H Q := by
  unfold WX WO WVc
  simp only [execOps, stepO, wants]
  cases ha : argsV F xs with
  | none =>
    simp only
    constructor
    · rintro ⟨n, ex, F', H', h, q⟩; cases h
    · intro q; exact q.elim
  | some args =>
    cases hx : x.get F with
    | fn f first cap =>
      cases f with
      | func k => simp only; exact calls_wc
      | _ =>
        simp only
        constructor
        · rintro ⟨n, ex, F', H', h, q⟩; cases h
        · intro q; exact q.elim
    | yld id => simp only; exact calls_wc
    | _ =>
      simp only
      constructor
      · rintro ⟨n, ex, F', H', h, q⟩; cases h
      · intro q; exact q.elim
/-- a loop that changes the heap -/
theorem wk_loopH {α : Type} (U : α → List (Nat × V)) (UB : α → List (Nat × Option (List V))) (UH : α → Hp) (m : α → Nat) (a0 : α) {c : IC} {L : List (Nat × V)} {B : List (Nat × Option (List V))}
    (h0 : reps L (U a0) = L) (h1 : reps B (UB a0) = B) (h2 : UH a0 = H)
    (step : ∀ a, (∀ a', m a' < m a → WK T (.loop c) K ⟨look (reps L (U a')), lookB (reps B (UB a'))⟩ (UH a') Q) → WK T c (.lp c :: K) ⟨look (reps L (U a)), lookB (reps B (UB a))⟩ (UH a) Q) :
    WK T (.loop c) K ⟨look L, lookB B⟩ H Q := by
  have go : ∀ k a, m a < k → WK T (.loop c) K ⟨look (reps L (U a)), lookB (reps B (UB a))⟩ (UH a) Q := by
    intro k
    induction k with
    | zero => intro a h; omega
    | succ k ih => intro a h; exact wk_unroll (step a fun a' h' => ih a' (by omega))
  have := go _ a0 (Nat.lt_succ_self _)
  rwa [h0, h1, h2] at this
/-- a loop over a function -/
theorem wk_rf {f : Rd} {ps ks : List Nat} {asg body : IC} {k : Nat} {first cap : List V} {n : Nat} {v : V} {H2 : Hp} {L : LR}
    (hf : f.get (F.frzAll ks) = .fn (.func k) first cap)
    (hr : run T n (.fn k) (first ++ [.yld H.next] ++ cap) (H.new (.lp { tm := (F.frzAll ks).snap ks, params := ps, asg := asg, body := body, st := .ready, pend := .normal })) = some (.ret v, H2))
    (hL : H2.ob H.next = some (.lp L)) (hs : L.st ≠ .busy) (h : RK T L.pend K (F.frzAll ks) (H2.put H.next none) Q) : WK T (.rf f ps ks asg body) K F H Q := by
  refine ⟨n, L.pend, F.frzAll ks, H2.put H.next none, ?_, h⟩
  simp only [exec, hf, hr, hL, if_neg hs]
/-- a round of a loop over a function -/
def RoundE (id : Nat) (P : V → Hp → Prop) : QQ := fun e _ H2 => ∃ L2, H2.ob id = some (.lp L2) ∧ (match e with
  | .normal => P (.b true) (H2.put id (some (.lp { L2 with st := .ready, pend := .normal })))
  | .ret => P (.b false) (H2.put id (some (.lp { L2 with st := .done, pend := .ret })))
  | .exit j => P (.b false) (H2.put id (some (.lp { L2 with st := .done, pend := .exit j })))
  | _ => False)
def RoundA (T : Nat → Option IFn) (id : Nat) (body : IC) (P : V → Hp → Prop) : QQ := fun ex F H1 => ex = .normal ∧ ∃ L1, H1.ob id = some (.lp L1) ∧ L1.st = .ready ∧
  WK T body [] F (H1.put id (some (.lp { L1 with st := .busy }))) (RoundE id P)
theorem run_yld {id : Nat} {args : List V} {L : LR} {P : V → Hp → Prop} (hL : H.ob id = some (.lp L)) (hs : L.st = .ready) (hl : args.length = L.params.length)
    (h : WK T L.asg [] { tm := setParams (fun t => (L.tm t).clr) L.params args, bx := fun _ => none } H (RoundA T id L.body P)) : ∃ n v H', run T n (.yld id) args H = some (.ret v, H') ∧ P v H' := by
  obtain ⟨n, ex, F1, H1, h, q⟩ := h
  obtain ⟨rfl, L1, hL1, hs1, m, e, F2, H2, h2, L2, hL2, q⟩ := q
  have h1 := exec_up (m := max n m) (Nat.le_max_left n m) h
  have h2 := exec_up (m := max n m) (Nat.le_max_right n m) h2
  cases e with
  | normal =>
    refine ⟨max n m + 1, _, _, ?_, q⟩
    rw [run]
    simp only [hL, hs, hl, h1, hL1, hs1, true_and, if_true, and_self]
    rw [h2]
    simp only [hL2]
  | ret =>
    refine ⟨max n m + 1, _, _, ?_, q⟩
    rw [run]
    simp only [hL, hs, hl, h1, hL1, hs1, true_and, if_true, and_self]
    rw [h2]
    simp only [hL2]
  | exit j =>
    refine ⟨max n m + 1, _, _, ?_, q⟩
    rw [run]
    simp only [hL, hs, hl, h1, hL1, hs1, true_and, if_true, and_self]
    rw [h2]
    simp only [hL2]
  | panic v => exact q.elim
theorem hp_ext {a b : Hp} (h : a.next = b.next) (h2 : ∀ i, a.ob i = b.ob i) : a = b := by
  cases a; cases b; simp only at h h2; subst h; congr; funext i; exact h2 i
@[simp] theorem ofCells_T (t : Tm) (cs : List V) : ofCells (encT t) cs = .agg cs := by rw [encT_def]; rfl
end Go.Iv
