/- A calculus of weakest preconditions for the machine's code, without fuel, as rules for the simplifier. No conditions. -/
import Derived.Test.YtpgojhgfhhgomaaIvMono
namespace Go.Iv
set_option linter.unusedVariables false
set_option linter.unusedSimpArgs false

inductive Kt | code (c : IC) | blk (id : Nat) | lp (c : IC)
abbrev QQ := Ex → Fr → Hp → Prop
def Ws (T : Nat → Option IFn) (c : IC) (F : Fr) (H : Hp) (Q : QQ) : Prop := ∃ n ex F' H', exec (run T n) n c F H = some (ex, F', H') ∧ Q ex F' H'
def RK (T : Nat → Option IFn) (ex : Ex) : List Kt → Fr → Hp → QQ → Prop
  | [], F, H, Q => Q ex F H
  | .code c :: K, F, H, Q => match ex with | .normal => Ws T c F H (fun e F' H' => RK T e K F' H' Q) | e => RK T e K F H Q
  | .blk id :: K, F, H, Q => match ex with | .exit j => if j = id then RK T .normal K F H Q else RK T (.exit j) K F H Q | e => RK T e K F H Q
  | .lp c :: K, F, H, Q => match ex with | .normal => Ws T (.loop c) F H (fun e F' H' => RK T e K F' H' Q) | e => RK T e K F H Q
def WK (T : Nat → Option IFn) (c : IC) (K : List Kt) (F : Fr) (H : Hp) (Q : QQ) : Prop := Ws T c F H (fun e F' H' => RK T e K F' H' Q)
variable {T : Nat → Option IFn} {K : List Kt} {F : Fr} {H : Hp} {Q : QQ}

theorem exec_up {n m : Nat} (h : n ≤ m) {c : IC} {r : Ex × Fr × Hp} (hs : exec (run T n) n c F H = some r) : exec (run T m) m c F H = some r :=
  exec_mono (run_mono h) h hs

@[simp] theorem rk_nil {ex : Ex} : RK T ex [] F H Q ↔ Q ex F H := Iff.rfl
@[simp] theorem rk_code {c : IC} : RK T .normal (.code c :: K) F H Q ↔ WK T c K F H Q := Iff.rfl
@[simp] theorem rk_lp {c : IC} : RK T .normal (.lp c :: K) F H Q ↔ WK T (.loop c) K F H Q := Iff.rfl
@[simp] theorem rk_blk {id : Nat} : RK T .normal (.blk id :: K) F H Q ↔ RK T .normal K F H Q := Iff.rfl
@[simp] theorem rk_ret {k : Kt} : RK T .ret (k :: K) F H Q ↔ RK T .ret K F H Q := by cases k <;> exact Iff.rfl
@[simp] theorem rk_exit_blk {id j : Nat} : RK T (.exit j) (.blk id :: K) F H Q ↔ if j = id then RK T .normal K F H Q else RK T (.exit j) K F H Q := Iff.rfl
@[simp] theorem rk_exit_code {j : Nat} {c : IC} : RK T (.exit j) (.code c :: K) F H Q ↔ RK T (.exit j) K F H Q := Iff.rfl
@[simp] theorem rk_exit_lp {j : Nat} {c : IC} : RK T (.exit j) (.lp c :: K) F H Q ↔ RK T (.exit j) K F H Q := Iff.rfl

@[simp] theorem wk_seq {a b : IC} : WK T (.seq a b) K F H Q ↔ WK T a (.code b :: K) F H Q := by
  constructor
  · rintro ⟨n, ex, F', H', h, q⟩
    simp only [exec] at h
    split at h
    · rename_i F1 H1 e1
      exact ⟨n, .normal, F1, H1, e1, n, ex, F', H', h, q⟩
    · rename_i hne
      refine ⟨n, ex, F', H', h, ?_⟩
      cases ex <;> first | exact q | exact absurd h (hne _ _)
  · rintro ⟨n, ex, F1, H1, h, q⟩
    cases ex with
    | normal =>
      obtain ⟨m, e2, F2, H2, h2, q2⟩ := q
      refine ⟨max n m, e2, F2, H2, ?_, q2⟩
      simp only [exec, exec_up (Nat.le_max_left n m) h]
      exact exec_up (Nat.le_max_right n m) h2
    | _ => exact ⟨n, _, F1, H1, by simp only [exec, h], q⟩
@[simp] theorem wk_skip : WK T .skip K F H Q ↔ RK T .normal K F H Q := by
  constructor
  · rintro ⟨n, ex, F', H', h, q⟩; simp only [exec] at h; cases h; exact q
  · intro q; exact ⟨0, _, _, _, rfl, q⟩
@[simp] theorem wk_ret : WK T .ret K F H Q ↔ RK T .ret K F H Q := by
  constructor
  · rintro ⟨n, ex, F', H', h, q⟩; simp only [exec] at h; cases h; exact q
  · intro q; exact ⟨0, _, _, _, rfl, q⟩
@[simp] theorem wk_exit {id : Nat} : WK T (.exit id) K F H Q ↔ RK T (.exit id) K F H Q := by
  constructor
  · rintro ⟨n, ex, F', H', h, q⟩; simp only [exec] at h; cases h; exact q
  · intro q; exact ⟨0, _, _, _, rfl, q⟩
@[simp] theorem wk_scope {c : IC} : WK T (.scope c) K F H Q ↔ WK T c K F H Q := by
  constructor
  · rintro ⟨n, ex, F', H', h, q⟩; simp only [exec] at h; exact ⟨n, _, _, _, h, q⟩
  · rintro ⟨n, ex, F', H', h, q⟩; exact ⟨n, ex, F', H', by simp only [exec]; exact h, q⟩
@[simp] theorem wk_block {id : Nat} {c : IC} : WK T (.block id c) K F H Q ↔ WK T c (.blk id :: K) F H Q := by
  constructor
  · rintro ⟨n, ex, F', H', h, q⟩
    simp only [exec] at h
    split at h
    · rename_i j F1 H1 e1
      refine ⟨n, .exit j, F1, H1, e1, ?_⟩
      split at h
      · rename_i hj; cases h; simp only [rk_exit_blk, hj, if_true]; exact q
      · rename_i hj; cases h; simp only [rk_exit_blk, hj, if_false]; exact q
    · rename_i hne
      refine ⟨n, ex, F', H', h, ?_⟩
      cases ex <;> first | exact q | exact absurd h (hne _ _ _)
  · rintro ⟨n, ex, F1, H1, h, q⟩
    cases ex with
    | exit j =>
      simp only [rk_exit_blk] at q
      by_cases hj : j = id
      · rw [if_pos hj] at q; exact ⟨n, .normal, F1, H1, by simp only [exec, h, hj, if_true], q⟩
      · rw [if_neg hj] at q; exact ⟨n, .exit j, F1, H1, by simp only [exec, h, hj, if_false], q⟩
    | _ => exact ⟨n, _, F1, H1, by simp only [exec, h], q⟩

def CD (T : Nat → Option IFn) (v : V) (x y : IC) (K : List Kt) (F : Fr) (H : Hp) (Q : QQ) : Prop := match v with | .b true => WK T x K F H Q | .b false => WK T y K F H Q | _ => False
@[simp] theorem wk_cond {c : Rd} {x y : IC} : WK T (.cond c x y) K F H Q ↔ CD T (c.get F) x y K F H Q := by
  unfold CD
  constructor
  · rintro ⟨n, ex, F', H', h, q⟩
    simp only [exec] at h
    split at h
    · rename_i e; rw [e]; exact ⟨n, _, _, _, h, q⟩
    · rename_i e; rw [e]; exact ⟨n, _, _, _, h, q⟩
    · cases h
  · intro q
    split at q
    · rename_i e; obtain ⟨n, ex, F', H', h, q⟩ := q; exact ⟨n, ex, F', H', by simp only [exec, e, h], q⟩
    · rename_i e; obtain ⟨n, ex, F', H', h, q⟩ := q; exact ⟨n, ex, F', H', by simp only [exec, e, h], q⟩
    · exact q.elim
@[simp] theorem cd_t {x y : IC} : CD T (.b true) x y K F H Q ↔ WK T x K F H Q := Iff.rfl
@[simp] theorem cd_f {x y : IC} : CD T (.b false) x y K F H Q ↔ WK T y K F H Q := Iff.rfl
@[simp low] theorem cd_b {b : Bool} {x y : IC} : CD T (.b b) x y K F H Q ↔ (b = true → WK T x K F H Q) ∧ (b = false → WK T y K F H Q) := by
  cases b <;> simp

def WOr (T : Nat → Option IFn) (keep : List Nat) (dr : Bool) (K : List Kt) (Q : QQ) : Ex → Fr → Hp → Prop
  | .normal, F', H' => RK T .normal K (F'.keep keep) H' Q
  | e, F', H' => dr = false ∧ RK T e K F' H' Q
def WO (T : Nat → Option IFn) (ops : List Ins) (keep : List Nat) (dr : Bool) (K : List Kt) (F : Fr) (H : Hp) (Q : QQ) : Prop :=
  ∃ n ex F' H', execOps (run T n) ops F H = some (ex, F', H') ∧ WOr T keep dr K Q ex F' H'
variable {ops : List Ins} {keep : List Nat} {dr : Bool} {d : Option Nat}
@[simp] theorem wk_reg : WK T (.reg ops keep dr) K F H Q ↔ WO T ops keep dr K F H Q := by
  constructor
  · rintro ⟨n, ex, F', H', h, q⟩
    simp only [exec] at h
    split at h
    · rename_i F1 H1 e1; cases h; exact ⟨n, _, _, _, e1, q⟩
    · rename_i e F1 H1 hne e1
      split at h
      · cases h
      · rename_i hd; cases h; refine ⟨n, _, _, _, e1, ?_⟩
        cases ex <;> first | exact absurd rfl hne | exact ⟨by simpa using hd, q⟩
    · cases h
  · rintro ⟨n, ex, F1, H1, h, q⟩
    cases ex with
    | normal => exact ⟨n, _, _, _, by simp only [exec, h], q⟩
    | _ => obtain ⟨hd, q⟩ := q; exact ⟨n, _, _, _, by simp only [exec, h, hd]; rfl, q⟩
@[simp] theorem wo_nil : WO T [] keep dr K F H Q ↔ RK T .normal K (F.keep keep) H Q := by
  constructor
  · rintro ⟨n, ex, F', H', h, q⟩; simp only [execOps] at h; cases h; exact q
  · intro q; exact ⟨0, _, _, _, rfl, q⟩
def WX (T : Nat → Option IFn) (d : Option Nat) (op : IOp) (ops : List Ins) (keep : List Nat) (dr : Bool) (K : List Kt) (F : Fr) (H : Hp) (Q : QQ) : Prop := WO T (⟨d, op, none⟩ :: ops) keep dr K F H Q
def WG (T : Nat → Option IFn) (v : V) (j : Nat) (w : Bool) (d : Option Nat) (op : IOp) (ops : List Ins) (keep : List Nat) (dr : Bool) (K : List Kt) (F : Fr) (H : Hp) (Q : QQ) : Prop := WO T (⟨d, op, some (j, w)⟩ :: ops) keep dr K {F with tm := upd F.tm j v} H Q
theorem upd_self (f : Nat → V) (j : Nat) : upd f j (f j) = f := by
  funext t; unfold upd; split <;> simp_all
@[simp] theorem upd_eq {α : Type} (f : Nat → α) (j : Nat) (v : α) : upd f j v j = v := by simp [upd]
@[simp] theorem upd_ne {α : Type} (f : Nat → α) (j t : Nat) (v : α) (h : t ≠ j) : upd f j v t = f t := by simp [upd, h]
@[simp] theorem look_eq (l : List (Nat × V)) (t : Nat) (v : V) : look ((t, v) :: l) t = v := by simp [look]
@[simp] theorem look_ne (l : List (Nat × V)) (t a : Nat) (v : V) (h : t ≠ a) : look ((a, v) :: l) t = look l t := by simp [look, h]
@[simp] theorem lookB_eq (l : List (Nat × Option (List V))) (t : Nat) (v : Option (List V)) : lookB ((t, v) :: l) t = v := by simp [lookB]
@[simp] theorem lookB_ne (l : List (Nat × Option (List V))) (t a : Nat) (v : Option (List V)) (h : t ≠ a) : lookB ((a, v) :: l) t = lookB l t := by simp [lookB, h]
@[simp] theorem look_nil (t : Nat) : look [] t = .junk := rfl
@[simp] theorem lookB_nil (t : Nat) : lookB [] t = none := rfl
@[simp] theorem wo_none {op : IOp} : WO T (⟨d, op, none⟩ :: ops) keep dr K F H Q ↔ WX T d op ops keep dr K F H Q := Iff.rfl
@[simp] theorem wo_some {op : IOp} {j : Nat} {w : Bool} : WO T (⟨d, op, some (j, w)⟩ :: ops) keep dr K F H Q ↔ WG T (F.tm j) j w d op ops keep dr K F H Q := by
  unfold WG; rw [upd_self]
theorem wo_skip {op : IOp} {j : Nat} {w : Bool} (h : wants F (some (j, w)) = some false) : WO T (⟨d, op, some (j, w)⟩ :: ops) keep dr K F H Q ↔ WO T ops keep dr K (F.put d (.tuple [])) H Q := by
  unfold WO
  simp only [execOps, stepO, h]
theorem wo_do {op : IOp} {j : Nat} {w : Bool} (h : wants F (some (j, w)) = some true) : WO T (⟨d, op, some (j, w)⟩ :: ops) keep dr K F H Q ↔ WX T d op ops keep dr K F H Q := by
  have hs : ∀ c, stepO c ⟨d, op, some (j, w)⟩ F H = stepO c ⟨d, op, none⟩ F H := by
    intro c; unfold stepO; rw [h]; rfl
  unfold WX WO
  simp only [execOps, hs]
@[simp] theorem wg_tt {op : IOp} {j : Nat} : WG T (.b true) j true d op ops keep dr K F H Q ↔ WX T d op ops keep dr K {F with tm := upd F.tm j (.b true)} H Q := wo_do (by simp [wants])
@[simp] theorem wg_ff {op : IOp} {j : Nat} : WG T (.b false) j false d op ops keep dr K F H Q ↔ WX T d op ops keep dr K {F with tm := upd F.tm j (.b false)} H Q := wo_do (by simp [wants])
@[simp] theorem wg_tf {op : IOp} {j : Nat} : WG T (.b true) j false d op ops keep dr K F H Q ↔ WO T ops keep dr K (Fr.put {F with tm := upd F.tm j (.b true)} d (.tuple [])) H Q := wo_skip (by simp [wants])
@[simp] theorem wg_ft {op : IOp} {j : Nat} : WG T (.b false) j true d op ops keep dr K F H Q ↔ WO T ops keep dr K (Fr.put {F with tm := upd F.tm j (.b false)} d (.tuple [])) H Q := wo_skip (by simp [wants])
@[simp] theorem wg_tup {op : IOp} {j : Nat} {w : Bool} {vs : List V} : WG T (.tuple vs) j w d op ops keep dr K F H Q ↔ WO T ops keep dr K (Fr.put {F with tm := upd F.tm j (.tuple vs)} d (.tuple [])) H Q := wo_skip (by simp [wants])
@[simp low] theorem wg_b {op : IOp} {j : Nat} {w b : Bool} : WG T (.b b) j w d op ops keep dr K F H Q ↔ (b = true → WG T (.b true) j w d op ops keep dr K F H Q) ∧ (b = false → WG T (.b false) j w d op ops keep dr K F H Q) := by
  cases b <;> simp only [Bool.false_eq_true, Bool.true_eq_false, false_implies, true_implies, and_true, true_and, reduceCtorEq, forall_const]
/-- an operation's value, and the rest -/
def WV (T : Nat → Option IFn) (r : Option (V × Fr × Hp)) (d : Option Nat) (ops : List Ins) (keep : List Nat) (dr : Bool) (K : List Kt) (Q : QQ) : Prop := match r with
  | some (v, F', H') => WO T ops keep dr K (F'.put d v) H' Q
  | none => False
@[simp] theorem wv_some {v : V} : WV T (some (v, F, H)) d ops keep dr K Q ↔ WO T ops keep dr K (F.put d v) H Q := Iff.rfl
@[simp] theorem wv_none : WV T none d ops keep dr K Q ↔ False := Iff.rfl
@[simp] theorem wv_ite {p : Prop} [Decidable p] {x : Option (V × Fr × Hp)} : WV T (if p then x else none) d ops keep dr K Q ↔ p ∧ WV T x d ops keep dr K Q := by
  split <;> simp_all
def calmOp : IOp → Bool
  | .pan _ => false
  | .callF _ _ => false
  | .callV _ _ => false
  | _ => true
theorem wx_step {op : IOp} (h : calmOp op = true) : WX T d op ops keep dr K F H Q ↔ WV T (stepV op d F H) d ops keep dr K Q := by
  have hs : ∀ n, stepO (run T n) ⟨d, op, none⟩ F H = match stepV op d F H with | some (v, F', H') => some (.normal, F'.put d v, H') | none => none := by
    intro n
    cases op <;> first | rfl | exact absurd h (by simp [calmOp])
  unfold WX WO
  simp only [execOps, hs]
  cases hv : stepV op d F H with
  | none =>
    constructor
    · rintro ⟨n, ex, F', H', h, q⟩; cases h
    · intro q; exact q.elim
  | some r => exact Iff.rfl
@[simp] theorem wx_mv (x : Rd) (take : Bool) : WX T d (.mv x take) ops keep dr K F H Q ↔ WV T (stepV (.mv x take) d F H) d ops keep dr K Q := wx_step rfl
@[simp] theorem wx_pick (c x y : Rd) : WX T d (.pick c x y) ops keep dr K F H Q ↔ WV T (stepV (.pick c x y) d F H) d ops keep dr K Q := wx_step rfl
@[simp] theorem wx_boxL (x : Rd) : WX T d (.boxL x) ops keep dr K F H Q ↔ WV T (stepV (.boxL x) d F H) d ops keep dr K Q := wx_step rfl
@[simp] theorem wx_boxG (x : Rd) : WX T d (.boxG x) ops keep dr K F H Q ↔ WV T (stepV (.boxG x) d F H) d ops keep dr K Q := wx_step rfl
@[simp] theorem wx_allocL (zs : List V) : WX T d (.allocL zs) ops keep dr K F H Q ↔ WV T (stepV (.allocL zs) d F H) d ops keep dr K Q := wx_step rfl
@[simp] theorem wx_allocG (zs : List V) : WX T d (.allocG zs) ops keep dr K F H Q ↔ WV T (stepV (.allocG zs) d F H) d ops keep dr K Q := wx_step rfl
@[simp] theorem wx_build (zs : List V) (ps : List (Nat × Nat × Rd)) : WX T d (.build zs ps) ops keep dr K F H Q ↔ WV T (stepV (.build zs ps) d F H) d ops keep dr K Q := wx_step rfl
@[simp] theorem wx_blist (sz : Nat) (xs : List Rd) : WX T d (.blist sz xs) ops keep dr K F H Q ↔ WV T (stepV (.blist sz xs) d F H) d ops keep dr K Q := wx_step rfl
@[simp] theorem wx_load (agg : Option Nat) (x : Rd) (take : Bool) (bs : Bs) : WX T d (.load agg x take bs) ops keep dr K F H Q ↔ WV T (stepV (.load agg x take bs) d F H) d ops keep dr K Q := wx_step rfl
@[simp] theorem wx_store (n : Nat) (x v : Rd) (take : Bool) (bs : Bs) : WX T d (.store n x v take bs) ops keep dr K F H Q ↔ WV T (stepV (.store n x v take bs) d F H) d ops keep dr K Q := wx_step rfl
@[simp] theorem wx_bin (bt : BT) (op : BinOp) (x y : Rd) : WX T d (.bin bt op x y) ops keep dr K F H Q ↔ WV T (stepV (.bin bt op x y) d F H) d ops keep dr K Q := wx_step rfl
@[simp] theorem wx_un (op : UnOp) (x : Rd) : WX T d (.un op x) ops keep dr K F H Q ↔ WV T (stepV (.un op x) d F H) d ops keep dr K Q := wx_step rfl
@[simp] theorem wx_conv (k : IntKind) (x : Rd) : WX T d (.conv k x) ops keep dr K F H Q ↔ WV T (stepV (.conv k x) d F H) d ops keep dr K Q := wx_step rfl
@[simp] theorem wx_ifc (t : TypeId) (x : Rd) : WX T d (.ifc t x) ops keep dr K F H Q ↔ WV T (stepV (.ifc t x) d F H) d ops keep dr K Q := wx_step rfl
@[simp] theorem wx_mkf (fn : Fn) (first caps : List Rd) : WX T d (.mkf fn first caps) ops keep dr K F H Q ↔ WV T (stepV (.mkf fn first caps) d F H) d ops keep dr K Q := wx_step rfl
@[simp] theorem wx_fa (off : Nat) (x : Rd) : WX T d (.fa off x) ops keep dr K F H Q ↔ WV T (stepV (.fa off x) d F H) d ops keep dr K Q := wx_step rfl
@[simp] theorem wx_fld (off : Nat) (agg : Option Nat) (x : Rd) : WX T d (.fld off agg x) ops keep dr K F H Q ↔ WV T (stepV (.fld off agg x) d F H) d ops keep dr K Q := wx_step rfl
@[simp] theorem wx_ia (sz : Nat) (x i : Rd) : WX T d (.ia sz x i) ops keep dr K F H Q ↔ WV T (stepV (.ia sz x i) d F H) d ops keep dr K Q := wx_step rfl
@[simp] theorem wx_ixs (x i : Rd) : WX T d (.ixs x i) ops keep dr K F H Q ↔ WV T (stepV (.ixs x i) d F H) d ops keep dr K Q := wx_step rfl
@[simp] theorem wx_slc (sz : Option Nat) (x : Rd) (lo hi : Option Rd) : WX T d (.slc sz x lo hi) ops keep dr K F H Q ↔ WV T (stepV (.slc sz x lo hi) d F H) d ops keep dr K Q := wx_step rfl
@[simp] theorem wx_idS (x : Rd) : WX T d (.idS x) ops keep dr K F H Q ↔ WV T (stepV (.idS x) d F H) d ops keep dr K Q := wx_step rfl
def V.isTup : V → Bool | .tuple _ => true | _ => false
def extV (v : V) (s i : Nat) (F : Fr) (H : Hp) : Option (V × Fr × Hp) := match v with
  | .tuple vs => (vs[i]?).bind fun v => if v.isTup = false then some (v, { F with tm := upd F.tm s (.tuple (vs.set i .junk)) }, H) else none
  | _ => none
@[simp] theorem extV_tup (vs : List V) (s i : Nat) : extV (.tuple vs) s i F H = (vs[i]?).bind fun v => if v.isTup = false then some (v, { F with tm := upd F.tm s (.tuple (vs.set i .junk)) }, H) else none := rfl
@[simp] theorem wx_ext (s i : Nat) : WX T d (.ext (.t s) i) ops keep dr K F H Q ↔ WV T (extV (F.tm s) s i F H) d ops keep dr K Q := by
  rw [wx_step rfl]
  have : stepV (.ext (.t s) i) d F H = extV (F.tm s) s i F H := by
    simp only [stepV, extV]
    cases F.tm s <;> simp only
    rename_i vs
    cases vs[i]? with
    | none => rfl
    | some v => cases v <;> rfl
  rw [this]
@[simp] theorem wx_len (str : Bool) (x : Rd) : WX T d (.len str x) ops keep dr K F H Q ↔ WV T (stepV (.len str x) d F H) d ops keep dr K Q := wx_step rfl
@[simp] theorem wx_app (sz : Nat) (arr : Bool) (x y : Rd) : WX T d (.app sz arr x y) ops keep dr K F H Q ↔ WV T (stepV (.app sz arr x y) d F H) d ops keep dr K Q := wx_step rfl
@[simp] theorem wx_mks (sz : Nat) (zs : List V) (n : Rd) : WX T d (.mks sz zs n) ops keep dr K F H Q ↔ WV T (stepV (.mks sz zs n) d F H) d ops keep dr K Q := wx_step rfl
@[simp] theorem wx_minmax (mx : Bool) (xs : List Rd) : WX T d (.minmax mx xs) ops keep dr K F H Q ↔ WV T (stepV (.minmax mx xs) d F H) d ops keep dr K Q := wx_step rfl

/-- a call: the arguments are known -/
def WC (T : Nat → Option IFn) (tg : Tg) (args : List V) (d : Option Nat) (ops : List Ins) (keep : List Nat) (dr : Bool) (K : List Kt) (F : Fr) (H : Hp) (Q : QQ) : Prop :=
  ∃ n r H', run T n tg args H = some (r, H') ∧ match r with
    | .ret v => WO T ops keep dr K (F.put d v) H' Q
    | .pan v => dr = false ∧ RK T (.panic v) K F H' Q
def WA (T : Nat → Option IFn) (tg : Tg) (args : Option (List V)) (d : Option Nat) (ops : List Ins) (keep : List Nat) (dr : Bool) (K : List Kt) (F : Fr) (H : Hp) (Q : QQ) : Prop :=
  match args with | some args => WC T tg args d ops keep dr K F H Q | none => False
@[simp] theorem wa_some {tg : Tg} {args : List V} : WA T tg (some args) d ops keep dr K F H Q ↔ WC T tg args d ops keep dr K F H Q := Iff.rfl
@[simp] theorem wa_ite {p : Prop} [Decidable p] {tg : Tg} {args : Option (List V)} : WA T tg (if p then args else none) d ops keep dr K F H Q ↔ p ∧ WA T tg args d ops keep dr K F H Q := by
  split <;> simp_all [WA]
theorem run_det {n m : Nat} {tg : Tg} {args : List V} {H : Hp} {r r' : RV × Hp} (h : run T n tg args H = some r) (h' : run T m tg args H = some r') : r = r' := by
  have a := run_mono (Nat.le_max_left n m) _ _ _ _ h
  have b := run_mono (Nat.le_max_right n m) _ _ _ _ h'
  rw [a] at b; exact Option.some.inj b
@[simp] theorem wx_callF {k : Nat} {xs : List Rd} : WX T d (.callF k xs) ops keep dr K F H Q ↔ WA T (.fn k) (argsV F xs) d ops keep dr K F H Q := by
  unfold WX WO WA
  constructor
  · rintro ⟨n, ex, F', H', h, q⟩
    simp only [execOps, stepO, wants] at h
    cases ha : argsV F xs with
    | none => rw [ha] at h; cases h
    | some args =>
      rw [ha] at h
      simp only [calls] at h
      cases hr : run T n (.fn k) args H with
      | none => rw [hr] at h; cases h
      | some r =>
        obtain ⟨r, H1⟩ := r
        rw [hr] at h
        refine ⟨n, r, H1, hr, ?_⟩
        cases r with
        | ret v => exact ⟨n, _, _, _, h, q⟩
        | pan v => simp only at h; cases h; exact q
  · intro q
    cases ha : argsV F xs with
    | none => rw [ha] at q; exact q.elim
    | some args =>
      rw [ha] at q
      obtain ⟨n, r, H1, hr, q⟩ := q
      cases r with
      | ret v =>
        obtain ⟨m, ex, F', H', h, q⟩ := q
        refine ⟨max n m, ex, F', H', ?_, q⟩
        simp only [execOps, stepO, wants, ha, calls, run_mono (Nat.le_max_left n m) _ _ _ _ hr]
        exact execOps_mono (run_mono (Nat.le_max_right n m)) h
      | pan v =>
        exact ⟨n, .panic v, F, H1, by simp only [execOps, stepO, wants, ha, calls, hr], q⟩
/-- on every heap, the function gives v and leaves the heap as it was -/
def Ret (T : Nat → Option IFn) (k : Nat) (args : List V) (v : V) : Prop := ∃ n, ∀ H, run T n (.fn k) args H = some (.ret v, H)
theorem wc_ret {k : Nat} {args : List V} {v : V} (h : Ret T k args v) : WC T (.fn k) args d ops keep dr K F H Q ↔ WO T ops keep dr K (F.put d v) H Q := by
  obtain ⟨n, h⟩ := h
  constructor
  · rintro ⟨m, r, H', hr, q⟩
    have := run_det (h H) hr
    cases this; exact q
  · intro q; exact ⟨n, _, _, h H, q⟩
/-- a function's end: its results fulfil P -/
def AtEnd (res : List Res) (rclr : Bool) (P : V → Prop) : QQ := fun ex F H => match ex with
  | .normal | .ret => ∃ vs H2, ressV F H res = some (vs, H2) ∧ (packV (if rclr then vs.map (fun v => v.clr.hard) else vs.map V.give)).noid = true ∧ P (packV (if rclr then vs.map (fun v => v.clr.hard) else vs.map V.give))
  | _ => False
def fr0 (args : List V) : Fr := { tm := fun t => ((args[t]?).getD .junk).clr, bx := fun _ => none }
theorem ret_of {k np : Nat} {res : List Res} {rclr : Bool} {code : IC} {args : List V} {P : V → Prop} (hk : T k = some ⟨np, res, rclr, true, code⟩) (hl : args.length = np) (hn : V.noidL args = true)
    (h : WK T code [] (fr0 args) .empty (AtEnd res rclr P)) : ∃ v, Ret T k args v ∧ P v := by
  obtain ⟨n, ex, F', H', h, q⟩ := h
  simp only [rk_nil] at q
  have hr : ∃ vs H2, (ex = .normal ∨ ex = .ret) ∧ ressV F' H' res = some (vs, H2) ∧ (packV (if rclr then vs.map (fun v => v.clr.hard) else vs.map V.give)).noid = true ∧ P (packV (if rclr then vs.map (fun v => v.clr.hard) else vs.map V.give)) := by
    unfold AtEnd at q
    split at q
    · obtain ⟨vs, H2, a, b, c⟩ := q; exact ⟨vs, H2, Or.inl rfl, a, b, c⟩
    · obtain ⟨vs, H2, a, b, c⟩ := q; exact ⟨vs, H2, Or.inr rfl, a, b, c⟩
    · exact q.elim
  obtain ⟨vs, H2, he, a, b, c⟩ := hr
  refine ⟨_, ⟨n + 1, fun H => ?_⟩, c⟩
  rw [run, hk]
  simp only [if_true, hn]
  unfold runFn
  rw [if_pos hl]
  have h' : exec (run T n) n code { tm := fun t => ((args[t]?).getD .junk).clr, bx := fun _ => none } .empty = some (ex, F', H') := h
  simp only [h']
  rcases he with rfl | rfl
  · simp only [a, Option.map_some, RV.noid, b, if_true]
  · simp only [a, Option.map_some, RV.noid, b, if_true]
theorem wk_unroll {c : IC} (h : WK T c (.lp c :: K) F H Q) : WK T (.loop c) K F H Q := by
  obtain ⟨n, ex, F1, H1, h, q⟩ := h
  cases ex with
  | normal =>
    obtain ⟨k, ex, F2, H2, h2, q⟩ := q
    refine ⟨max n k + 1, ex, F2, H2, ?_, q⟩
    have h1 := exec_up (m := max n k + 1) (by omega) h
    have h2 := exec_up (m := max n k) (by omega) h2
    simp only [exec] at h2 ⊢
    simp only [loopN, h1]
    refine loopN_mono ?_ (Nat.le_refl _) h2
    intro F H x hx
    exact exec_mono (run_mono (by omega)) (by omega) hx
  | _ =>
    refine ⟨n + 1, _, F1, H1, ?_, q⟩
    simp only [exec, loopN, exec_up (Nat.le_succ n) h]
def rep {α : Type} : List (Nat × α) → Nat → α → List (Nat × α)
  | [], t, w => [(t, w)]
  | (a, v) :: r, t, w => if a = t then (a, w) :: r else (a, v) :: rep r t w
def reps {α : Type} (L : List (Nat × α)) : List (Nat × α) → List (Nat × α)
  | [] => L
  | (t, w) :: r => reps (rep L t w) r
@[simp] theorem rep_eq {α : Type} (L : List (Nat × α)) (t : Nat) (v w : α) : rep ((t, v) :: L) t w = (t, w) :: L := by simp [rep]
@[simp] theorem rep_ne {α : Type} (L : List (Nat × α)) (a t : Nat) (v w : α) (h : a ≠ t) : rep ((a, v) :: L) t w = (a, v) :: rep L t w := by simp [rep, h]
@[simp] theorem reps_nil {α : Type} (L : List (Nat × α)) : reps L [] = L := rfl
@[simp] theorem reps_cons {α : Type} (L U : List (Nat × α)) (t : Nat) (w : α) : reps L ((t, w) :: U) = reps (rep L t w) U := rfl
/-- a loop: an invariant over a type of states, as updates of the frame, with a measure -/
theorem wk_loop {α : Type} (U : α → List (Nat × V)) (UB : α → List (Nat × Option (List V))) (m : α → Nat) (a0 : α) {c : IC} {L : List (Nat × V)} {B : List (Nat × Option (List V))}
    (h0 : reps L (U a0) = L) (h1 : reps B (UB a0) = B)
    (step : ∀ a, (∀ a', m a' < m a → WK T (.loop c) K ⟨look (reps L (U a')), lookB (reps B (UB a'))⟩ H Q) → WK T c (.lp c :: K) ⟨look (reps L (U a)), lookB (reps B (UB a))⟩ H Q) :
    WK T (.loop c) K ⟨look L, lookB B⟩ H Q := by
  have go : ∀ k a, m a < k → WK T (.loop c) K ⟨look (reps L (U a)), lookB (reps B (UB a))⟩ H Q := by
    intro k
    induction k with
    | zero => intro a h; omega
    | succ k ih => intro a h; exact wk_unroll (step a fun a' h' => ih a' (by omega))
  have := go _ a0 (Nat.lt_succ_self _)
  rwa [h0, h1] at this
theorem idx_nat (k : IntKind) (n : Nat) : idx (.i k (n : Int)) = some n := by simp [idx]
end Go.Iv
