/- Single operations, third part: arithmetic, comparisons, addresses, slicing, lengths. No conditions. -/
import Derived.Test.YtpgojhgfhhgomaaIvOpa
import Derived.Laws.StructEq
namespace Go.Iv
set_option linter.unusedVariables false
set_option linter.unusedSimpArgs false
variable {P : Program} {CR : Nat → Code → IC → Prop} {N : Nat} {g g' : Gh} {lam : Nat → Option Nat} {F : Fr} {H : Hp} {a : Act} {w w' : World}

def isC : Operand → Bool
  | .const _ => true
  | _ => false
/-- a struct of numbers alone -/
def intStruct (P : Program) (t : TypeId) (fs : Array Field) : Bool :=
  !P.stoodInHeld t && !P.eqGuardType P.depth t && fs.toList.zipIdx.all fun (f, i) => f.name != "_" && f.offset == i && (match P.underlying f.type with | some (.int _) => true | _ => false)
def btOf (P : Program) (t : TypeId) : Option BT :=
  match P.underlying t with
  | some (.int _) => some .int
  | some .bool => some .bool
  | some .string => some .str
  | some (.interface _) => some .ifc
  | some (.pointer _) => some .ptr
  | some (.func _ _ _) => some .fn
  | some (.struct fs) => if intStruct P t fs then some (.agg fs.size) else none
  | _ => none
theorem Rep.bEq {p q : Bool} (e : p = q) : Rep g (.b p) (.bool q) := e ▸ .b p
theorem run_binInt {op : BinOp} {k : IntKind} {x y : Int} {v : V} (h : binInt op k x y = some v) (t : TypeId) (w : World) : ∃ u, (binOp op t (.int k x) (.int k y)).run P w = .ok u w ∧ Rep g v u ∧ ∀ s, SOwn g w s v u := by
  cases op with
  | add => simp [binInt] at h; subst h; exact ⟨.int k (k.wrap (x + y)), by simp [binOp, Op.intArith], .i _ _, fun _ => trivial⟩
  | sub => simp [binInt] at h; subst h; exact ⟨.int k (k.wrap (x - y)), by simp [binOp, Op.intArith], .i _ _, fun _ => trivial⟩
  | mul => simp [binInt] at h; subst h; exact ⟨.int k (k.wrap (x * y)), by simp [binOp, Op.intArith], .i _ _, fun _ => trivial⟩
  | quo =>
    simp only [binInt] at h
    split at h
    · cases h
    · rename_i hy; cases h; exact ⟨.int k (k.wrap (x.tdiv y)), by simp [binOp, Op.intDiv, hy], .i _ _, fun _ => trivial⟩
  | rem =>
    simp only [binInt] at h
    split at h
    · cases h
    · rename_i hy; cases h; exact ⟨.int k (x.tmod y), by simp [binOp, Op.intDiv, hy], .i _ _, fun _ => trivial⟩
  | eql => simp [binInt] at h; subst h; exact ⟨.bool (x == y), by simp [binOp, Op.intCmp], Rep.bEq (by by_cases e : x = y <;> simp [e]), fun _ => trivial⟩
  | neq => simp [binInt] at h; subst h; exact ⟨.bool (x != y), by simp [binOp, Op.intCmp], Rep.bEq (by by_cases e : x = y <;> simp [e]), fun _ => trivial⟩
  | lss => simp [binInt] at h; subst h; exact ⟨.bool (decide (x < y)), by simp [binOp, Op.intCmp], .b _, fun _ => trivial⟩
  | leq => simp [binInt] at h; subst h; exact ⟨.bool (decide (x ≤ y)), by simp [binOp, Op.intCmp], .b _, fun _ => trivial⟩
  | gtr => simp [binInt] at h; subst h; exact ⟨.bool (decide (x > y)), by simp [binOp, Op.intCmp], .b _, fun _ => trivial⟩
  | geq => simp [binInt] at h; subst h; exact ⟨.bool (decide (x ≥ y)), by simp [binOp, Op.intCmp], .b _, fun _ => trivial⟩
  | _ => simp [binInt] at h
theorem byteArray_eq (x y : ByteArray) : (x.toList == y.toList) = decide (x = y) := by
  rw [toList_byteArray, toList_byteArray]
  by_cases e : x = y
  · subst e; simp
  · have : x.data.toList ≠ y.data.toList := fun h => e (by
      have := Array.toList_inj.1 h
      cases x; cases y; simp_all)
    rw [decide_eq_false e]
    simpa using this
theorem run_binStr {op : BinOp} {x y : ByteArray} {v : V} (h : binV .str op (.s x) (.s y) = some v) (t : TypeId) (w : World) : ∃ u, (binOp op t (.string x) (.string y)).run P w = .ok u w ∧ Rep g v u ∧ ∀ s, SOwn g w s v u := by
  cases op <;> simp only [binV] at h <;> (try (cases h; done))
  case add =>
    split at h
    · rename_i hl
      cases h
      have : ¬ (((x.size + y.size : Nat) : Int) > IntKind.i64.max) := by simp [IntKind.max, IntKind.signed, IntKind.bits, limit] at *; omega
      exact ⟨.string (x ++ y), by simp only [binOp, Op.stringOp, if_neg this, Sem.run_pure], .s _, fun _ => trivial⟩
    · cases h
  all_goals cases h
  case eql => exact ⟨.bool (x.toList == y.toList), by simp [binOp, Op.stringOp], Rep.bEq (byteArray_eq x y).symm, fun _ => trivial⟩
  case neq => exact ⟨.bool (!(x.toList == y.toList)), by simp [binOp, Op.stringOp], Rep.bEq (by rw [byteArray_eq]), fun _ => trivial⟩
  case lss => exact ⟨.bool (Op.bytesLess x.toList y.toList), by simp [binOp, Op.stringOp], Rep.bEq (by rw [toList_byteArray, toList_byteArray]), fun _ => trivial⟩
  case leq => exact ⟨.bool (Op.bytesLess x.toList y.toList || x.toList == y.toList), by simp [binOp, Op.stringOp], Rep.bEq (by rw [byteArray_eq, toList_byteArray, toList_byteArray]), fun _ => trivial⟩
  case gtr => exact ⟨.bool (!(Op.bytesLess x.toList y.toList || x.toList == y.toList)), by simp only [binOp, Op.stringOp, Sem.run_pure], Rep.bEq (by rw [byteArray_eq, toList_byteArray, toList_byteArray]), fun _ => trivial⟩
  case geq => exact ⟨.bool (!(Op.bytesLess x.toList y.toList)), by simp only [binOp, Op.stringOp, Sem.run_pure], Rep.bEq (by rw [toList_byteArray, toList_byteArray]), fun _ => trivial⟩
theorem eqV_some {op : BinOp} {r : Bool} {v : V} (h : eqV op r = some v) : (op = .eql ∧ v = .b r) ∨ (op = .neq ∧ v = .b (!r)) := by
  cases op <;> simp [eqV] at h <;> simp [h]
theorem run_eq {op : BinOp} {r : Bool} {v : V} (h : eqV op r = some v) {t : TypeId} {x y : Value} {w : World} (he : (Op.equal t x y).run P w = .ok r w)
    (hb : ∀ op', op' = .eql ∨ op' = .neq → (binOp op' t x y) = (match op' with | .eql => do pure (.bool (← Op.equal t x y)) | _ => do pure (.bool (!(← Op.equal t x y)) ) : Sem Value)) :
    ∃ u, (binOp op t x y).run P w = .ok u w ∧ Rep g v u ∧ ∀ s, SOwn g w s v u := by
  rcases eqV_some h with ⟨rfl, rfl⟩ | ⟨rfl, rfl⟩
  · exact ⟨.bool r, by rw [hb _ (.inl rfl)]; simp [Sem.run_bind, he], .b _, fun _ => trivial⟩
  · exact ⟨.bool (!r), by rw [hb _ (.inr rfl)]; simp [Sem.run_bind, he], .b _, fun _ => trivial⟩
theorem run_equal_of {t : TypeId} {d : TypeDesc} (h : P.underlying t = some d) (x y : Value) (w : World) {r : Result Bool} (hr : (Op.equalIn 10000 t x y).run P w = r) : (Op.equal t x y).run P w = r := hr
theorem eq_bool' (n : Nat) {t : TypeId} (hu : P.underlying t = some .bool) (x y : Bool) (w : World) : (Op.equalIn (n + 1) t (.bool x) (.bool y)).run P w = .ok (x == y) w := by
  simp only [Op.equalIn, Sem.run_bind, run_underlying hu, Result.andThen, Sem.run_pure, Option.isNone]
theorem eq_bool {t : TypeId} (hu : P.underlying t = some .bool) (x y : Bool) (w : World) : (Op.equal t (.bool x) (.bool y)).run P w = .ok (x == y) w := eq_bool' 9999 hu x y w
theorem eq_ifc0' (n : Nat) {t : TypeId} {ms : Array (String × TypeId)} (hu : P.underlying t = some (.interface ms)) (w : World) : (Op.equalIn (n + 1) t .nilIface .nilIface).run P w = .ok true w := by
  simp only [Op.equalIn, Sem.run_bind, run_underlying hu, Result.andThen, Sem.run_pure, Option.isNone]
theorem eq_ifc0 {t : TypeId} {ms : Array (String × TypeId)} (hu : P.underlying t = some (.interface ms)) (w : World) : (Op.equal t .nilIface .nilIface).run P w = .ok true w := eq_ifc0' 9999 hu w
theorem eq_ifc1' (n : Nat) {t : TypeId} {ms : Array (String × TypeId)} (hu : P.underlying t = some (.interface ms)) (w : World) (ti : TypeId) (x : Value) : (Op.equalIn (n + 1) t (.iface ti x) .nilIface).run P w = .ok false w := by
  simp only [Op.equalIn, Sem.run_bind, run_underlying hu, Result.andThen, Sem.run_pure, Option.isNone]
theorem eq_ifc1 {t : TypeId} {ms : Array (String × TypeId)} (hu : P.underlying t = some (.interface ms)) (w : World) (ti : TypeId) (x : Value) : (Op.equal t (.iface ti x) .nilIface).run P w = .ok false w := eq_ifc1' 9999 hu w ti x
theorem eq_fn0' (n : Nat) {t : TypeId} {p q : Array TypeId} {r : Bool} (hu : P.underlying t = some (.func p q r)) (w : World) : (Op.equalIn (n + 1) t .nilFunc .nilFunc).run P w = .ok true w := by
  simp only [Op.equalIn, Sem.run_bind, run_underlying hu, Result.andThen, Sem.run_pure, Option.isNone]
theorem eq_fn0 {t : TypeId} {p q : Array TypeId} {r : Bool} (hu : P.underlying t = some (.func p q r)) (w : World) : (Op.equal t .nilFunc .nilFunc).run P w = .ok true w := eq_fn0' 9999 hu w
theorem eq_fn1' (n : Nat) {t : TypeId} {p q : Array TypeId} {r : Bool} (hu : P.underlying t = some (.func p q r)) (w : World) (f : Fn) (x y : Array Value) : (Op.equalIn (n + 1) t (.func f x y) .nilFunc).run P w = .ok false w := by
  simp only [Op.equalIn, Sem.run_bind, run_underlying hu, Result.andThen, Sem.run_pure, Option.isNone]
theorem eq_fn1 {t : TypeId} {p q : Array TypeId} {r : Bool} (hu : P.underlying t = some (.func p q r)) (w : World) (f : Fn) (x y : Array Value) : (Op.equal t (.func f x y) .nilFunc).run P w = .ok false w := eq_fn1' 9999 hu w f x y
theorem eq_ptr0' (n : Nat) {t e : TypeId} (hu : P.underlying t = some (.pointer e)) (w : World) : (Op.equalIn (n + 1) t (.pointer none) (.pointer none)).run P w = .ok true w := by
  simp only [Op.equalIn, Sem.run_bind, run_underlying hu, Result.andThen, Sem.run_pure, Option.isNone]
theorem eq_ptr0 {t e : TypeId} (hu : P.underlying t = some (.pointer e)) (w : World) : (Op.equal t (.pointer none) (.pointer none)).run P w = .ok true w := eq_ptr0' 9999 hu w
theorem eq_ptr1' (n : Nat) {t e : TypeId} (hu : P.underlying t = some (.pointer e)) (w : World) (ad : Addr) : (Op.equalIn (n + 1) t (.pointer (some ad)) (.pointer none)).run P w = .ok false w := by
  simp only [Op.equalIn, Sem.run_bind, run_underlying hu, Result.andThen, Sem.run_pure, Option.isNone]
theorem eq_ptr1 {t e : TypeId} (hu : P.underlying t = some (.pointer e)) (w : World) (ad : Addr) : (Op.equal t (.pointer (some ad)) (.pointer none)).run P w = .ok false w := eq_ptr1' 9999 hu w ad
theorem run_part_int {t : TypeId} {k : IntKind} (hu : P.underlying t = some (.int k)) {xs : Array Value} {off : Nat} {v : Value} (hx : xs[off]? = some v) (w : World) : (Go.part t xs off).run P w = .ok v w := by
  have : (isAgg t).run P w = .ok false w := by simp [isAgg, Sem.run_bind, run_underlying hu]
  simp [Go.part, Sem.run_bind, this, hx]
theorem eqFields_int {xs ys : Array Value} (w : World) : ∀ (fs : List Field) (o : Nat) (cs cs' : List V) (us us' : List Value) (r : Bool), xs.toList.drop o = us → ys.toList.drop o = us' → RepL g cs us → RepL g cs' us' → cs.length = fs.length → aggEq cs cs' = some r →
    (∀ i f, fs[i]? = some f → (f.name != "_") = true ∧ f.offset = o + i ∧ ∃ k, P.underlying f.type = some (.int k)) → (Op.eqFields 9999 xs ys fs).run P w = .ok r w
  | [], o, cs, cs', us, us', r, h1, h2, r1, r2, hl, ha, hf => by
    have : cs = [] := List.length_eq_zero_iff.1 hl
    subst this
    cases cs' with
    | nil => simp [aggEq] at ha; subst ha; rfl
    | cons => simp [aggEq] at ha
  | f :: fs, o, cs, cs', us, us', r, h1, h2, r1, r2, hl, ha, hf => by
    obtain ⟨n1, n2, k, n3⟩ := hf 0 f rfl
    cases r1 with
    | nil => simp at hl
    | cons c1 rest1 =>
      cases r2 with
      | nil => simp only [aggEq] at ha; cases ha
      | cons c2 rest2 =>
        rename_i c u cs us c' u' cs' us'
        cases c1 <;> try (simp only [aggEq] at ha; cases ha; done)
        cases c2 <;> try (simp only [aggEq] at ha; cases ha; done)
        rename_i k1 n1' k2 n2'
        simp only [aggEq] at ha
        split at ha
        · rename_i hk
          subst hk
          simp only [Option.map_eq_some_iff] at ha
          obtain ⟨r', ha, rfl⟩ := ha
          have hx : xs[f.offset]? = some (.int k1 n1') := by
            have := congrArg (fun l => l[0]?) h1
            simpa [n2] using this
          have hy : ys[f.offset]? = some (.int k1 n2') := by
            have := congrArg (fun l => l[0]?) h2
            simpa [n2] using this
          have ih := eqFields_int w fs (o + 1) cs cs' us us' r' (by have := congrArg (List.drop 1) h1; simpa [List.drop_drop] using this) (by have := congrArg (List.drop 1) h2; simpa [List.drop_drop] using this) rest1 rest2 (by simpa using hl) ha
            (fun i f' hi => by obtain ⟨a1, a2, a3⟩ := hf (i + 1) f' (by simpa using hi); exact ⟨a1, by omega, a3⟩)
          have e1 := run_equalIn_int (P := P) w 9998 f.type k1 k n1' n2' n3
          have hn : f.name ≠ "_" := by simpa using n1
          simp only [Op.eqFields, if_pos hn, Sem.run_bind, run_part_int n3 hx, run_part_int n3 hy, Result.andThen, e1]
          by_cases hq : n1' = n2'
          · subst hq; simp [ih]
          · have hb : (n1' == n2') = false := by simpa using hq
            simp [hb, hq]
        · cases ha
theorem btOf_agg {t : TypeId} {n : Nat} (h : btOf P t = some (.agg n)) : ∃ fs, P.underlying t = some (.struct fs) ∧ fs.size = n ∧ intStruct P t fs = true := by
  unfold btOf at h
  split at h <;> try (cases h; done)
  rename_i fs hu
  split at h
  · rename_i hi; cases h; exact ⟨fs, hu, rfl, hi⟩
  · cases h
theorem sim_bin (h : Rel CR N g lam F H a w) {o : Oper} {d : Option Nat} (hd : ∀ t, d = some t → t < N) {op : BinOp} {t ty : TypeId} {bt : BT} {x y : Operand} {x' y' : Rd}
    (ho : o.op = .binOp op t x y ty) (ht : btOf P t = some bt) (hx : rdB x x' = true) (hy : rdB y y' = true) (hc : bt = .ifc → isC y = true) {v : V} {F' : Fr} {H' : Hp}
    (hs : stepV (.bin bt op x' y') d F H = some (v, F', H')) : Sim P CR N o d v F' H' g a w := by
  simp only [stepV, Option.map_eq_some_iff, Prod.mk.injEq] at hs
  obtain ⟨v', hv, rfl, rfl, rfl⟩ := hs
  suffices hk : (eqGuard op t x y (a.eval x) (a.eval y)).run P w = .ok () w ∧ ∃ u, (binOp op t (a.eval x) (a.eval y)).run P w = .ok u w ∧ Rep g v' u ∧ ∀ s, SOwn g w s v' u by
    obtain ⟨h1, u, h2, h3, h4⟩ := hk
    exact Sim.pure h hd (by simp [execOp, ho, Sem.run_bind, h1, h2]) h3 h4
  unfold binV at hv
  split at hv
  · -- int
    rename_i k x1 k' y1 e1 e2
    have r1 := rd_rep h hx e1 (by intro t o e; cases e)
    have r2 := rd_rep h hy e2 (by intro t o e; cases e)
    generalize a.eval x = ux at r1 ⊢
    generalize a.eval y = uy at r2 ⊢
    cases r1; cases r2
    split at hv
    · rename_i e; subst e
      exact ⟨by cases op <;> simp [eqGuard], run_binInt hv t w⟩
    · cases hv
  · rename_i x1 y1 e1 e2
    have r1 := rd_rep h hx e1 (by intro t o e; cases e)
    have r2 := rd_rep h hy e2 (by intro t o e; cases e)
    generalize a.eval x = ux at r1 ⊢
    generalize a.eval y = uy at r2 ⊢
    cases r1; cases r2
    have hu : P.underlying t = some .bool := by unfold btOf at ht; split at ht <;> simp_all
    refine ⟨by cases op <;> simp [eqGuard], run_eq hv (eq_bool hu _ _ _) (by rintro op' (rfl | rfl) <;> rfl)⟩
  · rename_i x1 y1 e1 e2
    have r1 := rd_rep h hx e1 (by intro t o e; cases e)
    have r2 := rd_rep h hy e2 (by intro t o e; cases e)
    generalize a.eval x = ux at r1 ⊢
    generalize a.eval y = uy at r2 ⊢
    cases r1; cases r2
    exact ⟨by cases op <;> simp [eqGuard], run_binStr (by simpa only [binV] using hv) t w⟩
  · rename_i e1 e2
    have r1 := rd_rep h hx e1 (by intro t o e; cases e)
    have r2 := rd_rep h hy e2 (by intro t o e; cases e)
    have hcc := hc rfl
    generalize a.eval x = ux at r1 ⊢
    generalize hyy : a.eval y = uy at r2 ⊢
    cases r1; cases r2
    obtain ⟨ms, hu⟩ : ∃ ms, P.underlying t = some (.interface ms) := by unfold btOf at ht; split at ht <;> simp_all
    refine ⟨by cases y <;> simp [isC] at hcc; cases op <;> simp [eqGuard], run_eq hv (eq_ifc0 hu _) (by rintro op' (rfl | rfl) <;> rfl)⟩
  · rename_i e1 e2
    have r1 := rd_rep h hx e1 (by intro t o e; cases e)
    have r2 := rd_rep h hy e2 (by intro t o e; cases e)
    generalize a.eval x = ux at r1 ⊢
    generalize a.eval y = uy at r2 ⊢
    cases r1; cases r2
    obtain ⟨ms, hu⟩ : ∃ ms, P.underlying t = some (.interface ms) := by unfold btOf at ht; split at ht <;> simp_all
    refine ⟨by cases op <;> simp [eqGuard], run_eq hv (eq_ifc1 hu _ _ _) (by rintro op' (rfl | rfl) <;> rfl)⟩
  · rename_i e1 e2
    have r1 := rd_rep h hx e1 (by intro t o e; cases e)
    have r2 := rd_rep h hy e2 (by intro t o e; cases e)
    generalize a.eval x = ux at r1 ⊢
    generalize a.eval y = uy at r2 ⊢
    cases r1; cases r2
    obtain ⟨p1, p2, p3, hu⟩ : ∃ p q r, P.underlying t = some (.func p q r) := by unfold btOf at ht; split at ht <;> simp_all
    refine ⟨by cases op <;> simp [eqGuard], run_eq hv (eq_fn0 hu _) (by rintro op' (rfl | rfl) <;> rfl)⟩
  · rename_i e1 e2
    have r1 := rd_rep h hx e1 (by intro t o e; cases e)
    have r2 := rd_rep h hy e2 (by intro t o e; cases e)
    generalize a.eval x = ux at r1 ⊢
    generalize a.eval y = uy at r2 ⊢
    cases r1; cases r2
    obtain ⟨p1, p2, p3, hu⟩ : ∃ p q r, P.underlying t = some (.func p q r) := by unfold btOf at ht; split at ht <;> simp_all
    refine ⟨by cases op <;> simp [eqGuard], run_eq hv (eq_fn1 hu _ _ _ _) (by rintro op' (rfl | rfl) <;> rfl)⟩
  · rename_i e1 e2
    have r1 := rd_rep h hx e1 (by intro t o e; cases e)
    have r2 := rd_rep h hy e2 (by intro t o e; cases e)
    generalize a.eval x = ux at r1 ⊢
    generalize a.eval y = uy at r2 ⊢
    cases r1; cases r2
    obtain ⟨p1, hu⟩ : ∃ p, P.underlying t = some (.pointer p) := by unfold btOf at ht; split at ht <;> simp_all
    refine ⟨by cases op <;> simp [eqGuard], run_eq hv (eq_ptr0 hu _) (by rintro op' (rfl | rfl) <;> rfl)⟩
  · rename_i e1 e2
    have r1 := rd_rep h hx e1 (by intro t o e; cases e)
    have r2 := rd_rep h hy e2 (by intro t o e; cases e)
    generalize a.eval x = ux at r1 ⊢
    generalize a.eval y = uy at r2 ⊢
    cases r1; cases r2
    obtain ⟨p1, hu⟩ : ∃ p, P.underlying t = some (.pointer p) := by unfold btOf at ht; split at ht <;> simp_all
    refine ⟨by cases op <;> simp [eqGuard], run_eq hv (eq_ptr1 hu _ _) (by rintro op' (rfl | rfl) <;> rfl)⟩
  · rename_i e1 e2
    have r1 := rd_rep h hx e1 (by intro t o e; cases e)
    have r2 := rd_rep h hy e2 (by intro t o e; cases e)
    generalize a.eval x = ux at r1 ⊢
    generalize a.eval y = uy at r2 ⊢
    cases r1; cases r2
    obtain ⟨p1, hu⟩ : ∃ p, P.underlying t = some (.pointer p) := by unfold btOf at ht; split at ht <;> simp_all
    refine ⟨by cases op <;> simp [eqGuard], run_eq hv (eq_ptr1 hu _ _) (by rintro op' (rfl | rfl) <;> rfl)⟩
  · rename_i n cs cs' e1 e2
    have r1 := rd_rep h hx e1 (by intro t o e; cases e)
    have r2 := rd_rep h hy e2 (by intro t o e; cases e)
    generalize a.eval x = ux at r1 ⊢
    generalize a.eval y = uy at r2 ⊢
    cases r1; cases r2
    rename_i xs h1 ys h2
    obtain ⟨fs, hu, hn, hi⟩ := btOf_agg ht
    simp only [intStruct, Bool.and_eq_true, Bool.not_eq_true'] at hi
    obtain ⟨⟨hp, hg⟩, hall⟩ := hi
    split at hv
    · rename_i hlen
      simp only [Option.bind_eq_some_iff] at hv
      obtain ⟨r, ha, hv⟩ := hv
      have hfo : P.fieldsOf t = fs := by simp [Program.fieldsOf, hu]
      have hrun : (Op.equal t (.agg xs) (.agg ys)).run P w = .ok r w := by
        refine (run_equalIn_struct w 9999 t xs ys (by rw [hfo]; exact hu) hp).trans ?_
        rw [hfo]
        refine eqFields_int w fs.toList 0 cs cs' xs.toList ys.toList r rfl rfl h1 h2 (by rw [hlen, ← hn]; simp) ha (fun i f hf => ?_)
        have := List.all_eq_true.1 hall (f, i) (by rw [List.mem_zipIdx_iff_getElem?]; exact hf)
        simp only [Bool.and_eq_true, beq_iff_eq] at this
        refine ⟨this.1.1, by omega, ?_⟩
        have h3 := this.2
        split at h3
        · rename_i k hk; exact ⟨k, hk⟩
        · cases h3
      exact ⟨run_eqGuard_agg w op t x y xs ys hg, run_eq hv hrun (by rintro op' (rfl | rfl) <;> rfl)⟩
    · cases hv
  · cases hv
end Go.Iv
