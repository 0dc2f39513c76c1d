/- Regions: in the text's order, and in every order that the text leaves open. No conditions. -/
import Derived.Test.YtpgojhgfhhgomaaIvReg
namespace Go.Iv
set_option linter.unusedVariables false
set_option linter.unusedSimpArgs false
variable {P : Program} {CR : Nat → Code → IC → Prop} {N : Nat} {g g' : Gh} {lam : Nat → Option Nat} {F : Fr} {H : Hp} {a : Act} {w w' : World}

def iosB (P : Program) (N : Nat) (ops : Array Oper) : List Oper → List Ins → Bool
  | [], [] => true
  | o :: os, io :: ios => ioB P N ops o io && iosB P N ops os ios
  | _, _ => false
theorem iosB_len {ops : Array Oper} : ∀ {os : List Oper} {ios : List Ins}, iosB P N ops os ios = true → os.length = ios.length
  | [], [], _ => rfl
  | _ :: _, _ :: _, h => by simp [iosB] at h; simp [iosB_len h.2]
  | [], _ :: _, h => by simp [iosB] at h
  | _ :: _, [], h => by simp [iosB] at h
theorem iosB_get {ops : Array Oper} : ∀ {os : List Oper} {ios : List Ins}, iosB P N ops os ios = true → ∀ (i : Nat) (o : Oper) (io : Ins), os[i]? = some o → ios[i]? = some io → ioB P N ops o io = true
  | o :: os, io :: ios, h, 0, o', io', h1, h2 => by simp [iosB] at h; simp at h1 h2; subst h1; subst h2; exact h.1
  | o :: os, io :: ios, h, i + 1, o', io', h1, h2 => by simp [iosB] at h; exact iosB_get h.2 i o' io' (by simpa using h1) (by simpa using h2)
  | [], [], _, i, _, _, h1, _ => by simp at h1
  | [], _ :: _, h, _, _, _, _, _ => by simp [iosB] at h
  | _ :: _, [], h, _, _, _, _, _ => by simp [iosB] at h

/-- the rest of a region in the text's order -/
theorem ops_wp {call : CallF} (hc : CallOk P CR call) {Fc : Fence} (hF : FOk Fc) {ops : Array Oper} {Q : Exit → Act → World → Prop} {g0 : Gh} {w0 : World} {df : List Deferred} {e : Ex} {F' : Fr} {H' : Hp}
    (hN : e = .normal → ∀ g' lam' a' w', Rel CR N g' lam' F' H' a' w' → Ext g0 w0 g' w' → a'.defers = df → Q .normal a' w')
    (hQ : ∀ v, e = .panic v → ∀ g' lam' u a' w', Rel CR N g' lam' F' H' a' w' → Ext g0 w0 g' w' → a'.defers = df → Rep g' v u → Q (.panic [{ v := u, recovered := false }]) a' w') :
    ∀ (ios : List Ins) (k : Nat) (g : Gh) (lam : Nat → Option Nat) (F : Fr) (H : Hp) (a : Act) (w : World), (∀ i io, ios[i]? = some io → ∃ o, ops[k + i]? = some o ∧ ioB P N ops o io = true) →
      execOps call ios F H = some (e, F', H') → Rel CR N g lam F H a w → Ext g0 w0 g w → a.defers = df → wpOpsIn Fc 0 P ops Q (List.range' k ios.length) a w
  | [], k, g, lam, F, H, a, w, _, hs, h, hx, hdf => by
    simp only [execOps, Option.some.injEq, Prod.mk.injEq] at hs
    obtain ⟨rfl, rfl, rfl⟩ := hs
    exact hN rfl g lam a w h hx hdf
  | io :: ios, k, g, lam, F, H, a, w, hio, hs, h, hx, hdf => by
    obtain ⟨o, ho, hob⟩ := hio 0 io rfl
    simp only [List.length_cons, List.range'_succ]
    rw [wpOpsIn_cons]
    simp only [execOps] at hs
    split at hs
    · rename_i F1 H1 e1
      refine stepO_wp hc hF h ho hob e1 (fun _ g' lam' a' w' r1 r2 r3 => ?_) (fun v ev => by cases ev)
      exact ops_wp hc hF hN hQ ios (k + 1) g' lam' F1 H1 a' w' (fun i io' hi => by
        obtain ⟨o', k1, k2⟩ := hio (i + 1) io' (by simpa using hi)
        exact ⟨o', by rw [← k1]; congr 1; omega, k2⟩) hs r1 (hx.trans r2) (r3.trans hdf)
    · rename_i x hne
      refine stepO_wp hc hF h ho hob hs (fun en => ?_) (fun v ev g' lam' u w' r1 r2 r3 => hQ v ev g' lam' u a w' r1 (hx.trans r2) hdf r3)
      subst en
      exact absurd hs (hne F' H')

/-! ### every order -/
def disj (xs ys : List Nat) : Bool := xs.all fun x => !ys.contains x
def indep (x y : Fp) : Bool :=
  disj x.ws y.rs && disj x.ws y.ws && disj y.ws x.rs && disj x.bw y.bs && disj y.bw x.bs && !(x.h == 2 && y.h != 0) && !(y.h == 2 && x.h != 0)
theorem disj_spec {xs ys : List Nat} (h : disj xs ys = true) : ∀ t, t ∈ xs → t ∉ ys := by
  intro t ht hn
  have := List.all_eq_true.1 h t ht
  simp [hn] at this
theorem swap {call : CallF} {x y : Ins} {fx fy : Fp} (hx : fpOf x = some fx) (hy : fpOf y = some fy) (hi : indep fx fy = true) {F F1 F2 : Fr} {H H1 H2 : Hp}
    (h1 : stepO call x F H = some (.normal, F1, H1)) (h2 : stepO call y F1 H1 = some (.normal, F2, H2)) : ∃ F1' H1', stepO call y F H = some (.normal, F1', H1') ∧ stepO call x F1' H1' = some (.normal, F2, H2) := by
  simp only [indep, Bool.and_eq_true, Bool.not_eq_true', Bool.and_eq_false_iff, beq_eq_false_iff_ne, bne_eq_false_iff_eq] at hi
  obtain ⟨⟨⟨⟨⟨⟨d1, d2⟩, d3⟩, d4⟩, d5⟩, d6⟩, d7⟩ := hi
  have d1 := disj_spec d1
  have d2 := disj_spec d2
  have d3 := disj_spec d3
  have d4 := disj_spec d4
  have d5 := disj_spec d5
  have lx := local_of hx h1
  have ly := local_of hy h2
  obtain ⟨_, _, _, _, cx⟩ := fp_common hx
  obtain ⟨_, _, _, _, cy⟩ := fp_common hy
  obtain ⟨F1', H1', k1, k2, k3, k4, k5, k6, k7⟩ := ly.again F H (fun t ht => (lx.tm t (fun hn => d1 t hn ht)).symm) (fun t ht => (lx.bx t (fun hn => d4 t hn ht)).symm)
    (fun hh => by
      rcases d6 with d6 | d6
      · exact (lx.hp d6).symm
      · exact absurd d6 hh)
  have hxh : fx.h ≠ 0 → H1' = H := fun hh => by
    rcases d7 with d7 | d7
    · exact k7 d7
    · exact absurd d7 hh
  obtain ⟨F2', H2', m1, m2, m3, m4, m5, m6, m7⟩ := lx.again F1' H1' (fun t ht => k3 t (fun hn => d3 t hn ht)) (fun t ht => k5 t (fun hn => d5 t hn ht)) hxh
  refine ⟨F1', H1', k1, ?_⟩
  have eF : F2' = F2 := by
    have e1 : F2'.tm = F2.tm := by
      funext t
      by_cases hwx : t ∈ fx.ws
      · rw [m2 t hwx, ly.tm t (fun hn => d2 t hwx hn)]
      · rw [m3 t hwx]
        by_cases hwy : t ∈ fy.ws
        · exact k2 t hwy
        · rw [k3 t hwy, ly.tm t hwy, lx.tm t hwx]
    have e2 : F2'.bx = F2.bx := by
      funext t
      by_cases hwx : t ∈ fx.bw
      · rw [m4 t hwx, ly.bx t (fun hn => d4 t hwx (cy t hn))]
      · rw [m5 t hwx]
        by_cases hwy : t ∈ fy.bw
        · exact k4 t hwy
        · rw [k5 t hwy, ly.bx t hwy, lx.bx t hwx]
    obtain ⟨a1, a2⟩ := F2'
    obtain ⟨b1, b2⟩ := F2
    simp only at e1 e2
    rw [e1, e2]
  have eH : H2' = H2 := by
    by_cases hx2 : fx.h = 2
    · rw [m6 hx2]
      have hy0 : fy.h ≠ 2 := fun h => by
        rcases d6 with d6 | d6
        · exact d6 hx2
        · rw [h] at d6; cases d6
      exact (ly.hp hy0).symm
    · rw [m7 hx2]
      by_cases hy2 : fy.h = 2
      · exact k6 hy2
      · rw [k7 hy2, ly.hp hy2, lx.hp hx2]
  rw [m1, eF, eH]

/-- the operations of the numbers in l, one after the other -/
def execL (call : CallF) (ios : List Ins) : List Nat → Fr → Hp → Option (Fr × Hp)
  | [], F, H => some (F, H)
  | i :: r, F, H => match ios[i]? with
    | some io => match stepO call io F H with
      | some (.normal, F', H') => execL call ios r F' H'
      | _ => none
    | none => none
theorem execL_cons {call : CallF} {ios : List Ins} {i : Nat} {r : List Nat} {F F' : Fr} {H H' : Hp} (h : execL call ios (i :: r) F H = some (F', H')) : ∃ io F1 H1, ios[i]? = some io ∧ stepO call io F H = some (.normal, F1, H1) ∧ execL call ios r F1 H1 = some (F', H') := by
  simp only [execL] at h
  split at h
  · rename_i io hi
    split at h
    · rename_i F1 H1 e; exact ⟨io, F1, H1, hi, e, h⟩
    · cases h
  · cases h
theorem execL_mk {call : CallF} {ios : List Ins} {i : Nat} {r : List Nat} {io : Ins} {F F1 : Fr} {H H1 : Hp} (hi : ios[i]? = some io) (h : stepO call io F H = some (.normal, F1, H1)) : execL call ios (i :: r) F H = execL call ios r F1 H1 := by
  simp only [execL, hi, h]
/-- an operation that meets none of those before it may come first -/
theorem toFront {call : CallF} {ios : List Ins} {i : Nat} {io : Ins} {fp : Fp} (hio : ios[i]? = some io) (hfp : fpOf io = some fp) (post : List Nat) : ∀ (pre : List Nat) (F : Fr) (H : Hp) {F' : Fr} {H' : Hp},
    (∀ j ∈ pre, ∀ jo, ios[j]? = some jo → ∃ fj, fpOf jo = some fj ∧ indep fj fp = true) → execL call ios (pre ++ i :: post) F H = some (F', H') → ∃ F1 H1, stepO call io F H = some (.normal, F1, H1) ∧ execL call ios (pre ++ post) F1 H1 = some (F', H')
  | [], F, H, F', H', _, h => by
    obtain ⟨io', F1, H1, e1, e2, e3⟩ := execL_cons h
    rw [hio] at e1; cases e1
    exact ⟨F1, H1, e2, e3⟩
  | j :: pre, F, H, F', H', hp, h => by
    obtain ⟨jo, F1, H1, e1, e2, e3⟩ := execL_cons h
    obtain ⟨F2, H2, k1, k2⟩ := toFront hio hfp post pre F1 H1 (fun j' hj' => hp j' (by simp [hj'])) e3
    obtain ⟨fj, f1, f2⟩ := hp j (by simp) jo e1
    obtain ⟨F1', H1', s1, s2⟩ := swap f1 hfp f2 e2 k1
    refine ⟨F1', H1', s1, ?_⟩
    show execL call ios (j :: (pre ++ post)) F1' H1' = _
    rw [execL_mk e1 s2]
    exact k2

/-- those before an operation, by the edges: a number's bits -/
def ancMask (ms : List Nat) (o : Oper) : Nat := o.after.toList.foldl (fun m e => if Region.binds .any e then (m ||| 2 ^ e.on) ||| ms.getD e.on 0 else m) 0
def ancMasks : List Oper → List Nat → List Nat
  | [], ms => ms
  | o :: r, ms => ancMasks r (ms ++ [ancMask ms o])
/-- whatever may change places does not meet -/
def drawB (ops : Array Oper) (ios : List Ins) : Bool :=
  (ops.toList.zipIdx.all fun (o, i) => o.after.all fun e => !Region.binds .any e || decide (e.on < i)) &&
  ios.zipIdx.all fun (io, i) => match fpOf io with
    | some fp => (ios.take i).zipIdx.all fun (jo, j) => ((ancMasks ops.toList []).getD i 0).testBit j || (match fpOf jo with | some fj => indep fj fp | none => false)
    | none => false

def DownClosed (ops : Array Oper) (D : Nat → Prop) : Prop := ∀ i : Nat, D i → ∀ o : Oper, ops[i]? = some o → ∀ e ∈ o.after, Region.binds .any e = true → D e.on
def MaskOk (ops : Array Oper) (ms : List Nat) : Prop := ∀ (i m : Nat), ms[i]? = some m → ∀ D : Nat → Prop, DownClosed ops D → (∀ o : Oper, ops[i]? = some o → ∀ e ∈ o.after, Region.binds .any e = true → D e.on) → ∀ j : Nat, m.testBit j = true → D j
theorem mask_fold {ops : Array Oper} {ms : List Nat} (hm : MaskOk ops ms) {D : Nat → Prop} (hD : DownClosed ops D) (j : Nat) : ∀ (es : List Edge) (m : Nat), (∀ e ∈ es, Region.binds .any e = true → D e.on) → (m.testBit j = true → D j) →
    (es.foldl (fun m e => if Region.binds .any e then (m ||| 2 ^ e.on) ||| ms.getD e.on 0 else m) m).testBit j = true → D j
  | [], m, _, h0, h => h0 h
  | e :: es, m, he, h0, h => by
    rw [List.foldl_cons] at h
    refine mask_fold hm hD j es _ (fun e' h' => he e' (by simp [h'])) ?_ h
    split
    · rename_i hb
      intro ht
      rw [Nat.testBit_or, Nat.testBit_or, Nat.testBit_two_pow] at ht
      simp only [Bool.or_eq_true, decide_eq_true_eq] at ht
      have hd := he e (by simp) hb
      rcases ht with (ht | ht) | ht
      · exact h0 ht
      · rw [← ht]; exact hd
      · rw [List.getD_eq_getElem?_getD] at ht
        cases hg : ms[e.on]? with
        | none => rw [hg] at ht; simp at ht
        | some m' =>
          rw [hg] at ht
          exact hm e.on m' hg D hD (fun o ho => hD e.on hd o ho) j ht
    · exact h0
theorem masks_ok {ops : Array Oper} : ∀ (r pre : List Oper) (ms : List Nat), ops.toList = pre ++ r → ms.length = pre.length → MaskOk ops ms → MaskOk ops (ancMasks r ms)
  | [], pre, ms, _, _, h => h
  | o :: r, pre, ms, he, hl, h => by
    refine masks_ok r (pre ++ [o]) (ms ++ [ancMask ms o]) (by simp [he]) (by simp [hl]) (fun i m hi D hD hed j hj => ?_)
    rw [List.getElem?_append] at hi
    split at hi
    · exact h i m hi D hD hed j hj
    · rename_i hlt
      have hi0 : i = ms.length := by
        have := (List.getElem?_eq_some_iff.1 hi).1
        simp at this; omega
      subst hi0
      simp at hi
      subst hi
      have ho : ops[ms.length]? = some o := by
        have : ops.toList[ms.length]? = some o := by rw [he, hl]; simp
        simpa using this
      exact mask_fold h hD j o.after.toList 0 (fun e hee hb => hed o ho e (by simpa using hee) hb) (by simp) hj
theorem anc_listed {ops : Array Oper} {D : Nat → Prop} (hD : DownClosed ops D) {i j : Nat} (hi : ∀ o, ops[i]? = some o → ∀ e ∈ o.after, Region.binds .any e = true → D e.on) (h : ((ancMasks ops.toList []).getD i 0).testBit j = true) : D j := by
  rw [List.getD_eq_getElem?_getD] at h
  cases hg : (ancMasks ops.toList [])[i]? with
  | none => rw [hg] at h; simp at h
  | some m =>
    rw [hg] at h
    exact masks_ok (ops := ops) ops.toList [] [] (by simp) rfl (fun i m hi => by simp at hi) i m hg D hD hi j h
end Go.Iv
