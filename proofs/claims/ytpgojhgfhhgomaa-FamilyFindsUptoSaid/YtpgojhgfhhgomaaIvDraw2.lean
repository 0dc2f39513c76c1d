/- Regions in every order that the text leaves open, the walk. No conditions. -/
import Derived.Test.YtpgojhgfhhgomaaIvDraw
namespace Go.Iv
set_option linter.unusedVariables false
set_option linter.unusedSimpArgs false
variable {P : Program} {CR : Nat → Code → IC → Prop} {N : Nat} {g g' : Gh} {lam : Nat → Option Nat} {F : Fr} {H : Hp} {a : Act} {w w' : World}

theorem getD_tf {l : Array Bool} {i : Nat} (h : i < l.size) (b : Bool) : l.getD i b = l[i] := by simp [Array.getD, h]
theorem zipIdx_all {α : Type} {l : List α} {p : α × Nat → Bool} (h : l.zipIdx.all p = true) {i : Nat} {x : α} (hx : l[i]? = some x) : p (x, i) = true := by
  refine List.all_eq_true.1 h (x, i) ?_
  rw [List.mem_zipIdx_iff_getElem?]
  exact hx

theorem draw_wp {call : CallF} (hc : CallOk P CR call) {Fc : Fence} (hF : FOk Fc) {ops : Array Oper} {ios : List Ins} (hios : iosB P N ops ops.toList ios = true) (hdr : drawB ops ios = true) {Q : Exit → Act → World → Prop} {g0 : Gh} {w0 : World} {df : List Deferred} {F' : Fr} {H' : Hp}
    (hN : ∀ g' lam' a' w', Rel CR N g' lam' F' H' a' w' → Ext g0 w0 g' w' → a'.defers = df → Q .normal a' w') :
    ∀ (fuel : Nat) (listed : Array Bool) (l : List Nat) (g : Gh) (lam : Nat → Option Nat) (F : Fr) (H : Hp) (a : Act) (w : World), listed.size = ops.size → l.length ≤ fuel → (∀ j, j ∈ l ↔ j < ops.size ∧ listed.getD j true = false) → l.Pairwise (· < ·) →
      (∀ i, listed.getD i false = true → ∀ o, ops[i]? = some o → ∀ e ∈ o.after, Region.binds .any e = true → listed.getD e.on false = true) →
      execL call ios l F H = some (F', H') → Rel CR N g lam F H a w → Ext g0 w0 g w → a.defers = df → wpAnyIn Fc 0 P .any ops Q fuel listed a w := by
  have hlen := iosB_len hios
  simp only [drawB, Bool.and_eq_true] at hdr
  obtain ⟨hE, hI⟩ := hdr
  have hE' : ∀ i o, ops[i]? = some o → ∀ e ∈ o.after, Region.binds .any e = true → e.on < i := by
    intro i o ho e he hb
    have := zipIdx_all hE (i := i) (x := o) (by simpa using ho)
    simp only [Array.all_eq_true_iff_forall_mem] at this
    have := this e he
    simp [hb] at this
    exact this
  intro fuel
  have hbase : ∀ (listed : Array Bool) (l : List Nat) (g : Gh) (lam : Nat → Option Nat) (F : Fr) (H : Hp) (a : Act) (w : World), listed.size = ops.size → (∀ j, j ∈ l ↔ j < ops.size ∧ listed.getD j true = false) → l.Pairwise (· < ·) →
      execL call ios l F H = some (F', H') → Rel CR N g lam F H a w → Ext g0 w0 g w → a.defers = df → (Region.ready .any ops listed = [] → l = [] ∧ Q .normal a w) := by
    intro listed l g lam F H a w hsz hl hs he h hx hdf hr
    cases l with
    | nil =>
      simp only [execL, Option.some.injEq, Prod.mk.injEq] at he
      obtain ⟨rfl, rfl⟩ := he
      exact ⟨rfl, hN g lam a w h hx hdf⟩
    | cons i r =>
      exfalso
      have hi := (hl i).1 (by simp)
      have : i ∈ Region.ready .any ops listed := by
        rw [mem_ready]
        refine ⟨hi.2, ops[i]'hi.1, by simp [hi.1], fun e he hb => ?_⟩
        have hlt := hE' i _ (by simp [hi.1]) e he hb
        cases hf : listed.getD e.on false with
        | true => rfl
        | false =>
          have hlt2 : e.on < listed.size := by omega
          have hm : e.on ∈ i :: r := (hl e.on).2 ⟨by omega, by rw [getD_tf hlt2] at hf ⊢; exact hf⟩
          rcases List.mem_cons.1 hm with hm | hm
          · omega
          · have := List.rel_of_pairwise_cons hs hm; omega
      rw [hr] at this; cases this
  induction fuel with
  | zero =>
    intro listed l g lam F H a w hsz hll hl hs hD he h hx hdf
    have hl0 : l = [] := by cases l with | nil => rfl | cons => simp at hll
    have hr : Region.ready .any ops listed = [] := by
      cases hr : Region.ready .any ops listed with
      | nil => rfl
      | cons i r =>
        have : i ∈ Region.ready .any ops listed := by rw [hr]; simp
        rw [mem_ready] at this
        obtain ⟨h1, o, ho, _⟩ := this
        have : i ∈ l := (hl i).2 ⟨(Array.getElem?_eq_some_iff.1 ho).1, h1⟩
        rw [hl0] at this; cases this
    exact ⟨hr, (hbase listed l g lam F H a w hsz hl hs he h hx hdf hr).2⟩
  | succ fuel ih =>
    intro listed l g lam F H a w hsz hll hl hs hD he h hx hdf
    refine ⟨fun hr => (hbase listed l g lam F H a w hsz hl hs he h hx hdf hr).2, fun i hi => ?_⟩
    obtain ⟨hi1, o, ho, hie⟩ := mem_ready.1 hi
    have hlt : i < ops.size := (Array.getElem?_eq_some_iff.1 ho).1
    have hil : i ∈ l := (hl i).2 ⟨hlt, hi1⟩
    obtain ⟨pre, post, rfl⟩ := List.append_of_mem hil
    obtain ⟨io, hio⟩ : ∃ io, ios[i]? = some io := ⟨ios[i]'(by rw [← hlen]; simpa using hlt), by simp⟩
    have hdi := zipIdx_all hI hio
    simp only at hdi
    split at hdi
    · rename_i fp hfp
      have hpre : ∀ j ∈ pre, ∀ jo, ios[j]? = some jo → ∃ fj, fpOf jo = some fj ∧ indep fj fp = true := by
        intro j hj jo hjo
        have hji : j < i := by
          have := List.pairwise_append.1 hs
          exact this.2.2 j hj i (by simp)
        have hk := zipIdx_all hdi (i := j) (x := jo) (by rw [List.getElem?_take]; simp [hji, hjo])
        simp only [Bool.or_eq_true] at hk
        rcases hk with hk | hk
        · exfalso
          have := anc_listed (D := fun i => listed.getD i false = true) hD (fun o' ho' => by rw [ho] at ho'; cases ho'; exact hie) hk
          have hjl := (hl j).1 (by simp [hj])
          have hjs : j < listed.size := by omega
          rw [getD_tf hjs] at this hjl
          rw [this] at hjl
          exact absurd hjl.2 (by simp)
        · split at hk
          · rename_i fj hfj; exact ⟨fj, hfj, hk⟩
          · cases hk
      obtain ⟨F1, H1, s1, s2⟩ := toFront hio hfp post pre F H hpre he
      refine stepO_wp hc hF h ho (iosB_get hios i o io (by simpa using ho) hio) s1 (fun _ g1 lam1 a1 w1 r1 r2 r3 => ?_) (fun v ev => by cases ev)
      have hni : ∀ j ∈ pre ++ post, j ≠ i := by
        have hnd := List.pairwise_append.1 hs
        intro j hj
        rcases List.mem_append.1 hj with hj | hj
        · have := hnd.2.2 j hj i (by simp); omega
        · have := List.rel_of_pairwise_cons hnd.2.1 hj; omega
      refine ih (listed.setIfInBounds i true) (pre ++ post) g1 lam1 F1 H1 a1 w1 (by simpa using hsz) (by simp at hll ⊢; omega) (fun j => ?_) ?_ ?_ s2 r1 (hx.trans r2) (r3.trans hdf)
      · by_cases hji : j = i
        · subst hji
          refine ⟨fun hj => absurd rfl (hni j hj), fun hj => ?_⟩
          have hjs : j < (listed.setIfInBounds j true).size := by simp; omega
          rw [getD_tf hjs] at hj
          simp at hj
        · rw [getD_set_ne true (Ne.symm hji), ← hl j]
          simp [hji]
      · have hnd := List.pairwise_append.1 hs
        exact List.pairwise_append.2 ⟨hnd.1, (List.pairwise_cons.1 hnd.2.1).2, fun x hx y hy => hnd.2.2 x hx y (by simp [hy])⟩
      · intro k hk o' ho' e' he' hb'
        by_cases hki : k = i
        · subst hki
          rw [ho] at ho'; cases ho'
          exact getD_set_true (hie e' he' hb')
        · rw [getD_set_ne false (Ne.symm hki)] at hk
          exact getD_set_true (hD k hk o' ho' e' he' hb')
    · cases hdi

theorem execL_of {call : CallF} : ∀ (r : List Ins) (pre : List Ins) (F : Fr) (H : Hp) {F' : Fr} {H' : Hp}, execOps call r F H = some (.normal, F', H') → execL call (pre ++ r) (List.range' pre.length r.length) F H = some (F', H')
  | [], pre, F, H, F', H', h => by simp only [execOps, Option.some.injEq, Prod.mk.injEq] at h; obtain ⟨_, rfl, rfl⟩ := h; rfl
  | io :: r, pre, F, H, F', H', h => by
    simp only [execOps] at h
    split at h
    · rename_i F1 H1 e1
      rw [List.length_cons, List.range'_succ]
      rw [execL_mk (io := io) (by simp) e1]
      have := execL_of r (pre ++ [io]) F1 H1 h
      simpa using this
    · rename_i x hne
      exact absurd h (hne F' H')

theorem execOps_anyway {call : CallF} (hc : CallOk P CR call) {Fc : Fence} (hF : FOk Fc) {ops : Array Oper} {ios : List Ins} (hios : iosB P N ops ops.toList ios = true) (hdr : drawB ops ios = true) {Q : Exit → Act → World → Prop} {g0 : Gh} {w0 : World} {df : List Deferred} {F' : Fr} {H' : Hp}
    (hN : ∀ g' lam' a' w', Rel CR N g' lam' F' H' a' w' → Ext g0 w0 g' w' → a'.defers = df → Q .normal a' w')
    (hs : execOps call ios F H = some (.normal, F', H')) (h : Rel CR N g lam F H a w) (hx : Ext g0 w0 g w) (hdf : a.defers = df) : wpAnyIn Fc 0 P .any ops Q ops.size (Array.replicate ops.size false) a w := by
  have hlen := iosB_len hios
  refine draw_wp hc hF hios hdr hN ops.size (Array.replicate ops.size false) (List.range ios.length) g lam F H a w (by simp) (by rw [List.length_range, ← hlen]; simp) (fun j => ?_) (by simpa using List.pairwise_lt_range) ?_ ?_ h hx hdf
  · rw [List.mem_range, ← hlen]
    simp only [Array.length_toList]
    refine ⟨fun hj => ⟨hj, ?_⟩, fun hj => hj.1⟩
    rw [getD_tf (by simpa using hj)]; simp
  · intro i hi
    exfalso
    by_cases hlt : i < ops.size
    · rw [getD_tf (by simpa using hlt)] at hi; simp at hi
    · simp [Array.getD, hlt] at hi
  · have := execL_of ios [] F H hs
    simpa [List.range_eq_range'] using this
end Go.Iv
