/- The code, walked: the walk itself. No conditions. -/
import Derived.Test.YtpgojhgfhhgomaaIvSound
namespace Go.Iv
set_option linter.unusedVariables false
set_option linter.unusedSimpArgs false
variable {P : Program} {CR : Nat → Code → IC → Prop} {N : Nat} {g g' : Gh} {lam : Nat → Option Nat} {F : Fr} {H : Hp} {a : Act} {w w' : World}

theorem Rel.mark (h : Rel CR N g lam F H a w) {r : Nat} (hr : w.heap[r]? = some (.deferred (some []))) (ho : g.own r 0 = .dfr) (hn : ∀ d ∈ a.defers, d.target ≠ .collected r) :
    Rel CR N g lam F H { a with defers := { target := .collected r, args := #[] } :: a.defers } w where
  base := h.base
  sz := h.sz
  slot := h.slot
  sown := h.sown
  box := h.box
  ptr := h.ptr
  dfr d hd := by
    rcases List.mem_cons.1 hd with rfl | hd
    · exact ⟨r, rfl, hr, ho⟩
    · exact h.dfr d hd
  dfrN := List.pairwise_cons.2 ⟨fun d hd e => hn d hd e.symm, h.dfrN⟩

theorem snap_rep (h : Rel CR N g lam F H a w) (ks : List Nat) (t : Nat) : Rep g (F.snap ks t) (a.tmps.getD t undef) := by
  unfold Fr.snap
  rw [look_map]
  split
  · have hs := h.slot t
    split
    · exact .junk _
    · rename_i hn
      have : Rep g (F.tm t) (a.tmps.getD t undef) := by
        unfold SRep at hs
        split at hs
        · rename_i t1 o1 e1; exact absurd e1 (hn _ _)
        · exact hs
      exact this.clr.hard
  · exact .junk _

theorem rf_core {call : CallF} (hc : CallOk P CR call) {Fc : Fence} (hF : FOk Fc) {g0 : Gh} {w0 : World} (h : Rel CR N g lam F H a w) (hx : Ext g0 w0 g w) {ps ks : List Nat} {asg body : IC} {rec : Loop}
    (r1 : rec.state = .ready) (r2 : rec.pending = none) (r3 : rec.params.toList = ps) (r4 : rec.tmps = a.tmps) (r5 : CR N rec.assign asg) (r6 : CR N rec.body body) (r7 : ∀ p ∈ ps, p < N)
    {k : Nat} {first cap : List V} {fs cs : Array Value} (hfs : RepL g first fs.toList) (hcs : RepL g cap cs.toList) {v : V} {H2 : Hp}
    (hcall : call (.fn k) (first ++ [.yld H.next] ++ cap) (H.new (.lp { tm := F.snap ks, params := ps, asg := asg, body := body, st := .ready, pend := .normal })) = some (.ret v, H2))
    {L : LR} (hob : H2.ob H.next = some (.lp L)) (hst : L.st ≠ .busy) :
    CallsIn Fc 0 P k (fs ++ #[Value.func (.yield w.heap.size) #[] #[]] ++ cs) (w.alloc (.loop rec)) (rangePost Fc 0 P w.heap.size (Post CR N g0 w0 F (H2.put H.next none) L.pend) a) := by
  have h1 := h.nb (.loop rec) (fun _ => none) (fun _ => Ow.heap H.next) (fun j v e => by cases e)
  have hf := h1.base.fresh H.next (Nat.le_refl _)
  have hle1 := nb_le h.base (fun _ => none) (fun _ => Ow.heap H.next)
  have hle2 := addMu_le hf (w.heap.size, 0, 0)
  have h2 := h1.newOb (w.heap.size, 0, 0) (.lp { tm := F.snap ks, params := ps, asg := asg, body := body, st := .ready, pend := .normal })
    ⟨rec, World.alloc_heap_new w _, by simp [Gh.nb, Gh.addMu], by rw [r1]; trivial, by rw [r2]; trivial, r3, fun t => by rw [r4]; exact ((snap_rep h ks t).mono hle1).mono hle2, fun p hp => by rw [r4, h.sz]; exact r7 p hp, by rw [r4, h.sz]; exact r5, by rw [r4, h.sz]; exact r6⟩
  have hx2 : Ext g0 w0 _ (w.alloc (.loop rec)) := hx.trans ((Ext.nb h.base (.loop rec) (fun _ => none) (fun _ => Ow.heap H.next)).trans (Ext.addMu hf (w.heap.size, 0, 0) _))
  have hle := hle1.trans hle2
  have hmu : ((g.nb w.heap.size (fun _ => none) (fun _ => Ow.heap H.next)).addMu H.next (w.heap.size, 0, 0)).mu H.next = some (w.heap.size, 0, 0) := by simp [Gh.addMu, upd]
  generalize (g.nb w.heap.size (fun _ => none) (fun _ => Ow.heap H.next)).addMu H.next (w.heap.size, 0, 0) = g2 at h2 hx2 hle hmu
  obtain ⟨_, k2⟩ := hc.fn _ _ _ _ _ hcall
  have hargs : RepL (g2.retag callTag) (first ++ [.yld H.next] ++ cap) (fs ++ #[Value.func (.yield w.heap.size) #[] #[]] ++ cs).toList := by
    have hl := hle.trans (g2.retag_le callTag)
    have := ((hfs.mono hl).append (RepL.cons (Rep.yld (g := g2.retag callTag) hmu) .nil)).append (hcs.mono hl)
    simpa using this
  have hcc := k2 (g2.retag callTag) (w.alloc (.loop rec)) _ h2.base.call (noLoc_call g2) hargs
  refine callsIn_mono (hF.calls hcc) (fun ed w1 hp => ?_)
  obtain ⟨g3, x1, x2, x3, u, rfl, x4, x5⟩ := hp
  obtain ⟨g4, y1, y2, y3⟩ := h2.afterCall x1 x2 x3 x4 x5 none (fun t e => by cases e)
  have hm4 := y2.le.mu _ _ hmu
  obtain ⟨b, base, cp, z1, z2⟩ := y1.base.heap _ _ hob
  rw [hm4] at z1; cases z1
  obtain ⟨r, z3, z4, z5, z6, _⟩ := z2
  have hnb : r.state ≠ .busy := fun e => by
    rw [e] at z5
    cases hL : L.st <;> rw [hL] at z5 <;> first | exact z5 | exact hst hL
  have hrun := run_endLoop (P := P) z3 hnb
  obtain ⟨v1, v2⟩ := y1.putLoop (r' := { r with state := .exhausted }) (base := 0) (cap := 0) z3 z4 none (fun ob e => by cases e)
  have hxx := (hx2.trans y2).trans v2
  generalize w1.putObj w.heap.size _ = w4 at v1 hxx hrun
  refine ⟨_, _, hrun, ?_⟩
  cases hp : r.pending with
  | none =>
    rw [hp] at z6
    cases hL : L.pend <;> rw [hL] at z6 <;> first | exact z6.elim | skip
    exact ⟨g4, lam, v1, hxx, rfl⟩
  | some c =>
    rw [hp] at z6
    cases hL : L.pend with
    | normal => rw [hL] at z6; exact z6.elim
    | panic v => rw [hL] at z6; exact z6.elim
    | ret =>
      rw [hL] at z6
      cases c <;> first | exact z6.elim | skip
      exact wpIn_ret ⟨g4, lam, v1, hxx, rfl⟩
    | exit id =>
      rw [hL] at z6
      cases c <;> first | exact z6.elim | skip
      have z6 : id = _ := z6
      subst z6
      exact wpIn_exit ⟨g4, lam, v1, hxx, rfl⟩

theorem exec_sound {call : CallF} (hc : CallOk P CR call) (hm : P.follows .mixedOrders = true) (hCR : ∀ N c ic, codeB P N ic c = true → CR N c ic) {Fc : Fence} (hF : FOk Fc) {n : Nat} :
    ∀ (ic : IC) {c : Code} {g : Gh} {lam : Nat → Option Nat} {F : Fr} {H : Hp} {a : Act} {w : World} {e : Ex} {F' : Fr} {H' : Hp},
      codeB P N ic c = true → exec call n ic F H = some (e, F', H') → Rel CR N g lam F H a w → Rnd Fc w → c.wpIn Fc 0 P (Post CR N g w F' H' e) a w
  | .skip, c, g, lam, F, H, a, w, e, F', H', hcb, hs, h, hr => by
    simp only [codeB] at hcb
    simp only [exec, Option.some.injEq, Prod.mk.injEq] at hs
    obtain ⟨rfl, rfl, rfl⟩ := hs
    split at hcb <;> try (cases hcb; done)
    · exact wpIn_skip ⟨g, lam, h, .refl g w, rfl⟩
    · exact wpIn_label ⟨g, lam, h, .refl g w, rfl⟩
  | .exit id, c, g, lam, F, H, a, w, e, F', H', hcb, hs, h, hr => by
    simp only [codeB] at hcb
    split at hcb <;> try (cases hcb; done)
    simp only [beq_iff_eq] at hcb
    subst hcb
    simp only [exec, Option.some.injEq, Prod.mk.injEq] at hs
    obtain ⟨rfl, rfl, rfl⟩ := hs
    exact wpIn_exit ⟨g, lam, h, .refl g w, rfl⟩
  | .ret, c, g, lam, F, H, a, w, e, F', H', hcb, hs, h, hr => by
    simp only [codeB] at hcb
    split at hcb <;> try (cases hcb; done)
    simp only [exec, Option.some.injEq, Prod.mk.injEq] at hs
    obtain ⟨rfl, rfl, rfl⟩ := hs
    exact wpIn_ret ⟨g, lam, h, .refl g w, rfl⟩
  | .reg ios ks dr, c, g, lam, F, H, a, w, e, F', H', hcb, hs, h, hr => by
    simp only [codeB] at hcb
    split at hcb <;> try (cases hcb; done)
    rename_i rid ops dr'
    simp only [Bool.and_eq_true, beq_iff_eq] at hcb
    obtain ⟨⟨rfl, hio⟩, hdr⟩ := hcb
    simp only [exec] at hs
    cases dr with
    | true =>
      simp only [Bool.not_true, Bool.false_or] at hdr
      split at hs
      · rename_i F1 H1 e1
        cases hs
        have hd : ({ w with drawn := w.drawn + 1 } : World).heap = w.heap := rfl
        exact wpIn_region_any hm (execOps_anyway hc hF hio hdr (g0 := g) (w0 := w) (df := a.defers) (fun g' lam' a' w' k1 k2 _ => ⟨g', lam', k1.keep ks, k2, rfl⟩) e1 (h.heap hd) (Ext.heap g hd) rfl)
      · simp at hs
      · cases hs
    | false =>
      have hlen := iosB_len hio
      have hget : ∀ i io, ios[i]? = some io → ∃ o, ops[0 + i]? = some o ∧ ioB P N ops o io = true := fun i io hi => by
        have hlt : i < ios.length := (List.getElem?_eq_some_iff.1 hi).1
        have hlt2 : i < ops.size := by rw [← hlen] at hlt; simpa using hlt
        exact ⟨ops[i], by simp [hlt2], iosB_get hio i _ io (by simp [hlt2]) hi⟩
      have hrange : List.range ops.size = List.range' 0 ios.length := by
        rw [List.range_eq_range', ← hlen]; simp
      split at hs
      · rename_i F1 H1 e1
        cases hs
        refine wpIn_region ?_
        rw [hrange]
        exact ops_wp hc hF (g0 := g) (w0 := w) (df := a.defers) (fun _ g' lam' a' w' k1 k2 _ => ⟨g', lam', k1.keep ks, k2, rfl⟩) (fun v ev => by cases ev) ios 0 g lam F H a w hget e1 h (.refl g w) rfl
      · rename_i e1 F1 H1 hne e2
        simp only [Bool.false_eq_true, if_false, Option.some.injEq, Prod.mk.injEq] at hs
        obtain ⟨rfl, rfl, rfl⟩ := hs
        refine wpIn_region ?_
        rw [hrange]
        exact ops_wp hc hF (g0 := g) (w0 := w) (df := a.defers) (fun en => (hne en).elim) (fun v ev g' lam' u a' w' k1 k2 _ k3 => by subst ev; exact ⟨g', lam', k1, k2, u, rfl, k3⟩) ios 0 g lam F H a w hget e2 h (.refl g w) rfl
      · cases hs
  | .seq x y, c, g, lam, F, H, a, w, e, F', H', hcb, hs, h, hr => by
    simp only [codeB] at hcb
    split at hcb <;> try (cases hcb; done)
    simp only [Bool.and_eq_true] at hcb
    simp only [exec] at hs
    split at hs
    · rename_i F1 H1 e1
      refine wpIn_seq (wpIn_mono (exec_sound hc hm hCR hF x hcb.1 e1 h hr) (fun ex a1 w1 hp => ?_))
      obtain ⟨g1, lam1, k1, k2, k3⟩ := hp
      cases k3
      exact wpIn_mono (exec_sound hc hm hCR hF y hcb.2 hs k1 (hr.ext k2)) (fun ex a2 w2 hp2 => hp2.ext k2)
    · rename_i hne
      refine wpIn_seq (wpIn_mono (exec_sound hc hm hCR hF x hcb.1 hs h hr) (fun ex a1 w1 hp => ?_))
      rw [exM_ne hp.choose_spec.choose_spec.2.2 (fun en => by subst en; exact absurd hs (hne _ _))]
      exact hp
  | .cond k x y, c, g, lam, F, H, a, w, e, F', H', hcb, hs, h, hr => by
    simp only [codeB] at hcb
    split at hcb <;> try (cases hcb; done)
    simp only [Bool.and_eq_true] at hcb
    obtain ⟨⟨hk, hx⟩, hy⟩ := hcb
    simp only [exec] at hs
    split at hs
    · rename_i e1
      have hk' := rd_rep h hk e1 (fun t o e => by cases e)
      generalize hev : a.eval _ = ev at hk'
      cases hk'
      exact wpIn_cond_true hev (exec_sound hc hm hCR hF x hx hs h hr)
    · rename_i e1
      have hk' := rd_rep h hk e1 (fun t o e => by cases e)
      generalize hev : a.eval _ = ev at hk'
      cases hk'
      exact wpIn_cond_false hev (exec_sound hc hm hCR hF y hy hs h hr)
    · cases hs
  | .block id x, c, g, lam, F, H, a, w, e, F', H', hcb, hs, h, hr => by
    simp only [codeB] at hcb
    split at hcb <;> try (cases hcb; done)
    simp only [Bool.and_eq_true, beq_iff_eq] at hcb
    obtain ⟨rfl, hx⟩ := hcb
    simp only [exec] at hs
    split at hs
    · rename_i id' F1 H1 e1
      refine wpIn_block (wpIn_mono (exec_sound hc hm hCR hF x hx e1 h hr) (fun ex a1 w1 hp => ?_))
      obtain ⟨g1, lam1, k1, k2, k3⟩ := hp
      cases k3
      simp only [Exit.inBlock]
      split at hs
      · rename_i hid
        cases hs
        rw [if_pos hid]
        exact ⟨g1, lam1, k1, k2, rfl⟩
      · rename_i hid
        cases hs
        rw [if_neg hid]
        exact ⟨g1, lam1, k1, k2, rfl⟩
    · rename_i hne
      refine wpIn_block (wpIn_mono (exec_sound hc hm hCR hF x hx hs h hr) (fun ex a1 w1 hp => ?_))
      obtain ⟨g1, lam1, k1, k2, k3⟩ := hp
      cases e with
      | normal => cases k3; exact ⟨g1, lam1, k1, k2, rfl⟩
      | exit i => exact absurd hs (hne _ _ _)
      | ret => cases k3; exact ⟨g1, lam1, k1, k2, rfl⟩
      | panic v => obtain ⟨u, rfl, k4⟩ := k3; exact ⟨g1, lam1, k1, k2, u, rfl, k4⟩
  | .loop x, c, g, lam, F, H, a, w, e, F', H', hcb, hs, h, hr => by
    simp only [codeB] at hcb
    split at hcb <;> try (cases hcb; done)
    rename_i x'
    simp only [exec] at hs
    have key : ∀ (k : Nat) (g1 : Gh) (lam1 : Nat → Option Nat) (F1 : Fr) (H1 : Hp) (a1 : Act) (w1 : World), loopN (exec call n x) k F1 H1 = some (e, F', H') → Rel CR N g1 lam1 F1 H1 a1 w1 → Rnd Fc w1 → Ext g w g1 w1 →
        Code.roundsIn Fc 0 P x' (Post CR N g w F' H' e) k a1 w1 := by
      intro k
      induction k with
      | zero => intro g1 lam1 F1 H1 a1 w1 hs; simp [loopN] at hs
      | succ k ih =>
        intro g1 lam1 F1 H1 a1 w1 hs h1 hr1 hx1
        simp only [loopN] at hs
        rw [roundsIn_succ]
        split at hs
        · rename_i F2 H2 e2
          refine wpIn_mono (exec_sound hc hm hCR hF x hcb e2 h1 hr1) (fun ex a2 w2 hp => ?_)
          obtain ⟨g2, lam2, k1, k2, k3⟩ := hp
          cases k3
          exact ih g2 lam2 F2 H2 a2 w2 hs k1 (hr1.ext k2) (hx1.trans k2)
        · rename_i hne
          refine wpIn_mono (exec_sound hc hm hCR hF x hcb hs h1 hr1) (fun ex a2 w2 hp => ?_)
          rw [exM_ne hp.choose_spec.choose_spec.2.2 (fun en => by subst en; exact absurd hs (hne _ _))]
          exact hp.ext hx1
    exact wpIn_loop_rounds n (key n g lam F H a w hs h hr (.refl g w))
  | .scope x, c, g, lam, F, H, a, w, e, F', H', hcb, hs, h, hr => by
    simp only [codeB] at hcb
    split at hcb <;> try (cases hcb; done)
    simp only [exec] at hs
    refine wpIn_scope (wpIn_mono (exec_sound hc hm hCR hF x hcb hs h hr) (fun ex a1 w1 hp => ⟨fun l el => ?_, hp⟩))
    subst el
    obtain ⟨_, _, _, _, k3⟩ := hp
    cases e <;> first | (cases k3; done) | (obtain ⟨_, h, _⟩ := k3; cases h)
  | .rf f ps ks x y, c, g, lam, F0, H, a, w, e, F', H', hcb, hs, h, hr => by
    simp only [codeB] at hcb
    split at hcb <;> try (cases hcb; done)
    rename_i f' ps' x' y'
    simp only [Bool.and_eq_true, beq_iff_eq] at hcb
    obtain ⟨⟨⟨⟨hf, hps⟩, hpn⟩, hx⟩, hy⟩ := hcb
    have hpn : ∀ p ∈ ps, p < N := fun p hp => by simpa using List.all_eq_true.1 hpn p hp
    simp only [exec] at hs
    obtain ⟨g1, h1, hx1⟩ := Rel.frzAll ks h
    split at hs <;> try (cases hs; done)
    rename_i k first cap ef
    split at hs <;> try (cases hs; done)
    rename_i v H2 hcall
    split at hs <;> try (cases hs; done)
    rename_i L hob
    split at hs
    · cases hs
    rename_i hst
    cases hs
    have hfr := rd_rep h1 hf ef (fun t o e => by cases e)
    generalize hfv : a.eval f' = fv at hfr
    cases hfr with
    | fn hfi hca =>
      rename_i vf vc
      obtain ⟨kk, _⟩ := hc.fn _ _ _ _ _ hcall
      refine wpIn_rangeFunc (fun fn hfn => ?_)
      have hres : ∀ l W, (resolve a.eval (rangeCall f' l) 0).run P W = .ok { target := .fn (.func k) vc, args := vf ++ #[Value.func (.yield l) #[] #[]] } W := fun l W => by
        rw [run_resolve (c := rangeCall f' l) rfl hfv]
        simp [rangeCall]
        rfl
      have hinv : ∀ l W, (invoke (.fn (.func k) vc) (vf ++ #[Value.func (.yield l) #[] #[]])).run P W = .ok (.enter k (vf ++ #[Value.func (.yield l) #[] #[]] ++ vc)) W := fun l W => by simp only [invoke, kk]
      cases hro : Fc.round with
      | none =>
        have h2 := h1.nb (.deferred (some [])) (fun _ => none) (fun _ => Ow.dfr) (fun j v e => by cases e)
        have h3 := h2.mark (r := w.heap.size) (World.alloc_heap_new w _) (by simp [Gh.nb]) (fun d hd e => by
          obtain ⟨r, e1, e2, _⟩ := h1.dfr d hd
          rw [e1] at e; cases e
          have := (Array.getElem?_eq_some_iff.1 e2).1
          omega)
        have hle := nb_le h1.base (fun _ => none) (fun _ => Ow.dfr)
        refine ⟨_, _, _, _, _, k, _, _, run_enterLoop_outer _ _ _ _ _, hres _ _, fun f' _ => hF.fn f', hinv _ _, fun hde => (by rw [hF.depth] at hde; cases hde), ?_⟩
        have := rf_core hc hF (g0 := g) (w0 := w) h3 (hx1.trans (Ext.nb h1.base (.deferred (some [])) (fun _ => none) (fun _ => Ow.dfr))) (ps := ps) (asg := x) (body := y)
          (rec := { state := .ready, pending := none, fn, tmps := a.tmps, params := ps', assign := x', body := y', defers := w.heap.size }) rfl rfl hps rfl (hCR _ _ _ hx) (hCR _ _ _ hy) hpn (hfi.mono hle) (hca.mono hle) hcall hob hst
        rw [size_alloc] at this
        exact this
      | some l0 =>
        obtain ⟨r0, hr0⟩ := hr l0 hro
        refine ⟨_, _, _, _, _, k, _, _, run_enterLoop_inner hr0 _ _ _ _ _, hres _ _, fun f' _ => hF.fn f', hinv _ _, fun hde => (by rw [hF.depth] at hde; cases hde), ?_⟩
        exact rf_core hc hF (g0 := g) (w0 := w) h1 hx1 (ps := ps) (asg := x) (body := y)
          (rec := { state := .ready, pending := none, fn, tmps := a.tmps, params := ps', assign := x', body := y', defers := r0.defers }) rfl rfl hps rfl (hCR _ _ _ hx) (hCR _ _ _ hy) hpn hfi hca hcall hob hst
end Go.Iv
