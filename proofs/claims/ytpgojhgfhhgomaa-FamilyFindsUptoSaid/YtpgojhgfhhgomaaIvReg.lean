/- Operations with calls, and regions, in whatever order. No conditions. -/
import Derived.Test.YtpgojhgfhhgomaaIvCall
import Derived.RangeFuncCalls
namespace Go.Iv
set_option linter.unusedVariables false
set_option linter.unusedSimpArgs false
variable {P : Program} {CR : Nat → Code → IC → Prop} {N : Nat} {g g' : Gh} {lam : Nat → Option Nat} {F : Fr} {H : Hp} {a : Act} {w w' : World}

structure CallOk (P : Program) (CR : Nat → Code → IC → Prop) (call : CallF) : Prop where
  fn : ∀ k args H r H', call (.fn k) args H = some (r, H') → (∀ (cargs : Array Value) (w : World), (callFunc k cargs).run P w = .ok (.enter k cargs) w) ∧
    ∀ (g : Gh) (w : World) (cargs : Array Value), Base CR g H w → NoLoc g → RepL g args cargs.toList → CallsIn Fence.wide 0 P k cargs w (CPost CR g w r H')
  yld : ∀ id args H r H', call (.yld id) args H = some (r, H') → ∀ (g : Gh) (w : World) (cargs : Array Value) (b base cap : Nat), Base CR g H w → NoLoc g → RepL g args cargs.toList → g.mu id = some (b, base, cap) →
    ∃ f tmps asg body, (Instr.yield b cargs).run P w = .ok (.round b f tmps asg body) w ∧ RoundIn Fence.wide 0 P b f tmps asg body w (CPost CR g w r H')
def FOk (Fc : Fence) : Prop := Fc = Fence.wide ∨ ∃ l, Fc = Fence.wide.inRound l
theorem FOk.fn {Fc : Fence} (h : FOk Fc) (f : FuncId) : Fc.fn f := by rcases h with rfl | ⟨l, rfl⟩ <;> trivial
theorem FOk.depth {Fc : Fence} (h : FOk Fc) : Fc.depth = none := by rcases h with rfl | ⟨l, rfl⟩ <;> rfl
theorem FOk.calls {Fc : Fence} (h : FOk Fc) {n : Nat} {f : FuncId} {args : Array Value} {R : Ending → World → Prop} (hc : CallsIn Fence.wide n P f args w R) : CallsIn Fc n P f args w R := by
  rcases h with rfl | ⟨l, rfl⟩
  · exact hc
  · exact hc
theorem FOk.round {Fc : Fence} (h : FOk Fc) {n b : Nat} {f : FuncId} {tmps : Array Value} {asg body : Code} {R : Ending → World → Prop} (hc : RoundIn Fence.wide n P b f tmps asg body w R) : RoundIn Fc n P b f tmps asg body w R := by
  rcases h with rfl | ⟨l, rfl⟩
  · exact hc
  · exact hc
theorem callsIn_mono {Fc : Fence} {n : Nat} {f : FuncId} {args : Array Value} {R R' : Ending → World → Prop} (h : CallsIn Fc n P f args w R) (hr : ∀ e w', R e w' → R' e w') : CallsIn Fc n P f args w R' :=
  ⟨h.1, fun cs hroom => let ⟨e, w', fr, r, s⟩ := h.2 cs hroom; ⟨e, w', fr, hr _ _ r, s⟩⟩

def callB (o : Op) (io : IOp) : Bool :=
  match io, o with
  | .callF k xs, .call c => (match c.callee with | .value (.func k') => k == k' | _ => false) && rdsB c.args.toList xs
  | .callV x xs, .call c => (match c.callee with | .value f => rdB f x | _ => false) && rdsB c.args.toList xs
  | .pan x, .call c => match c.callee, c.args.toList with | .builtin .panic, [x'] => rdB x' x | _, _ => false
  | .pan x, .panic x' => rdB x' x
  | _, _ => false
def guardB (ops : Array Oper) (o : Option (Nat × Bool)) (g : Option (Nat × Bool)) : Bool :=
  match o, g with
  | none, none => true
  | some (j, b), some (s, b') => ((ops[j]?).bind (·.dst)) == some s && b == b'
  | _, _ => false
def ioB (P : Program) (N : Nat) (ops : Array Oper) (o : Oper) (io : Ins) : Bool :=
  o.dst == io.dst && (match io.dst with | some d => decide (d < N) | none => true) && guardB ops o.guard io.g && (opB P o.op io.op || callB o.op io.op)

theorem wants_ok (h : Rel CR N g lam F H a w) {ops : Array Oper} {o : Oper} {gi : Option (Nat × Bool)} (hg : guardB ops o.guard gi = true) {t : Bool} (hw : wants F gi = some t) : Region.wanted o (yielded ops a.tmps) = t := by
  unfold guardB at hg
  unfold Region.wanted
  split at hg
  · rename_i e1; rw [e1]; simp only [wants, Option.some.injEq] at hw; exact hw
  · rename_i j b s b' e1
    rw [e1]
    simp only [Bool.and_eq_true, beq_iff_eq] at hg
    obtain ⟨hg, rfl⟩ := hg
    simp only [wants] at hw
    have hs := h.slot s
    have hd : a.tmps.getD s undef = (a.tmps[s]?).getD undef := by simp [Array.getD_eq_getD_getElem?]
    split at hw
    · rename_i c e2
      rw [e2] at hs
      cases hw
      have hs : Rep g (.b c) (a.tmps.getD s undef) := hs
      rw [hd] at hs
      cases hv : a.tmps[s]? with
      | none => rw [hv] at hs; cases hs
      | some x =>
        rw [hv] at hs
        simp only [Option.getD_some] at hs
        cases hs
        simp [yielded, hg, hv]
    · rename_i vs e2
      rw [e2] at hs
      cases hw
      have hs : Rep g (.tuple vs) (a.tmps.getD s undef) := hs
      rw [hd] at hs
      cases hv : a.tmps[s]? with
      | none => simp [yielded, hg, hv]
      | some x =>
        rw [hv] at hs
        simp only [Option.getD_some] at hs
        cases hs
        simp [yielded, hg, hv]
    · cases hw
  · cases hg

theorem run_resolve {f : Operand} {c : Call} (hc : c.callee = .value f) {fn : Fn} {first cap : Array Value} (hf : a.eval f = .func fn first cap) (t : TypeId) : (resolve a.eval c t).run P w = .ok { target := .fn fn cap, args := first ++ c.args.map a.eval } w := by
  simp [resolve, hc, hf, Deferred.ofValue]

theorem stepO_wp {call : CallF} (hc : CallOk P CR call) {Fc : Fence} (hF : FOk Fc) (h : Rel CR N g lam F H a w) {ops : Array Oper} {i : Nat} {o : Oper} (hi : ops[i]? = some o) {io : Ins} (hio : ioB P N ops o io = true)
    {e : Ex} {F' : Fr} {H' : Hp} (hs : stepO call io F H = some (e, F', H')) {K : Act → World → Prop} {Q : Exit → Act → World → Prop}
    (hK : e = .normal → ∀ g' lam' a' w', Rel CR N g' lam' F' H' a' w' → Ext g w g' w' → a'.defers = a.defers → K a' w')
    (hQ : ∀ v, e = .panic v → ∀ g' lam' u w', Rel CR N g' lam' F' H' a w' → Ext g w g' w' → Rep g' v u → Q (.panic [{ v := u, recovered := false }]) a w') : wpOpIn Fc 0 P ops Q i K a w := by
  unfold ioB at hio
  simp only [Bool.and_eq_true, beq_iff_eq, Bool.or_eq_true] at hio
  obtain ⟨⟨⟨hdst, hdN⟩, hg⟩, hop⟩ := hio
  have hd : ∀ t, io.dst = some t → t < N := fun t e => by rw [e] at hdN; simpa using hdN
  unfold wpOpIn
  simp only [hi]
  have habout : ∀ f, o.about P w a.eval = some f → Fc.fn f := fun f _ => hF.fn f
  unfold stepO at hs
  split at hs
  · cases hs
  · rename_i hw
    cases hs
    rw [wants_ok h hg hw]
    simp only [Bool.false_eq_true, if_false]
    refine ⟨habout, hK rfl g lam _ w ?_ (.refl g w) (put_defers _ _ _)⟩
    rw [hdst]
    exact h.put io.dst hd (v := .tuple []) (Rep.srep (.tuple .nil)) (fun _ _ => by intro j sz xs hj; simp at hj) (fun t o e => by cases e)
  · rename_i hw
    rw [wants_ok h hg hw]
    simp only [if_true]
    -- what a call hands on
    have hdone : ∀ {tg : Tg} {args : List V}, calls call io.dst tg args F H = some (e, F', H') → ∀ {ed : Ending} {w1 : World} {r : RV}, call tg args H = some (r, H') → CPost CR (g.retag callTag) w r H' ed w1 →
        (match ed with
          | .returned v => K (a.put o.dst v) w1
          | .panicked chain => Q (.panic chain) a w1
          | .outgrown => LetsOut Q) := by
      intro tg args hcl ed w1 r hr hp
      obtain ⟨g1, x1, x2, x3, x4⟩ := hp
      unfold calls at hcl
      rw [hr] at hcl
      cases r with
      | ret v =>
        cases hcl
        obtain ⟨u, rfl, k1, k2⟩ := x4
        obtain ⟨g2, r1, r2, r3⟩ := h.afterCall x1 x2 x3 k1 k2 io.dst hd
        simp only
        rw [hdst]
        exact hK rfl g2 lam _ w1 r1 r2 (put_defers _ _ _)
      | pan v =>
        cases hcl
        obtain ⟨u, rfl, k1⟩ := x4
        obtain ⟨g2, r1, r2, r3⟩ := h.afterPanic x1 x2 x3 k1
        exact hQ v rfl g2 lam u w1 r1 r2 r3
    have hbc := h.base.call
    have hnl := noLoc_call g
    have hsome : ∀ {tg : Tg} {args : List V}, calls call io.dst tg args F H = some (e, F', H') → ∃ r, call tg args H = some (r, H') := by
      intro tg args hcl
      unfold calls at hcl
      split at hcl
      · rename_i v H2 e2; cases hcl; exact ⟨_, e2⟩
      · rename_i v H2 e2; cases hcl; exact ⟨_, e2⟩
      · cases hcl
    have hfin : ∀ {f : FuncId} {cargs : Array Value} {R : Ending → World → Prop}, (∀ c, o.op ≠ .defer c) → (execOp a.eval o).run P w = .ok (.enter f cargs) w → CallsIn Fence.wide 0 P f cargs w R →
        (∀ ed w1, R ed w1 → (match ed with | .returned v => K (a.put o.dst v) w1 | .panicked chain => Q (.panic chain) a w1 | .outgrown => LetsOut Q)) → o.wpIn Fc 0 P a w K Q := by
      intro f cargs R hnd hrun hcc hR
      refine ⟨habout, ?_⟩
      rw [Oper.semAt_eq _ _ _ hnd, hrun]
      refine ⟨fun hde => (by rw [hF.depth] at hde; cases hde), callsIn_mono (hF.calls hcc) (fun ed w1 hr => ?_)⟩
      have := hR ed w1 hr
      cases ed <;> exact this
    rcases hop with hop | hop
    · -- no call
      have hV : ∃ v F1, stepV io.op io.dst F H = some (v, F1, H') ∧ F' = F1.put io.dst v ∧ e = .normal := by
        split at hs
        · rename_i x ho; rw [ho] at hop; simp [opB] at hop
        · rename_i k xs ho; rw [ho] at hop; simp [opB] at hop
        · rename_i x xs ho; rw [ho] at hop; simp [opB] at hop
        · split at hs
          · rename_i v F1 H1 e2; cases hs; exact ⟨v, F1, e2, rfl, rfl⟩
          · cases hs
      obtain ⟨v, F1, hsv, rfl, rfl⟩ := hV
      obtain ⟨u, w1, g1, lam1, hrun, r1, r2⟩ := step_sim (P := P) h (o := o) hd hop hsv
      refine ⟨habout, ?_⟩
      have hnd : ∀ c, o.op ≠ .defer c := fun c e => by rw [e] at hop; unfold opB at hop; split at hop <;> simp_all
      rw [Oper.semAt_eq _ _ _ hnd]
      rw [← hdst] at r1
      rcases hrun with hrun | ⟨hrun, rfl⟩
      · rw [hrun]; exact hK rfl g1 lam1 _ w1 (by rw [← hdst]; exact r1) r2 (put_defers _ _ _)
      · rw [hrun]; exact hK rfl g1 lam1 _ w1 (by rw [← hdst]; exact r1) r2 (put_defers _ _ _)
    · -- a call
      unfold callB at hop
      split at hop
      · -- of a function by its name
        rename_i k xs c e1 e2
        simp only [Bool.and_eq_true] at hop
        have hnd : ∀ c', o.op ≠ .defer c' := fun c' e => by rw [e2] at e; cases e
        rw [e1] at hs
        simp only at hs
        split at hs
        · rename_i args ha
          obtain ⟨r, hr⟩ := hsome hs
          obtain ⟨k1, k2⟩ := hc.fn _ _ _ _ _ hr
          have hcal : c.callee = .value (.func k) := by
            have := hop.1
            split at this
            · rename_i k' e3; simp only [beq_iff_eq] at this; rw [this]; exact e3
            · cases this
          obtain ⟨a1, _⟩ := args_rep h hop.2 ha
          have hrun : (execOp a.eval o).run P w = .ok (.enter k (#[] ++ c.args.map a.eval ++ #[])) w := by
            simp only [execOp, e2, Sem.run_bind, run_resolve hcal (show a.eval (.func k) = .func (.func k) #[] #[] from rfl), Result.andThen, invoke, k1]
          refine hfin hnd hrun (k2 (g.retag callTag) w _ hbc hnl ?_) (fun ed w1 hp => hdone hs hr hp)
          have := a1.mono (g.retag_le callTag)
          simpa using this
        · cases hs
      · -- of a function value
        rename_i x xs c e1 e2
        simp only [Bool.and_eq_true] at hop
        have hnd : ∀ c', o.op ≠ .defer c' := fun c' e => by rw [e2] at e; cases e
        rw [e1] at hs
        simp only at hs
        obtain ⟨f, hcal, hfx⟩ : ∃ f, c.callee = .value f ∧ rdB f x = true := by
          have := hop.1
          split at this
          · rename_i f e3; exact ⟨f, e3, this⟩
          · cases this
        split at hs
        · rename_i args k first cap ha hg2
          obtain ⟨r, hr⟩ := hsome hs
          obtain ⟨k1, k2⟩ := hc.fn _ _ _ _ _ hr
          obtain ⟨a1, _⟩ := args_rep h hop.2 ha
          have hfr := rd_rep h hfx hg2 (by intro t o e; cases e)
          generalize hfv : a.eval f = fv at hfr
          cases hfr with
          | fn hfi hca =>
            rename_i vf vc
            have hrun : (execOp a.eval o).run P w = .ok (.enter k (vf ++ c.args.map a.eval ++ vc)) w := by
              simp only [execOp, e2, Sem.run_bind, run_resolve hcal hfv, Result.andThen, invoke, k1]
            refine hfin hnd hrun (k2 (g.retag callTag) w _ hbc hnl ?_) (fun ed w1 hp => hdone hs hr hp)
            have := (((hfi.mono (g.retag_le callTag)).append (a1.mono (g.retag_le callTag))).append (hca.mono (g.retag_le callTag)))
            simpa using this
        · rename_i args id ha hg2
          obtain ⟨r, hr⟩ := hsome hs
          obtain ⟨a1, _⟩ := args_rep h hop.2 ha
          have hfr := rd_rep h hfx hg2 (by intro t o e; cases e)
          generalize hfv : a.eval f = fv at hfr
          cases hfr with
          | yld hmu =>
            rename_i b0 base0 cap0
            obtain ⟨f', tmps, asg, body, y1, y2⟩ := hc.yld _ _ _ _ _ hr (g.retag callTag) w (c.args.map a.eval) _ _ _ hbc hnl (by simpa using a1.mono (g.retag_le callTag)) hmu
            refine ⟨habout, ?_⟩
            rw [Oper.semAt_eq _ _ _ hnd]
            have hrun : (execOp a.eval o).run P w = .ok (.round b0 f' tmps asg body) w := by
              simp only [execOp, e2, Sem.run_bind, run_resolve hcal hfv, Result.andThen, invoke]
              simpa using y1
            rw [hrun]
            refine ⟨fun hde => (by rw [hF.depth] at hde; cases hde), (hF.round y2).mono (fun ed w1 hp => ?_)⟩
            have := hdone hs hr hp
            cases ed <;> exact this
        · cases hs
      · -- panic
        rename_i x c e1 e2
        split at hop
        · rename_i x' e3 e4
          have hnd : ∀ c', o.op ≠ .defer c' := fun c' e => by rw [e2] at e; cases e
          rw [e1] at hs
          simp only at hs
          split at hs
          · rename_i t v e5
            cases hs
            have hr := out_rep h hop (by rw [e5]; rfl)
            rw [e5] at hr
            have hca := call_eta c (x := x') (ts := c.argTypes) e3 e4 rfl
            generalize hu : a.eval x' = u at hr
            cases hr with
            | iface hr =>
              rename_i ux
              refine ⟨habout, ?_⟩
              rw [Oper.semAt_eq _ _ _ hnd]
              have hrun : (execOp a.eval o).run P w = .halt (.panic (.iface t ux)) w := by
                rw [hca] at e2
                simp [execOp, e2, resolve, Sem.run_bind, invoke, builtin, hu, Instr.panic]
              rw [hrun]
              exact hQ _ rfl g lam _ w h (.refl g w) (.iface hr)
          · cases hs
        · cases hop
      · rename_i x x' e1 e2
        have hnd : ∀ c', o.op ≠ .defer c' := fun c' e => by rw [e2] at e; cases e
        rw [e1] at hs
        simp only at hs
        split at hs
        · rename_i t v e5
          cases hs
          have hr := out_rep h hop (by rw [e5]; rfl)
          rw [e5] at hr
          generalize hu : a.eval x' = u at hr
          cases hr with
          | iface hr =>
            rename_i ux
            refine ⟨habout, ?_⟩
            rw [Oper.semAt_eq _ _ _ hnd]
            have hrun : (execOp a.eval o).run P w = .halt (.panic (.iface t ux)) w := by
              simp [execOp, e2, Sem.run_bind, hu, Instr.panic]
            rw [hrun]
            exact hQ _ rfl g lam _ w h (.refl g w) (.iface hr)
        · cases hs
      · cases hop
end Go.Iv
