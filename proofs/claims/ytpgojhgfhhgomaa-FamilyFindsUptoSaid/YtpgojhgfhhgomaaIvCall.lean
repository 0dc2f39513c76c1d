/- Calls: what a call keeps, and the frame behind it. No conditions. -/
import Derived.Test.YtpgojhgfhhgomaaIvCom2
namespace Go.Iv
set_option linter.unusedVariables false
set_option linter.unusedSimpArgs false
variable {P : Program} {CR : Nat → Code → IC → Prop} {N : Nat} {g g' : Gh} {lam : Nat → Option Nat} {F : Fr} {H : Hp} {a : Act} {w w' : World}

def callTag : Ow → Ow
  | .imm => .imm
  | .heap id => .heap id
  | _ => .other
def Ow.loc : Ow → Bool
  | .imm | .heap _ | .other => false
  | _ => true
def NoLoc (g : Gh) : Prop := ∀ b o, (g.own b o).loc = false
def Ow.settled : Ow → Bool
  | .imm | .heap _ | .other | .gone | .res _ => true
  | _ => false
def Settled (g : Gh) : Prop := ∀ b o, (g.own b o).settled = true
def ROwn (g : Gh) (w : World) (v : V) (u : Value) : Prop :=
  match v with
  | .list sz xs true => xs ≠ [] → Spare g w (.res 0) sz u
  | .tuple vs => ∀ j sz xs, vs[j]? = some (.list sz xs true) → xs ≠ [] → ∀ us x, u = .tuple us → us[j]? = some x → Spare g w (.res j) sz x
  | _ => True
/-- what is asked of a call's end -/
def CPost (CR : Nat → Code → IC → Prop) (g : Gh) (w : World) (r : RV) (H' : Hp) : Ending → World → Prop := fun e w' =>
  ∃ g', Ext g w g' w' ∧ Base CR g' H' w' ∧ Settled g' ∧ match r with
    | .ret v => ∃ u, e = .returned u ∧ Rep g' v u ∧ ROwn g' w' v u
    | .pan v => ∃ u, e = .panicked [{ v := u, recovered := false }] ∧ Rep g' v u

theorem Base.call (h : Base CR g H w) : Base CR (g.retag callTag) H w :=
  Base.tr h (tr_retag g w callTag) (fun b o v e => by obtain ⟨h1, h2⟩ := h.mem b o v e; exact ⟨h1, by show callTag (g.own b o) = _; rw [h2]; rfl⟩) h.fresh (fun id ob e => .inl ⟨e, rfl⟩)
theorem noLoc_call (g : Gh) : NoLoc (g.retag callTag) := fun b o => by
  show (callTag (g.own b o)).loc = false
  cases g.own b o <;> rfl
theorem Ext.fz (h : Ext g w g' w') {b o : Nat} (hs : (ce w b o).isSome = true) : fz w' b o = fz w b o := by
  obtain ⟨c, e, f, hc, _⟩ := ce_isCells hs
  obtain ⟨c', h1, h2⟩ := h.cells b c e f hc
  unfold Iv.fz World.frozen?
  simp only [hc, h1]

def afterOwn (g g' : Gh) (w : World) (d : Option Nat) (b o : Nat) : Ow :=
  if b < w.heap.size ∧ (g.own b o).loc = true then (match g.own b o, d with | .spare t j, some d => if t = d then .gone else .spare t j | x, _ => x)
  else (match g'.own b o, d with | .res j, some d => .spare d j | .res _, none => .gone | x, _ => x)
def Gh.after (g g' : Gh) (w : World) (d : Option Nat) : Gh := { g' with own := afterOwn g g' w d }
theorem after_old {d : Option Nat} {b o : Nat} (hb : b < w.heap.size) (hl : (g.own b o).loc = true) (hn : ∀ t j, g.own b o = .spare t j → d ≠ some t) : (Gh.after g g' w d).own b o = g.own b o := by
  show afterOwn g g' w d b o = _
  unfold afterOwn
  rw [if_pos ⟨hb, hl⟩]
  cases e : g.own b o <;> cases d <;> try rfl
  rename_i t j d'
  have : t ≠ d' := fun h => hn t j e (by rw [h])
  simp [this]
theorem after_new {d : Option Nat} {b o : Nat} (h : ¬ (b < w.heap.size ∧ (g.own b o).loc = true)) : (Gh.after g g' w d).own b o = (match g'.own b o, d with | .res j, some d => .spare d j | .res _, none => .gone | x, _ => x) := by
  show afterOwn g g' w d b o = _
  unfold afterOwn
  rw [if_neg h]
def fgtF (F : Fr) (d : Option Nat) : Fr := match d with | some d => { F with tm := upd F.tm d .junk } | none => F
theorem Rel.fgt (h : Rel CR N g lam F H a w) (d : Option Nat) : Rel CR N g lam (fgtF F d) H a w := h.forget d
theorem fgt_put (F : Fr) (d : Option Nat) (v : V) : (fgtF F d).put d v = F.put d v := by
  cases d with
  | none => rfl
  | some d =>
    simp only [fgtF, Fr.put, Fr.mk.injEq, and_true]
    funext j
    simp only [upd]
    split <;> rfl
theorem Rel.afterCall (h : Rel CR N g lam F H a w) {H' : Hp} (hx : Ext (g.retag callTag) w g' w') (hb : Base CR g' H' w') (hst : Settled g') {v : V} {u : Value} (hr : Rep g' v u) (ho : ROwn g' w' v u) (d : Option Nat) (hd : ∀ t, d = some t → t < N) :
    ∃ g2, Rel CR N g2 lam (F.put d v) H' (a.put d u) w' ∧ Ext g w g2 w' ∧ g'.le g2 := by
  have hle2 : g'.le (Gh.after g g' w d) := ⟨fun _ _ _ e => e, fun _ _ e => e⟩
  have hle : g.le (Gh.after g g' w d) := ((g.retag_le callTag).trans hx.le).trans hle2
  -- the caller's own cells are for the callee somebody else's
  have hoth : ∀ b o, b < w.heap.size → (g.own b o).loc = true → g'.own b o = .other ∧ ce w' b o = ce w b o := fun b o hlt hl => by
    refine hx.other b o hlt ?_
    show callTag (g.own b o) = .other
    cases e : g.own b o <;> rw [e] at hl <;> first | rfl | cases hl
  have hnew : ∀ b o, g'.own b o ≠ .other → ¬ (b < w.heap.size ∧ (g.own b o).loc = true) := fun b o hn hc => hn (hoth b o hc.1 hc.2).1
  have T : Tr (fun x => x.loc = true ∧ ∀ t j, x = .spare t j → d ≠ some t) g w (Gh.after g g' w d) w' := by
    refine ⟨hle, fun b o hl hs => ?_, fun b ob e hn hl => ?_⟩
    · have hlt := ce_lt hs
      exact ⟨after_old hlt hl.1 hl.2, (hoth b o hlt hl.1).2, hx.fz hs⟩
    · have hlt : b < w.heap.size := (Array.getElem?_eq_some_iff.1 e).1
      refine ⟨hx.objs b ob e hn ?_, after_old hlt hl.1 hl.2⟩
      show callTag (g.own b 0) = .other
      have := hl.1
      cases e : g.own b 0 <;> rw [e] at this <;> first | rfl | cases this
  have T2 : Tr (fun x => ∃ id, x = .heap id) g' w' (Gh.after g g' w d) w' := by
    have key : ∀ b o, (∃ id, g'.own b o = .heap id) → (Gh.after g g' w d).own b o = g'.own b o := fun b o ⟨id, e⟩ => by
      rw [after_new (hnew b o (by rw [e]; simp)), e]
    exact ⟨hle2, fun b o hl _ => ⟨key b o hl, rfl, rfl⟩, fun b ob e _ hl => ⟨e, key b 0 hl⟩⟩
  have hbase : Base CR (Gh.after g g' w d) H' w' := hb.tr T2 (fun b o x e => by
      obtain ⟨k1, k2⟩ := hb.mem b o x e
      refine ⟨k1, ?_⟩
      rw [after_new (hnew b o (by rw [k2]; simp)), k2]) hb.fresh (fun id ob e => .inl ⟨e, id, rfl⟩)
  have hloc : ∀ t j, (Ow.spare t j).loc = true := fun _ _ => rfl
  have hjk := h.fgt d
  have h1 : Rel CR N (Gh.after g g' w d) lam (fgtF F d) H' a w' := by
    refine ⟨hbase, hjk.sz, fun t => (hjk.slot t).tr hle, fun t => (hjk.sown t).tr T (fun j hoj => ⟨rfl, fun t' j' e ed => ?_⟩), fun t cs e => ?_, hjk.ptr, fun x e => ?_, hjk.dfrN⟩
    · cases e
      subst ed
      simp [fgtF, upd, owns] at hoj
    · obtain ⟨blk, k1, k2⟩ := hjk.box t cs e
      exact ⟨blk, k1, k2.tr T ⟨rfl, by simp⟩ (fun _ => ⟨rfl, by simp⟩)⟩
    · obtain ⟨r, e1, e2, e3⟩ := hjk.dfr x e
      obtain ⟨t1, t2⟩ := T.objs r _ e2 rfl (by rw [e3]; exact ⟨rfl, by simp⟩)
      exact ⟨r, e1, t1, t2.trans e3⟩
  have hsp : ∀ {dd j sz : Nat} {x : Value}, d = some dd → Spare g' w' (.res j) sz x → Spare (Gh.after g g' w d) w' (.spare dd j) sz x := fun {dd j sz x} ed hs ad len cap hu => by
    obtain ⟨k1, k2, k3⟩ := hs ad len cap hu
    refine ⟨k1, k2, fun k hk => ?_⟩
    obtain ⟨p1, p2, p3⟩ := k3 k hk
    refine ⟨?_, p2, p3⟩
    rw [after_new (hnew _ _ (by rw [p1]; simp)), p1, ed]
  have h2 := h1.put d hd (v := v) (u := u) (hr.mono hle2).srep (fun t e => by
      cases v <;> try trivial
      · rename_i sz xs own
        cases own with
        | false => trivial
        | true => exact fun hne => hsp e (ho hne)
      · intro j sz xs hj hne us x hu hx'
        exact hsp e (ho j sz xs hj hne us x hu hx')) (fun t o e => absurd e (hr.notL t o))
  refine ⟨_, ?_, ⟨hle, hx.size, fun b o hlt hoo => ?_, hx.cells, fun b ob e hn hoo => ?_, hx.loops, hx.env⟩, hle2⟩
  · rw [← fgt_put]; exact h2
  · obtain ⟨k1, k2⟩ := hx.other b o hlt (by show callTag (g.own b o) = .other; rw [hoo]; rfl)
    refine ⟨?_, k2⟩
    rw [after_new (by rw [hoo]; rintro ⟨_, e⟩; cases e), k1]
  · exact hx.objs b ob e hn (by show callTag (g.own b 0) = .other; rw [hoo]; rfl)
/-- a panic out of a call -/
theorem Rel.afterPanic (h : Rel CR N g lam F H a w) {H' : Hp} (hx : Ext (g.retag callTag) w g' w') (hb : Base CR g' H' w') (hst : Settled g') {v : V} {u : Value} (hr : Rep g' v u) :
    ∃ g2, Rel CR N g2 lam F H' a w' ∧ Ext g w g2 w' ∧ Rep g2 v u := by
  obtain ⟨g2, h1, h2, h3⟩ := h.afterCall hx hb hst (v := .junk) (u := u) (.junk _) trivial none (fun t e => by cases e)
  exact ⟨g2, h1, h2, hr.mono h3⟩
end Go.Iv
