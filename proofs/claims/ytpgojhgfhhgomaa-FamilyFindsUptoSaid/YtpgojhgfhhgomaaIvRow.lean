/- From a run of the machine to a function's contract at a row: all memory that lies at the start is taken for immutable. No conditions. -/
import Derived.Test.YtpgojhgfhhgomaaIvRun2
import Derived.RowKit3
namespace Go.Iv
set_option linter.unusedVariables false
set_option linter.unusedSimpArgs false
variable {P : Program} {CR : Nat → Code → IC → Prop} {g' : Gh} {H' : Hp} {W W' : World}

def Gh.start (W : World) : Gh := { m := fun b o => ce W b o, mu := fun _ => none, own := fun b o => if (ce W b o).isSome then .imm else .other }
theorem start_base (W : World) : Base CR (Gh.start W) Hp.empty W where
  mem b o v e := by
    have e : ce W b o = some v := e
    exact ⟨e, by simp [Gh.start, e]⟩
  fresh _ _ := rfl
  heap id ob e := by cases e
theorem start_noLoc (W : World) : NoLoc (Gh.start W) := fun b o => by
  show (if (ce W b o).isSome then Ow.imm else Ow.other).loc = false
  split <;> rfl
theorem ce_cells {b j : Nat} {c : Array Value} {e : TypeId} {f : Nat × Nat} (h : W.heap[b]? = some (.cells c e f)) : ce W b j = c[j]? := by
  simp [ce, World.cell?, h]
theorem ce_obj {b j : Nat} {o : Obj} (h : W.heap[b]? = some o) (ho : o.isCells = false) : ce W b j = none := by
  cases hc : ce W b j with
  | none => rfl
  | some v =>
    obtain ⟨c, e, f, h1, _⟩ := ce_isCells (w := W) (b := b) (o := j) (by rw [hc]; rfl)
    rw [h] at h1; cases h1; cases ho
theorem grown_of (hx : Ext (Gh.start W) W g' W') (hb : Base CR g' H' W') : RowKit.Grown W W' := by
  refine ⟨⟨hx.env.1, hx.env.2.1, fun i hi => ?_⟩, hx.env.2.2, hx.size⟩
  obtain ⟨o, ho⟩ : ∃ o, W.heap[i]? = some o := ⟨W.heap[i], by simp [hi]⟩
  rw [ho]
  cases hoc : o.isCells with
  | true =>
    cases o <;> try (cases hoc; done)
    rename_i c e f
    obtain ⟨c', h1, h2⟩ := hx.cells i c e f ho
    rw [h1]
    refine ⟨rfl, rfl, h2, fun j _ => ?_⟩
    cases hj : c[j]? with
    | none =>
      have : c.size ≤ j := by simpa using hj
      simp [h2, this]
    | some v =>
      have e1 : ce W i j = some v := by rw [ce_cells ho, hj]
      have e2 := (hb.mem i j v (hx.le.m i j v e1)).1
      rwa [ce_cells h1] at e2
  | false =>
    have h1 := hx.objs i o ho hoc (by simp [Gh.start, ce_obj ho hoc])
    rw [h1]
    cases o <;> first | rfl | (cases hoc; done) | exact .inr ⟨rfl, rfl⟩
theorem calls_row {call : CallF} (hc : CallOk P CR call) {k : Nat} {args : List V} {v : V} (h : call (.fn k) args Hp.empty = some (.ret v, H')) {cargs : Array Value} (hr : RepL (Gh.start W) args cargs.toList) :
    Calls P k cargs W fun e w' => RowKit.Grown W w' ∧ ∃ u g', e = .returned u ∧ Rep g' v u := by
  have := (hc.fn _ _ _ _ _ h).2 (Gh.start W) W cargs (start_base W) (start_noLoc W) hr
  refine callsIn_wide.1 (callsIn_mono this (fun e w' hp => ?_))
  obtain ⟨g', x1, x2, x3, u, rfl, x4, x5⟩ := hp
  exact ⟨grown_of x1 x2, u, g', rfl, x4⟩
end Go.Iv
