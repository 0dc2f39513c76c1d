/- Single operations: what the text's operation and ours must share, and that ours says what the text's does: reads, arithmetic, places. No conditions. -/
import Derived.Test.YtpgojhgfhhgomaaIvTr
import Derived.Laws.Append
import Derived.Laws.Cells
namespace Go.Iv
set_option linter.unusedVariables false
set_option linter.unusedSimpArgs false
variable {P : Program} {CR : Nat → Code → IC → Prop} {N : Nat} {g g' : Gh} {lam : Nat → Option Nat} {F : Fr} {H : Hp} {a : Act} {w w' : World}

def scB : Value → V → Bool
  | .bool x, .b y => x == y
  | .int k n, .i k' n' => decide (k = k') && decide (n = n')
  | .string x, .s y => decide (x = y)
  | .slice none l c, .list _ xs _ => l == 0 && c == 0 && xs.isEmpty
  | .pointer none, .nilp => true
  | .nilFunc, .nilf => true
  | .nilIface, .nili => true
  | _, _ => false
def scsB : List Value → List V → Bool
  | [], [] => true
  | u :: us, c :: cs => scB u c && scsB us cs
  | _, _ => false
def cstB (u : Value) (v : V) : Bool :=
  match u, v with
  | .agg us, .agg cs => scsB us.toList cs
  | u, v => scB u v
def rdB : Operand → Rd → Bool
  | .tmp n, .t n' => n == n'
  | .const u, .c v => cstB u v
  | .func f, .c (.fn (.func f') [] []) => f == f'
  | _, _ => false
def rdsB : List Operand → List Rd → Bool
  | [], [] => true
  | x :: xs, y :: ys => rdB x y && rdsB xs ys
  | _, _ => false

theorem scB_rep {u : Value} {v : V} (h : scB u v = true) : Rep g v u := by
  unfold scB at h
  split at h <;> simp at h
  · subst h; exact .b _
  · obtain ⟨rfl, rfl⟩ := h; exact .i _ _
  · subst h; exact .s _
  · obtain ⟨⟨rfl, rfl⟩, rfl⟩ := h; exact .nil _ _
  · exact .nilp
  · exact .nilf
  · exact .nili
theorem scsB_rep : ∀ {us : List Value} {cs : List V}, scsB us cs = true → RepL g cs us
  | [], [], _ => .nil
  | u :: us, c :: cs, h => by simp [scsB] at h; exact .cons (scB_rep h.1) (scsB_rep h.2)
theorem scB_own {t : Nat} {u : Value} {v : V} (h : scB u v = true) : SOwn g w t v u := by
  unfold scB at h
  split at h <;> try trivial
  simp only [SOwn]
  split
  · rename_i e; cases e; simp at h; exact fun e => absurd h.2 e
  · rename_i e; cases e
  · trivial
theorem cstB_rep {u : Value} {v : V} (h : cstB u v = true) : Rep g v u := by
  unfold cstB at h
  split at h
  · exact .agg (scsB_rep h)
  · exact scB_rep h
theorem cstB_own {t : Nat} {u : Value} {v : V} (h : cstB u v = true) : SOwn g w t v u := by
  unfold cstB at h
  split at h
  · trivial
  · exact scB_own h

theorem Rep.srep {v : V} {u : Value} (h : Rep g v u) : SRep g lam v u := by
  cases h <;> simp only [SRep] <;> constructor <;> assumption
theorem Rep.notL {v : V} {u : Value} (h : Rep g v u) : ∀ t o, v ≠ .lptr t o := by
  intro t o e; subst e; cases h
theorem SRep.rep {v : V} {u : Value} (h : SRep g lam v u) (hv : ∀ t o, v ≠ .lptr t o) : Rep g v u := by
  cases v <;> first | exact h | exact absurd rfl (hv _ _)
theorem rd_srep (h : Rel CR N g lam F H a w) {x : Operand} {y : Rd} (hr : rdB x y = true) : SRep g lam (y.get F) (a.eval x) := by
  unfold rdB at hr
  split at hr
  · simp at hr; subst hr; exact h.slot _
  · exact (cstB_rep hr).srep
  · simp at hr; subst hr; exact .fn .nil .nil
  · cases hr
theorem rd_rep (h : Rel CR N g lam F H a w) {x : Operand} {y : Rd} (hr : rdB x y = true) {v : V} (hv : y.get F = v) (hn : ∀ t o, v ≠ .lptr t o) : Rep g v (a.eval x) := by
  subst hv; exact (rd_srep h hr).rep hn
theorem free_notL {v : V} (h : v.free = true) : ∀ t o, v ≠ .lptr t o := by intro t o e; subst e; simp [V.free] at h
theorem clr_lptr {v : V} {t o : Nat} (h : v.clr = .lptr t o) : v = .lptr t o := by cases v <;> simp [V.clr] at h <;> simp [h]
theorem val_rep (h : Rel CR N g lam F H a w) {x : Operand} {y : Rd} (hr : rdB x y = true) (hf : (y.val F).free = true) : Rep g (y.val F) (a.eval x) := by
  have := rd_srep h hr
  have hn : ∀ t o, y.get F ≠ .lptr t o := fun t o e => by simp [Rd.val, e, V.clr, V.free] at hf
  exact (this.rep hn).clr
theorem free_hard {v : V} (h : v.hard.free = true) : v.free = true := by cases v <;> simp_all [V.hard, V.free]
theorem out_rep (h : Rel CR N g lam F H a w) {x : Operand} {y : Rd} (hr : rdB x y = true) (hf : (y.out F).free = true) : Rep g (y.out F) (a.eval x) :=
  (val_rep h hr (free_hard hf)).hard
theorem Rep.cells {v : V} {u : Value} (h : Rep g v u) (hj : v.free = true) : RepL g v.cells u.cells.toList := by
  cases h <;> first | (simp [V.free] at hj; done) | (simp only [V.cells, Value.cells]; first | assumption | exact .cons (by constructor <;> assumption) .nil)

/-- the result of an operation that only computes -/
def Sim (P : Program) (CR : Nat → Code → IC → Prop) (N : Nat) (o : Oper) (d : Option Nat) (v : V) (F' : Fr) (H' : Hp) (g : Gh) (a : Act) (w : World) : Prop :=
  ∃ u w' g' lam', ((execOp a.eval o).run P w = .ok (.value u) w' ∨ ((execOp a.eval o).run P w = .ok .skip w' ∧ u = undef)) ∧
    Rel CR N g' lam' (F'.put d v) H' (a.put d u) w' ∧ Ext g w g' w'
theorem Sim.pure (h : Rel CR N g lam F H a w) {o : Oper} {d : Option Nat} (hd : ∀ t, d = some t → t < N) {v : V} {u : Value}
    (hrun : (execOp a.eval o).run P w = .ok (.value u) w) (hv : Rep g v u) (ho : ∀ t, SOwn g w t v u) : Sim P CR N o d v F H g a w :=
  ⟨u, w, g, lam, .inl hrun, h.put d hd hv.srep (fun t _ => ho t) (fun t o e => absurd e (hv.notL t o)), .refl g w⟩

/-- a row of cells in the world -/
def Row (g : Gh) (w : World) (cs : List V) (b o : Nat) : Prop := ∀ j c, cs[j]? = some c → ∃ u, ce w b (o + j) = some u ∧ Rep g c u ∧ c.one = true
theorem RepM.row (h : Base CR g H w) {cs : List V} {b o : Nat} (hm : RepM g cs b o) : Row g w cs b o := fun j c hj => by
  obtain ⟨x, h1, h2⟩ := hm.get j c hj
  exact ⟨x, (h.mem _ _ _ h1).1, h2⟩
theorem addr_add (b o n : Nat) : (⟨b, o, none⟩ : Addr).add n = ⟨b, o + n, none⟩ := by unfold Addr.add; split <;> simp_all
/-- the values of a row -/
theorem Row.vals {cs : List V} {b o : Nat} (h : Row g w cs b o) : ∃ us : List Value, RepL g cs us ∧ ∀ j u, us[j]? = some u → w.cell? ⟨b, o + j, none⟩ = some u := by
  induction cs generalizing o with
  | nil => exact ⟨[], .nil, fun j u hj => by simp at hj⟩
  | cons c cs ih =>
    obtain ⟨u0, h0, r0⟩ := h 0 c rfl
    obtain ⟨us, h1, h2⟩ := ih (o := o + 1) (fun j c' hj => by
      obtain ⟨u, k1, k2⟩ := h (j + 1) c' (by simpa using hj)
      exact ⟨u, by rw [← k1]; congr 1; omega, k2⟩)
    refine ⟨u0 :: us, .cons r0.1 h1, fun j u hj => ?_⟩
    cases j with
    | zero => simp at hj; subst hj; exact h0
    | succ j =>
      have := h2 j u (by simpa using hj)
      rw [← this]; congr 2; omega
theorem Row.drop {cs : List V} {b o : Nat} (h : Row g w cs b o) (n : Nat) : Row g w (cs.drop n) b (o + n) := fun j c hj => by
  rw [List.getElem?_drop] at hj
  obtain ⟨u, h1, h2⟩ := h (n + j) c hj
  exact ⟨u, by rw [← h1]; congr 1; omega, h2⟩
theorem Row.take {cs : List V} {b o : Nat} (h : Row g w cs b o) (n : Nat) : Row g w (cs.take n) b o := fun j c hj => by
  rw [List.getElem?_take] at hj
  split at hj
  · exact h j c hj
  · cases hj

def aggOf (P : Program) (t : TypeId) : Option (Option Nat) :=
  match P.underlying t with
  | some (.struct _) | some (.array _ _) => (P.info? t).map fun i => some i.size
  | some _ => some none
  | none => none
theorem aggOf_none {t : TypeId} (h : aggOf P t = some none) : ∃ d, P.underlying t = some d ∧ (∀ fs, d ≠ .struct fs) ∧ (∀ n e, d ≠ .array n e) := by
  unfold aggOf at h
  cases hd : P.underlying t with
  | none => simp [hd] at h
  | some d => exact ⟨d, rfl, fun fs e => by subst e; simp [hd] at h, fun n e' e => by subst e; simp [hd] at h⟩
theorem aggOf_some {t : TypeId} {n : Nat} (h : aggOf P t = some (some n)) : ∃ d i, P.underlying t = some d ∧ P.info? t = some i ∧ i.size = n ∧ ((∃ fs, d = .struct fs) ∨ ∃ m e, d = .array m e) := by
  unfold aggOf at h
  cases hd : P.underlying t with
  | none => simp [hd] at h
  | some d =>
    cases hi : P.info? t with
    | none => cases d <;> simp [hd, hi] at h
    | some i =>
      cases d <;> simp [hd, hi] at h
      · exact ⟨_, i, rfl, rfl, h, .inr ⟨_, _, rfl⟩⟩
      · exact ⟨_, i, rfl, rfl, h, .inl ⟨_, rfl⟩⟩
theorem run_isAgg {t : TypeId} {d : TypeDesc} (h : P.underlying t = some d) (w : World) : (isAgg t).run P w = .ok (match d with | .struct _ | .array _ _ => true | _ => false) w := by
  cases d <;> simp [isAgg, Sem.run_bind, run_underlying h]
theorem run_loadVar_cell {t : TypeId} (h : aggOf P t = some none) {ad : Addr} {u : Value} (hc : w.cell? ad = some u) : (loadVar t ad).run P w = .ok u w := by
  obtain ⟨d, h1, h2, h3⟩ := aggOf_none h
  have : (isAgg t).run P w = .ok false w := by
    rw [run_isAgg h1]; cases d <;> first | rfl | exact absurd rfl (h2 _) | exact absurd rfl (h3 _ _)
  simp [loadVar, Sem.run_bind, this, hc]
theorem run_loadVar_agg {t : TypeId} {n : Nat} (h : aggOf P t = some (some n)) {b o : Nat} {us : List Value} (hl : us.length = n) (hc : ∀ j u, us[j]? = some u → w.cell? ⟨b, o + j, none⟩ = some u) :
    (loadVar t ⟨b, o, none⟩).run P w = .ok (.agg us.toArray) w := by
  obtain ⟨d, i, h1, h2, h3, h4⟩ := aggOf_some h
  have : (isAgg t).run P w = .ok true w := by
    rw [run_isAgg h1]; rcases h4 with ⟨fs, rfl⟩ | ⟨m, e, rfl⟩ <;> rfl
  have hr := run_loadCells_list (P := P) w ⟨b, o, none⟩ us (fun j v e => by rw [addr_add]; exact hc j v e)
  subst hl
  simp [loadVar, Sem.run_bind, this, sizeOf, typeInfo, h2, h3, hr]
theorem part_load {t : TypeId} {ag : Option Nat} (ht : aggOf P t = some ag) {cs : List V} {b base o : Nat} (hr : Row g w cs b base) {v : V} (hp : part cs o ag = some v) :
    ∃ u, (loadVar t ⟨b, base + o, none⟩).run P w = .ok u w ∧ Rep g v u ∧ v.plain = true := by
  cases ag with
  | none =>
    simp only [part, Option.map_eq_some_iff] at hp
    obtain ⟨c, hc, rfl⟩ := hp
    obtain ⟨u, h1, h2⟩ := hr o c hc
    exact ⟨u, run_loadVar_cell ht h1, h2.1.clr, V.plain_clr c⟩
  | some n =>
    simp only [part] at hp
    split at hp
    · rename_i hle
      cases hp
      obtain ⟨us, h1, h2⟩ := ((hr.drop o).take n).vals
      have hlen : us.length = n := by rw [← h1.length]; simp; omega
      refine ⟨_, run_loadVar_agg ht hlen h2, .agg (by simpa using h1.clr), rfl⟩
    · cases hp

/-- where an address that is not a frame's own leads -/
theorem row_cptr (h : Rel CR N g lam F H a w) {cs : List V} {u : Value} (hr : Rep g (.cptr cs) u) : ∃ b o, u = .pointer (some ⟨b, o, none⟩) ∧ Row g w cs b o := by
  cases hr with
  | cptr hs hm =>
    rename_i ad
    obtain ⟨b, o, s⟩ := ad
    simp only at hs
    subst hs
    exact ⟨b, o, rfl, hm.row h.base⟩
theorem row_box (h : Rel CR N g lam F H a w) {t o : Nat} {u : Value} {cs : List V} (hr : SRep g lam (.lptr t o) u) (hb : F.bx t = some cs) : ∃ b, lam t = some b ∧ u = .pointer (some ⟨b, o, none⟩) ∧ BoxOk g w t b cs := by
  obtain ⟨blk, h1, h2⟩ := hr
  obtain ⟨blk', h3, h4⟩ := h.box t cs hb
  rw [h1] at h3; cases h3
  exact ⟨blk, h1, h2, h4⟩
theorem BoxOk.row {t b : Nat} {cs : List V} (h : BoxOk g w t b cs) : Row g w cs b 0 := fun j c hj => by
  obtain ⟨u, h1, h2, h3, h4, hone, h5⟩ := h j c hj
  exact ⟨u, by simpa using h1, h4, hone⟩
theorem row_gptr (h : Rel CR N g lam F H a w) {id o : Nat} {u : Value} {cs : List V} (hr : Rep g (.gptr id o) u) (hb : H.ob id = some (.cells cs)) :
    ∃ b base cap, g.mu id = some (b, base, cap) ∧ u = .pointer (some ⟨b, base + o, none⟩) ∧ ObOk CR g w id b base cap (.cells cs) := by
  cases hr with
  | gptr hm =>
    obtain ⟨b, base, cap, h1, h2⟩ := h.base.heap id _ hb
    rw [h1] at hm; cases hm
    exact ⟨_, _, _, h1, rfl, h2⟩
theorem ObOk.row {id b base cap : Nat} {cs : List V} (h : ObOk CR g w id b base cap (.cells cs)) : Row g w cs b base := fun j c hj => by
  obtain ⟨u, h1, h2, h3, h4⟩ := h j c hj
  exact ⟨u, h1, h4⟩
theorem row_aptr (h : Rel CR N g lam F H a w) {sz id i o : Nat} {u : Value} {xs : List V} (hr : Rep g (.aptr sz id i o) u) (hb : H.ob id = some (.arr sz xs)) :
    ∃ b base cap, g.mu id = some (b, base, cap) ∧ u = .pointer (some ⟨b, base + i * sz + o, none⟩) ∧ ObOk CR g w id b base cap (.arr sz xs) := by
  cases hr with
  | aptr hm =>
    obtain ⟨b, base, cap, h1, h2⟩ := h.base.heap id _ hb
    rw [h1] at hm; cases hm
    exact ⟨_, _, _, h1, rfl, h2⟩
theorem ObOk.rowA {id b base cap sz : Nat} {xs : List V} (h : ObOk CR g w id b base cap (.arr sz xs)) {i : Nat} {x : V} (hx : xs[i]? = some x) : Row g w x.cells b (base + i * sz) :=
  fun j c hj => (h.2.1 i x hx).2 j c hj

/-- reading -/
theorem sim_load (h : Rel CR N g lam F H a w) {o : Oper} {d : Option Nat} (hd : ∀ t, d = some t → t < N) {t : TypeId} {x : Operand} {y : Rd} {ag : Option Nat} {bs : Bs}
    (ho : o.op = .load t x) (ht : aggOf P t = some ag) (hr : rdB x y = true) {v : V} {F' : Fr} {H' : Hp} (hs : stepV (.load ag y false bs) d F H = some (v, F', H')) : Sim P CR N o d v F' H' g a w := by
  have hsr := rd_srep h hr
  simp only [stepV] at hs
  split at hs
  case isFalse => cases hs
  case isTrue hbs =>
  have key : ∀ {b base off : Nat} {cs : List V}, Row g w cs b base → a.eval x = .pointer (some ⟨b, base + off, none⟩) → ∀ {v' : V}, part cs off ag = some v' → Sim P CR N o d v' F H g a w := by
    intro b base off cs hrow he v' hp
    obtain ⟨u, h1, h2, h3⟩ := part_load ht hrow hp
    exact Sim.pure h hd (by simp [execOp, ho, Instr.loadAt, Instr.sureAddr, he, h1]) h2 (fun t => SOwn.plain h3)
  split at hs
  · rename_i cs hg
    simp only [Option.map_eq_some_iff, Prod.mk.injEq] at hs
    obtain ⟨v', hp, rfl, rfl, rfl⟩ := hs
    rw [hg] at hsr
    obtain ⟨b, off, he, hrow⟩ := row_cptr h hsr
    exact key hrow (off := 0) (by simpa using he) hp
  · rename_i t' off hg
    simp only [Option.bind_eq_some_iff] at hs
    obtain ⟨cs, hb, hs⟩ := hs
    rw [hg] at hsr
    obtain ⟨b, _, he, hbox⟩ := row_box h hsr hb
    simp only [Option.map_eq_some_iff, Prod.mk.injEq] at hs
    obtain ⟨v', hp, rfl, rfl, rfl⟩ := hs
    exact key hbox.row (base := 0) (by simpa using he) hp
  · rename_i id off hg
    rw [hg] at hsr
    split at hs
    · rename_i cs hb
      simp only [Option.map_eq_some_iff, Prod.mk.injEq] at hs
      obtain ⟨v', hp, rfl, rfl, rfl⟩ := hs
      obtain ⟨b, base, cap, _, he, hok⟩ := row_gptr h hsr hb
      exact key hok.row he hp
    · cases hs
  · rename_i sz id i off hg
    rw [hg] at hsr
    split at hs
    · rename_i sz' xs hb
      split at hs
      · rename_i e; subst e
        simp only [Option.bind_eq_some_iff, Option.map_eq_some_iff, Prod.mk.injEq] at hs
        obtain ⟨x', hx, v', hp, rfl, rfl, rfl⟩ := hs
        obtain ⟨b, base, cap, _, he, hok⟩ := row_aptr h hsr hb
        exact key (hok.rowA hx) he hp
      · cases hs
    · cases hs
  · cases hs
end Go.Iv
