/- Single operations, eighth part: stores and loads that move ownership. No conditions. -/
import Derived.Test.YtpgojhgfhhgomaaIvOpf
namespace Go.Iv
set_option linter.unusedVariables false
set_option linter.unusedSimpArgs false
variable {P : Program} {CR : Nat → Code → IC → Prop} {N : Nat} {g g' : Gh} {lam : Nat → Option Nat} {F : Fr} {H : Hp} {a : Act} {w w' : World}

theorem storeVals {v : V} {u : Value} {n : Nat} (hr : Rep g v u) (hg : v.good n = true) (hp : ∀ sz xs, v = .list sz xs true → xs = []) :
    RepL g (stv v) u.cells.toList ∧ (stv v).all V.one = true ∧ noOwn (stv v) ∧ u.cells.size = n := by
  simp only [V.good, Bool.and_eq_true] at hg
  obtain ⟨⟨h1, h2⟩, h3⟩ := hg
  have hc := hr.cells h1
  have hn : u.cells.size = n := by have := hc.length; rw [V.fits_len h2] at this; simpa using this.symm
  cases v with
  | agg cs => exact ⟨hc.clr, all_one_clr h3, noOwn_clr cs, hn⟩
  | list sz xs o =>
    refine ⟨hc, h3, ?_, hn⟩
    intro c hc' sz' xs' e
    simp only [stv, List.mem_singleton] at hc'
    subst hc'
    exact hp _ _ e
  | _ => exact ⟨hc, h3, (by intro c hc' sz xs e; simp only [stv, List.mem_singleton] at hc'; subst hc'; cases e), hn⟩
theorem splice_one {cs cs' : List V} {o : Nat} {c : V} (h : splice cs o [c] = some cs') : o < cs.length ∧ cs' = cs.take o ++ [c] ++ cs.drop (o + 1) := by
  unfold splice at h
  split at h
  · rename_i hle; cases h; exact ⟨hle, rfl⟩
  · cases h
theorem storeHard {v : V} {u : Value} {n : Nat} (hr : Rep g v u) (hg : v.good n = true) : RepL g (v.cells.map V.hard1) u.cells.toList ∧ (v.cells.map V.hard1).all V.one = true ∧ u.cells.size = n := by
  simp only [V.good, Bool.and_eq_true] at hg
  obtain ⟨⟨h1, h2⟩, h3⟩ := hg
  have hc := hr.cells h1
  exact ⟨hc.hard1, all_one_hard1 h3, by have := hc.length; rw [V.fits_len h2] at this; simpa using this.symm⟩
theorem ofCells_ok {x : V} {n : Nat} {cs : List V} (hx : x.fits n = true) (hl : cs.length = n) (h1 : cs.all V.one = true) : (ofCells x cs).fits n = true ∧ (ofCells x cs).cells = cs := by
  have key : n = 1 → (match cs with | [v] => v | cs => V.agg cs).fits n = true ∧ (match cs with | [v] => v | cs => V.agg cs).cells = cs := by
    intro hn
    match cs, hl, h1 with
    | [c], _, h1 =>
      simp only [List.all_cons, List.all_nil, Bool.and_true] at h1
      subst hn
      cases c <;> first | exact ⟨rfl, rfl⟩ | cases h1
    | [], hl, _ => simp at hl; omega
    | _ :: _ :: _, hl, _ => simp at hl; omega
  cases x with
  | agg ds => exact ⟨by simp [ofCells, V.fits, hl], rfl⟩
  | _ => exact key (by simpa [V.fits] using hx)

/-- a box's list gets back what lies behind it -/
theorem Rel.grantBox (h : Rel CR N g lam F H a w) {t blk o sz : Nat} {cs xs : List V} (hb : F.bx t = some cs) (hl : lam t = some blk) {u : Value} (hu : ce w blk o = some u) (ho : o < cs.length)
    (hr : Rep g (.list sz xs true) u) (hs : xs ≠ [] → Spare g w (.bspare t o) sz u) : Rel CR N g lam (F.box t (some (cs.set o (.list sz xs true)))) H a w := by
  obtain ⟨blk', e1, hbox⟩ := h.box t cs hb
  rw [hl] at e1; cases e1
  refine ⟨h.base, h.sz, h.slot, h.sown, fun t' cs2 hb' => ?_, fun s t' o' e => ?_, h.dfr, h.dfrN⟩
  · by_cases ht : t' = t
    · subst ht
      simp only [Fr.box, upd, if_true, Option.some.injEq] at hb'
      subst hb'
      refine ⟨blk, hl, fun j c hj => ?_⟩
      by_cases hj' : j = o
      · subst hj'
        simp only [List.getElem?_set_self ho, Option.some.injEq] at hj
        subst hj
        obtain ⟨u', f1, f2, f3, f4, f5, f6⟩ := hbox j _ (List.getElem?_eq_getElem ho)
        rw [hu] at f1; cases f1
        exact ⟨u, hu, f2, f3, hr, rfl, fun sz' xs' e e2 => by cases e; exact hs e2⟩
      · rw [List.getElem?_set_ne (Ne.symm hj')] at hj
        exact hbox j c hj
    · simp only [Fr.box, upd, ht, if_false] at hb'
      exact h.box t' cs2 hb'
  · by_cases ht : t' = t
    · subst ht; simp [Fr.box, upd]
    · simp only [Fr.box, upd, ht, if_false]; exact h.ptr s t' o' e

def stTag (s t o : Nat) : Ow → Ow
  | .spare s' j => if s' = s ∧ j = 0 then .bspare t o else .spare s' j
  | .bspare t' j => if t' = t ∧ j = o then .gone else .bspare t' j
  | x => x
theorem stTag_fix (s t o : Nat) : FixB (stTag s t o) := ⟨rfl, fun _ => rfl, rfl, rfl, fun _ => rfl⟩
def ldTag (t o d : Nat) : Ow → Ow
  | .spare s j => if s = d then .gone else .spare s j
  | .bspare t' j => if t' = t ∧ j = o then .spare d 0 else .bspare t' j
  | x => x
theorem ldTag_fix (t o d : Nat) : FixB (ldTag t o d) := ⟨rfl, fun _ => rfl, rfl, rfl, fun _ => rfl⟩

theorem undef_put (a : Act) (d : Option Nat) : (a.put d undef) = a.put d undef := rfl
/-- the end of a store -/
theorem Sim.store {o : Oper} {d : Option Nat} {F' : Fr} {H' : Hp} {t : TypeId} {x v : Operand} {w' : World} {g' : Gh} {lam' : Nat → Option Nat} (ho : o.op = .store t x v) (hd : ∀ t, d = some t → t < N) {b off : Nat} (hx : a.eval x = .pointer (some ⟨b, off, none⟩))
    (hrun : (storeVar t ⟨b, off, none⟩ (a.eval v)).run P w = .ok () w') (h : Rel CR N g' lam' F' H' a w') (he : Ext g w g' w') : Sim P CR N o d (.tuple []) F' H' g a w := by
  refine ⟨undef, w', g', lam', .inr ⟨?_, rfl⟩, h.put d hd (v := .tuple []) (Rep.srep (.tuple .nil)) (fun _ _ => by intro j sz xs hj; simp at hj) (fun t o e => by cases e), he⟩
  simp only [execOp, ho, Instr.storeAt, Instr.sureAddr, hx, Sem.run_bind, Result.andThen, hrun, Sem.run_pure]

theorem sim_store (h : Rel CR N g lam F H a w) {o : Oper} {d : Option Nat} (hd : ∀ t, d = some t → t < N) {t : TypeId} {x v : Operand} {x' v' : Rd} {n : Nat} {tk : Bool} {bs : Bs}
    (ho : o.op = .store t x v) (ht : (P.info? t).map (·.size) = some n) (hx : rdB x x' = true) (hv : rdB v v' = true) {v0 : V} {F' : Fr} {H' : Hp} (hs : stepV (.store n x' v' tk bs) d F H = some (v0, F', H')) : Sim P CR N o d v0 F' H' g a w := by
  -- the value, and the frame without it
  have hval : ∃ w0 F1, (stepV (.store n x' v' tk bs) d F H = (if bsOk bs (x'.get F) && w0.good n then
      match x'.get F with
      | .lptr t o => (F.bx t).bind fun cs => (splice cs o (stv w0)).map fun cs' => (.tuple [], F1.box t (some cs'), H)
      | .gptr id o => match H.ob id with | some (.cells cs) => (splice cs o (w0.cells.map V.hard1)).map fun cs' => (.tuple [], F1, H.put id (some (.cells cs'))) | _ => none
      | .aptr sz id i o => match H.ob id with
        | some (.arr sz' xs) => if sz' = sz then (xs[i]?).bind fun x => (splice x.cells o (w0.cells.map V.hard1)).map fun cs' => (.tuple [], F1, H.put id (some (.arr sz (xs.set i (ofCells x cs'))))) else none
        | _ => none
      | _ => none
      else none)) ∧ SRep g lam w0 (a.eval v) ∧ Rel CR N g lam F1 H a w ∧ F1.bx = F.bx ∧
      ((∀ sz xs, w0 = .list sz xs true → xs = []) ∨ ∃ s sz xs, v = .tmp s ∧ w0 = .list sz xs true ∧ F.tm s = .list sz xs true ∧ F1 = { F with tm := upd F.tm s .junk } ∧ xs ≠ []) := by
    cases v' with
    | t s =>
      have hvs : v = .tmp s := by
        cases v <;> simp [rdB] at hv
        subst hv; rfl
      subst hvs
      cases tk with
      | true =>
        refine ⟨F.tm s, { F with tm := upd F.tm s .junk }, rfl, h.slot s, h.junk s, rfl, ?_⟩
        by_cases hp : ∀ sz xs, F.tm s = .list sz xs true → xs = []
        · exact .inl hp
        · right
          have : ∃ sz xs, F.tm s = .list sz xs true ∧ xs ≠ [] := by
            refine Classical.byContradiction fun hc => hp fun sz xs e => Classical.byContradiction fun h2 => hc ⟨sz, xs, e, h2⟩
          obtain ⟨sz, xs, e1, e2⟩ := this
          exact ⟨s, sz, xs, rfl, e1, e1, rfl, e2⟩
      | false =>
        refine ⟨(F.tm s).clr, F, rfl, (h.slot s).clr, h, rfl, .inl fun sz xs e => ?_⟩
        have := V.plain_clr (F.tm s)
        rw [e] at this
        simpa [V.plain] using this
    | c c =>
      refine ⟨c.clr, F, ?_, (rd_srep h hv).clr, h, rfl, .inl fun sz xs e => ?_⟩
      · rfl
      · have := V.plain_clr c
        rw [e] at this
        simpa [V.plain] using this
  obtain ⟨w0, F1, he, hwr, h1, hbx, hown⟩ := hval
  rw [he] at hs
  split at hs
  case isFalse => cases hs
  case isTrue hc =>
  simp only [Bool.and_eq_true] at hc
  have hg := hc.2
  have hfree : w0.free = true := by simp only [V.good, Bool.and_eq_true] at hg; exact hg.1.1
  have hw : Rep g w0 (a.eval v) := hwr.rep (free_notL hfree)
  have hsr := rd_srep h hx
  split at hs
  · -- a box of the frame's own
    rename_i t0 o0 hp
    simp only [Option.bind_eq_some_iff, Option.map_eq_some_iff, Prod.mk.injEq] at hs
    obtain ⟨cs, hb, cs', hsp, rfl, rfl, rfl⟩ := hs
    rw [hp] at hsr
    obtain ⟨blk, hlam, hxe, hbox⟩ := row_box h hsr hb
    rcases hown with hown | ⟨s, sz, xs, rfl, rfl, htm, rfl, hne⟩
    · obtain ⟨k1, k2, k3, k4⟩ := storeVals hw hg hown
      obtain ⟨r1, r2⟩ := h1.storeBox (by rw [hbx]; exact hb) hlam k1 k2 k3 hsp
      obtain ⟨q1, q2, q3, q4⟩ := splice_get hsp
      have hlen := k1.length
      refine Sim.store ho hd hxe ?_ r1 r2
      refine run_storeVar ht k4 (fun j hj => ?_) (fun j hj => ?_) (k1.oneCells k2)
      · obtain ⟨u, e1, _⟩ := hbox (o0 + j) _ (List.getElem?_eq_getElem (by simp at hlen; omega))
        rw [e1]; rfl
      · obtain ⟨u, _, e2, _⟩ := hbox (o0 + j) _ (List.getElem?_eq_getElem (by simp at hlen; omega))
        exact e2
    · -- an owned list goes into the box
      have hw' : Rep g (.list sz xs false) (a.eval (.tmp s)) := hw.flag (by simp)
      have hg' : (V.list sz xs false).good n = true := by simpa [V.good, V.free, V.fits, V.cells, V.one] using hg
      obtain ⟨k1, k2, k3, k4⟩ := storeVals hw' hg' (by simp)
      obtain ⟨q1, q2, q3, q4⟩ := splice_get hsp
      have q1 : o0 + 1 ≤ cs.length := q1
      have hsp' : splice cs o0 [V.list sz xs false] = some (cs.take o0 ++ [V.list sz xs false] ++ cs.drop (o0 + 1)) := by
        simp only [splice, List.length_singleton]; rw [if_pos q1]
      have hu1 : (a.eval (.tmp s)).cells.toList = [a.eval (.tmp s)] := by
        generalize a.eval (.tmp s) = u at hw
        cases hw <;> rfl
      obtain ⟨r1, r2⟩ := h1.storeBox hb hlam k1 k2 k3 hsp'
      have hsown := h.sown s
      rw [htm] at hsown
      have hspare : Spare g w (.spare s 0) sz (a.eval (.tmp s)) := hsown hne
      have T := tr_setCells g w blk o0 (a.eval (.tmp s)).cells.toList (fun x => x = .box t0) (fun j hj => by
        rw [hu1] at hj; simp at hj; subst hj
        obtain ⟨u, _, _, e3, _⟩ := hbox o0 _ (List.getElem?_eq_getElem (by omega))
        simpa using e3)
      have hspare2 := hspare.tr T (by simp)
      have r3 := r1.retag (stTag_fix s t0 o0) (fun t j hoj => by
          by_cases e1 : t = s
          · subst e1; simp [Fr.box, upd, owns] at hoj
          · simp [stTag, e1]) (fun t cs2 j sz2 xs2 hb2 hj2 hne2 => by
          by_cases e1 : t = t0 ∧ j = o0
          · obtain ⟨rfl, rfl⟩ := e1
            exfalso
            simp only [Fr.box, upd, if_true, Option.some.injEq] at hb2
            subst hb2
            rw [List.append_assoc, List.getElem?_append_right (by simp; omega)] at hj2
            simp [Nat.min_eq_left (by omega : j ≤ cs.length)] at hj2
          · simp [stTag, e1])
      have hce : ce (w.setCells blk o0 (a.eval (.tmp s)).cells.toList) blk o0 = some (a.eval (.tmp s)) := by
        have := ce_setCells_in w blk o0 (a.eval (.tmp s)).cells.toList (fun j hj => by
          rw [hu1] at hj; simp at hj; subst hj
          obtain ⟨u, e1, _⟩ := hbox o0 _ (List.getElem?_eq_getElem (by omega))
          simp [e1]) (j := 0) (by rw [hu1]; simp)
        simpa [hu1] using this
      have r4 := r3.grantBox (t := t0) (blk := blk) (o := o0) (cs := cs.take o0 ++ [V.list sz xs false] ++ cs.drop (o0 + 1)) (by simp [Fr.box, upd]) hlam hce (by simp; omega) (hw.mono (g.retag_le _)) (fun _ => hspare2.retag (by simp [stTag]))
      refine Sim.store ho hd hxe ?_ (g' := g.retag (stTag s t0 o0)) (lam' := lam) (w' := w.setCells blk o0 (a.eval (.tmp s)).cells.toList) ?_ (r2.trans (Ext.retag _ _ (stTag_fix s t0 o0)))
      · refine run_storeVar ht k4 (fun j hj => ?_) (fun j hj => ?_) (k1.oneCells k2)
        · have hn1 : n = 1 := by rw [← k4]; have := congrArg List.length hu1; simpa using this
          obtain rfl : j = 0 := by omega
          obtain ⟨u, e1, _⟩ := hbox o0 _ (List.getElem?_eq_getElem (by omega))
          simp [e1]
        · have hn1 : n = 1 := by rw [← k4]; have := congrArg List.length hu1; simpa using this
          obtain rfl : j = 0 := by omega
          obtain ⟨u, _, e2, _⟩ := hbox o0 _ (List.getElem?_eq_getElem (by omega))
          simpa using e2
      · have hcs : (cs.take o0 ++ [V.list sz xs false] ++ cs.drop (o0 + 1)).set o0 (V.list sz xs true) = cs' := by
          obtain ⟨_, rfl⟩ := splice_one (c := V.list sz xs true) hsp
          rw [List.append_assoc, List.set_append_right _ _ (by simp; omega)]
          simp [Nat.min_eq_left (by omega : o0 ≤ cs.length)]
        have hFF : ((({ F with tm := upd F.tm s .junk } : Fr).box t0 (some (cs.take o0 ++ [V.list sz xs false] ++ cs.drop (o0 + 1)))).box t0 (some ((cs.take o0 ++ [V.list sz xs false] ++ cs.drop (o0 + 1)).set o0 (V.list sz xs true)))) = (({ F with tm := upd F.tm s .junk } : Fr).box t0 (some cs')) := by
          rw [hcs]
          simp only [Fr.box, Fr.mk.injEq, true_and]
          funext j
          simp only [upd]
          split <;> rfl
        rw [← hFF]; exact r4
  · rename_i id o0 hp
    rw [hp] at hsr
    split at hs
    · rename_i cs hb
      simp only [Option.map_eq_some_iff, Prod.mk.injEq] at hs
      obtain ⟨cs', hsp, rfl, rfl, rfl⟩ := hs
      obtain ⟨b, base, cap, hmu, hxe, hok⟩ := row_gptr h hsr hb
      obtain ⟨k1, k2, k3⟩ := storeHard hw hg
      obtain ⟨q1, q2, q3, q4⟩ := splice_get hsp
      have hlen := k1.length
      obtain ⟨r1, r2⟩ := h1.storeOb (o := o0) hmu (fun j hj => by
        obtain ⟨u, _, _, e3, _⟩ := hok (o0 + j) _ (List.getElem?_eq_getElem (by omega))
        rw [Nat.add_assoc]; exact e3) (.cells cs') (hok.storeCells k1 k2 hsp)
      refine Sim.store ho hd hxe ?_ r1 r2
      refine run_storeVar ht k3 (fun j hj => ?_) (fun j hj => ?_) (k1.oneCells k2)
      · obtain ⟨u, e1, _⟩ := hok (o0 + j) _ (List.getElem?_eq_getElem (by simp at hlen q1; omega))
        rw [Nat.add_assoc, e1]; rfl
      · obtain ⟨u, _, e2, _⟩ := hok (o0 + j) _ (List.getElem?_eq_getElem (by simp at hlen q1; omega))
        rw [Nat.add_assoc]; exact e2
    · cases hs
  · rename_i sz id i o0 hp
    rw [hp] at hsr
    split at hs
    · rename_i sz' xs hb
      split at hs
      · rename_i e; subst e
        simp only [Option.bind_eq_some_iff, Option.map_eq_some_iff, Prod.mk.injEq] at hs
        obtain ⟨x0, hx0, cs', hsp, rfl, rfl, rfl⟩ := hs
        obtain ⟨b, base, cap, hmu, hxe, hok⟩ := row_aptr h hsr hb
        obtain ⟨k1, k2, k3⟩ := storeHard hw hg
        obtain ⟨q1, q2, q3, q4⟩ := splice_get hsp
        have hlen := k1.length
        obtain ⟨hcap, hel, hcells⟩ := hok
        obtain ⟨hfit, hx0c⟩ := hel i x0 hx0
        have hx0l := V.fits_len hfit
        have hilt : i < xs.length := (List.getElem?_eq_some_iff.1 hx0).1
        have hin : ∀ j, j < (a.eval v).cells.toList.length → i * sz' + o0 + j < cap * sz' := fun j hj => by
          have : (i + 1) * sz' ≤ cap * sz' := Nat.mul_le_mul_right _ (by omega)
          rw [Nat.succ_mul] at this; omega
        have haddr : ∀ j, base + (i * sz' + o0) + j = base + (i * sz' + o0 + j) := fun j => by omega
        have hce : ∀ j, j < (a.eval v).cells.toList.length → (ce w b (base + (i * sz' + o0) + j)).isSome = true := fun j hj => by rw [haddr]; exact (hcells _ (hin j hj)).1
        have hcsl : cs'.length = sz' := by omega
        have hone' : cs'.all V.one = true := by
          refine List.all_eq_true.2 fun c hc => ?_
          obtain ⟨j, hj⟩ := List.mem_iff_getElem?.1 hc
          by_cases hin : o0 ≤ j ∧ j < o0 + (w0.cells.map V.hard1).length
          · obtain ⟨i', rfl⟩ : ∃ i', j = o0 + i' := ⟨j - o0, by omega⟩
            rw [q3 i' (by omega)] at hj
            exact List.all_eq_true.1 k2 c (List.mem_of_getElem? hj)
          · rw [q4 j (by omega)] at hj
            obtain ⟨_, _, _, e3⟩ := hx0c j c hj
            exact e3
        have hcc := ofCells_ok hfit hcsl hone'
        have hnew : ObOk CR g (w.setCells b (base + (i * sz' + o0)) (a.eval v).cells.toList) id b base cap (.arr sz' (xs.set i (ofCells x0 cs'))) := by
          refine ⟨by simpa using hcap, fun i' y hy => ?_, fun k hk => ?_⟩
          · by_cases hi : i' = i
            · subst hi
              rw [List.getElem?_set_self hilt] at hy
              cases hy
              refine ⟨hcc.1, fun j c hj => ?_⟩
              rw [hcc.2] at hj
              by_cases hjn : o0 ≤ j ∧ j < o0 + (w0.cells.map V.hard1).length
              · obtain ⟨k, rfl⟩ : ∃ k, j = o0 + k := ⟨j - o0, by omega⟩
                rw [q3 k (by omega)] at hj
                obtain ⟨z, e1, e2⟩ := k1.get k c hj
                have hlt : k < (a.eval v).cells.toList.length := by omega
                refine ⟨z, ?_, e2, List.all_eq_true.1 k2 c (List.mem_of_getElem? hj)⟩
                rw [show base + i' * sz' + (o0 + k) = base + (i' * sz' + o0) + k by omega, ce_setCells_in w b _ _ hce hlt, ← e1, List.getElem?_eq_getElem hlt]
              · rw [q4 j (by omega)] at hj
                obtain ⟨z, e1, e2, e3⟩ := hx0c j c hj
                exact ⟨z, by rw [ce_setCells_out w b _ _ (fun _ => by omega)]; exact e1, e2, e3⟩
            · rw [List.getElem?_set_ne (Ne.symm hi)] at hy
              obtain ⟨f1, f2⟩ := hel i' y hy
              refine ⟨f1, fun j c hj => ?_⟩
              obtain ⟨z, e1, e2, e3⟩ := f2 j c hj
              refine ⟨z, ?_, e2, e3⟩
              have hjl : j < sz' := by rw [← V.fits_len f1]; exact (List.getElem?_eq_some_iff.1 hj).1
              rw [ce_setCells_out w b _ _ (fun _ => ?_)]
              · exact e1
              · rcases Nat.lt_or_ge i' i with hlt | hge
                · left
                  have : (i' + 1) * sz' ≤ i * sz' := Nat.mul_le_mul_right _ (by omega)
                  rw [Nat.succ_mul] at this; omega
                · right
                  have : (i + 1) * sz' ≤ i' * sz' := Nat.mul_le_mul_right _ (by omega)
                  rw [Nat.succ_mul] at this; omega
          · obtain ⟨e1, e2, e3⟩ := hcells k hk
            refine ⟨?_, by rw [fz_setCells]; exact e2, e3⟩
            by_cases hkin : i * sz' + o0 ≤ k ∧ k < i * sz' + o0 + (a.eval v).cells.toList.length
            · obtain ⟨j, rfl⟩ : ∃ j, k = i * sz' + o0 + j := ⟨k - (i * sz' + o0), by omega⟩
              rw [← haddr, ce_setCells_in w b _ _ hce (by omega)]; rfl
            · rw [ce_setCells_out w b _ _ (fun _ => by omega)]; exact e1
        obtain ⟨r1, r2⟩ := h1.storeOb (o := i * sz' + o0) hmu (fun j hj => by rw [haddr]; exact (hcells _ (hin j hj)).2.2) _ hnew
        refine Sim.store ho hd hxe ?_ (by simpa [Nat.add_assoc] using r1) (by simpa [Nat.add_assoc] using r2)
        have := run_storeVar (P := P) (w := w) (b := b) (o := base + (i * sz' + o0)) ht k3 (fun j hj => hce j (by simp; omega)) (fun j hj => by rw [haddr]; exact (hcells _ (hin j (by simp; omega))).2.1) (k1.oneCells k2)
        simpa [Nat.add_assoc] using this
      · cases hs
    · cases hs
  · cases hs
end Go.Iv
