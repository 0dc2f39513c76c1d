/- Single operations, seventh part: function values (what they capture is frozen), stores, moves out of boxes. No conditions. -/
import Derived.Test.YtpgojhgfhhgomaaIvOpe
namespace Go.Iv
set_option linter.unusedVariables false
set_option linter.unusedSimpArgs false
variable {P : Program} {CR : Nat → Code → IC → Prop} {N : Nat} {g g' : Gh} {lam : Nat → Option Nat} {F : Fr} {H : Hp} {a : Act} {w w' : World}

/-- the cells of a block become immutable -/
def Gh.froze (g : Gh) (w : World) (b n : Nat) : Gh :=
  { g with m := fun b' o => if b' = b ∧ o < n then ce w b' o else g.m b' o, own := fun b' o => if b' = b ∧ o < n then .imm else g.own b' o }
theorem Rel.frz (h : Rel CR N g lam F H a w) {t : Nat} {cs : List V} (hb : F.bx t = some cs) (hl : ∃ o, F.tm t = .lptr t o ∧ o = 0) :
    ∃ g', Rel CR N g' lam (Iv.frz F t cs) H a w ∧ Ext g w g' w ∧ ∀ u, SRep g lam (.lptr t 0) u → Rep g' (.cptr (cs.map V.hard1)) u := by
  obtain ⟨o, hl, rfl⟩ := hl
  obtain ⟨blk, hlam, hbox⟩ := h.box t cs hb
  have hown : ∀ j, j < cs.length → g.own blk j = .box t := fun j hj => by
    obtain ⟨u, _, _, k3, _⟩ := hbox j _ (List.getElem?_eq_getElem hj)
    exact k3
  have hle : g.le (g.froze w blk cs.length) := ⟨fun b o v e => by
    simp only [Gh.froze]
    split
    · rename_i hc
      obtain ⟨rfl, hlt⟩ := hc
      have := (h.base.mem _ _ _ e).2
      rw [hown o hlt] at this; cases this
    · exact e, fun _ _ e => e⟩
  have T : Tr (fun x => x ≠ .box t) g w (g.froze w blk cs.length) w :=
    ⟨hle, fun b o hlv _ => by
      refine ⟨?_, rfl, rfl⟩
      simp only [Gh.froze]
      split
      · rename_i hc
        obtain ⟨rfl, hlt⟩ := hc
        exact absurd (hown o hlt) hlv
      · rfl, fun b ob e hn hlv => by
      refine ⟨e, ?_⟩
      simp only [Gh.froze]
      split
      · rename_i hc
        obtain ⟨rfl, hlt⟩ := hc
        exact absurd (hown 0 hlt) hlv
      · rfl⟩
  have hmem : ∀ b o v, (g.froze w blk cs.length).m b o = some v → ce w b o = some v ∧ (g.froze w blk cs.length).own b o = .imm := fun b o v e => by
    simp only [Gh.froze] at e ⊢
    split at e
    · rename_i hc; exact ⟨e, by simp [hc]⟩
    · rename_i hc; rw [if_neg hc]; exact h.base.mem b o v e
  have hM : RepM (g.froze w blk cs.length) cs blk 0 := by
    obtain ⟨us, k1, k2⟩ := (hbox.row).vals
    refine RepM.fresh hle 0 k1 (List.all_eq_true.2 fun c hc => ?_) (fun j u hj => ?_)
    · obtain ⟨j, hj⟩ := List.mem_iff_getElem?.1 hc
      obtain ⟨u, _, _, _, _, k5, _⟩ := hbox j c hj
      exact k5
    · have hlt : j < cs.length := by rw [k1.length]; exact (List.getElem?_eq_some_iff.1 hj).1
      have := k2 j u hj
      simp only [Nat.zero_add] at this ⊢
      simp [Gh.froze, hlt, ce, this]
  have hc : ∀ u, SRep g lam (.lptr t 0) u → Rep (g.froze w blk cs.length) (.cptr (cs.map V.hard1)) u := fun u hu => by
    obtain ⟨blk', e1, rfl⟩ := hu
    rw [hlam] at e1; cases e1
    exact .cptr rfl hM.hard1
  refine ⟨_, ?_, ⟨hle, Nat.le_refl _, fun b o hb' ho => ⟨?_, rfl⟩, fun b c e f hc => ⟨c, hc, rfl⟩, fun b ob hb' _ _ => hb', fun b r hb' => ⟨r, hb'⟩, ⟨rfl, rfl, fun _ => rfl⟩⟩, hc⟩
  · refine ⟨h.base.tr T hmem h.base.fresh (fun id ob e => .inl ⟨e, by simp⟩), h.sz, fun s => ?_, fun s => ?_, fun t' cs' hb' => ?_, fun s t' o' e => ?_, fun d e => ?_, h.dfrN⟩
    · simp only [Iv.frz, upd]
      split
      · rename_i e; subst e
        have := h.slot s
        rw [hl] at this
        exact (hc _ this).srep
      · have hs := (h.slot s).tr (g' := g.froze w blk cs.length) hle
        split
        · rename_i t' o' e
          rw [e] at hs
          split
          · exact Rep.junk _
          · exact hs
        · exact hs
    · simp only [Iv.frz, upd]
      split
      · trivial
      · have hs := (h.sown s).tr T (fun _ _ => by simp)
        split
        · split <;> trivial
        · exact hs
    · simp only [Iv.frz, upd] at hb'
      split at hb'
      · cases hb'
      · rename_i hne
        obtain ⟨blk', k1, k2⟩ := h.box t' cs' hb'
        exact ⟨blk', k1, k2.tr T (by simp [hne]) (fun _ => by simp)⟩
    · simp only [Iv.frz, upd] at e ⊢
      split at e
      · cases e
      · split at e
        · rename_i t2 o2 e2
          split at e
          · cases e
          · rename_i hne; cases e; rw [if_neg hne]; exact h.ptr s t' o' e2
        · rename_i hn; exact absurd e (by intro e'; exact hn _ _ e')
    · obtain ⟨r, e1, e2, e3⟩ := h.dfr d e
      obtain ⟨t1, t2⟩ := T.objs r _ e2 rfl (by rw [e3]; simp)
      exact ⟨r, e1, t1, t2.trans e3⟩
  · simp only [Gh.froze]
    split
    · rename_i hc
      obtain ⟨rfl, hlt⟩ := hc
      rw [hown o hlt] at ho; cases ho
    · exact ho

theorem rdsB_len : ∀ {xs : List Operand} {ys : List Rd}, rdsB xs ys = true → xs.length = ys.length
  | [], [], _ => rfl
  | _ :: _, _ :: _, h => by simp [rdsB] at h; simp [rdsB_len h.2]
  | [], _ :: _, h => by simp [rdsB] at h
  | _ :: _, [], h => by simp [rdsB] at h
theorem args_rep (h : Rel CR N g lam F H a w) : ∀ {xs : List Operand} {ys : List Rd} {vs : List V}, rdsB xs ys = true → argsV F ys = some vs → RepL g vs (xs.map a.eval) ∧ ∀ v ∈ vs, v.free = true ∧ v.plain = true
  | [], [], vs, _, hv => by simp only [argsV, Option.some.injEq] at hv; subst hv; exact ⟨.nil, by simp⟩
  | x :: xs, y :: ys, vs, hr, hv => by
    simp only [rdsB, Bool.and_eq_true] at hr
    simp only [argsV] at hv
    split at hv
    · rename_i hf
      simp only [Option.map_eq_some_iff] at hv
      obtain ⟨vs', hv, rfl⟩ := hv
      obtain ⟨h1, h2⟩ := args_rep h hr.2 hv
      refine ⟨.cons (out_rep h hr.1 hf) h1, fun v hm => ?_⟩
      rcases List.mem_cons.1 hm with rfl | hm
      · exact ⟨hf, V.plain_hard (V.plain_clr _)⟩
      · exact h2 v hm
    · cases hv
  | [], _ :: _, _, h, _ => by simp [rdsB] at h
  | _ :: _, [], _, h, _ => by simp [rdsB] at h
theorem caps_rep : ∀ {xs : List Operand} {ys : List Rd} {vs : List V} {F F' : Fr} {g : Gh}, Rel CR N g lam F H a w → rdsB xs ys = true → capsV F ys = some (vs, F') →
    ∃ g', Rel CR N g' lam F' H a w ∧ Ext g w g' w ∧ RepL g' vs (xs.map a.eval)
  | [], [], vs, F, F', g, h, _, hv => by simp only [capsV, Option.some.injEq, Prod.mk.injEq] at hv; obtain ⟨rfl, rfl⟩ := hv; exact ⟨g, h, .refl g w, .nil⟩
  | x :: xs, y :: ys, vs, F, F', g, h, hr, hv => by
    simp only [rdsB, Bool.and_eq_true] at hr
    simp only [capsV] at hv
    split at hv
    · rename_i s
      have hxs : x = .tmp s := by
        have h1 := hr.1
        cases x <;> simp [rdB] at h1
        subst h1; rfl
      subst hxs
      split at hv
      · rename_i t hg
        split at hv
        · rename_i e; subst e
          split at hv
          · rename_i cs hb
            simp only [Option.map_eq_some_iff, Prod.mk.injEq] at hv
            obtain ⟨⟨vs', F2⟩, hv, rfl, rfl⟩ := hv
            obtain ⟨g1, h1, h2, h3⟩ := h.frz hb ⟨0, hg, rfl⟩
            obtain ⟨g2, k1, k2, k3⟩ := caps_rep h1 hr.2 hv
            have := h.slot t
            rw [hg] at this
            exact ⟨g2, k1, h2.trans k2, .cons ((h3 _ this).mono k2.le) k3⟩
          · cases hv
        · cases hv
      · cases hv
      · rename_i hn1 hn2
        simp only [Option.map_eq_some_iff, Prod.mk.injEq] at hv
        obtain ⟨⟨vs', F2⟩, hv, rfl, rfl⟩ := hv
        obtain ⟨g2, k1, k2, k3⟩ := caps_rep h hr.2 hv
        have := (h.slot s).rep (fun t o e => hn2 t o e)
        exact ⟨g2, k1, k2, .cons (this.clr.hard.mono k2.le) k3⟩
    · rename_i c
      split at hv
      · rename_i hf
        simp only [Option.map_eq_some_iff, Prod.mk.injEq] at hv
        obtain ⟨⟨vs', F2⟩, hv, rfl, rfl⟩ := hv
        obtain ⟨g2, k1, k2, k3⟩ := caps_rep h hr.2 hv
        have := (rd_srep h hr.1).rep (fun t o e => free_notL hf t o e)
        exact ⟨g2, k1, k2, .cons ((Rep.clr this).hard.mono k2.le) k3⟩
      · cases hv
  | [], _ :: _, _, _, _, _, _, h, _ => by simp [rdsB] at h
  | _ :: _, [], _, _, _, _, _, h, _ => by simp [rdsB] at h
theorem sim_mkf (h : Rel CR N g lam F H a w) {o : Oper} {d : Option Nat} (hd : ∀ t, d = some t → t < N) {fn : Fn} {fs cs : Array Operand} {fs' cs' : List Rd}
    (ho : o.op = .makeFunc fn fs cs) (h1 : rdsB fs.toList fs' = true) (h2 : rdsB cs.toList cs' = true) {v : V} {F' : Fr} {H' : Hp} (hs : stepV (.mkf fn fs' cs') d F H = some (v, F', H')) : Sim P CR N o d v F' H' g a w := by
  simp only [stepV, Option.bind_eq_some_iff, Option.map_eq_some_iff] at hs
  obtain ⟨as, ha, ⟨vs, F2⟩, hc, hs⟩ := hs
  simp only [Prod.mk.injEq] at hs
  obtain ⟨rfl, rfl, rfl⟩ := hs
  obtain ⟨k1, _⟩ := args_rep h h1 ha
  obtain ⟨g2, r1, r2, r3⟩ := caps_rep h h2 hc
  refine ⟨.func fn (fs.map a.eval) (cs.map a.eval), w, g2, lam, .inl (by simp [execOp, ho, Instr.makeFunc]), r1.put d hd (v := .fn fn as vs) (Rep.srep (.fn ?_ ?_)) (fun _ _ => trivial) (fun t o e => by cases e), r2⟩
  · simpa using RepL.mono r2.le k1
  · simpa using r3

/-- the values of one-cell kinds -/
theorem Rep.oneCell {v : V} {u : Value} (h : Rep g v u) (h1 : v.one = true) : u.oneCell' = true := by
  cases h <;> first | rfl | cases h1
theorem run_storeVar {t : TypeId} {n : Nat} (ht : (P.info? t).map (·.size) = some n) {b o : Nat} {u : Value} (hn : u.cells.size = n) (hc : ∀ j, j < n → (ce w b (o + j)).isSome = true) (hz : ∀ j, j < n → fz w b (o + j) = false)
    (h1 : ∀ x ∈ u.cells.toList, x.oneCell' = true) : (storeVar t ⟨b, o, none⟩ u).run P w = .ok () (w.setCells b o u.cells.toList) := by
  obtain ⟨i, hi, rfl⟩ := Option.map_eq_some_iff.1 ht
  have hl : u.cells.toList.length = i.size := by simpa using hn
  have := run_storeCells_cells (P := P) b o u.cells.toList 0 w (fun j hj => by simpa [ce] using hc j (by omega)) (fun j hj => by simpa [fz] using hz j (by omega)) h1
  simp only [storeVar, Sem.run_bind, sizeOf, typeInfo, run_program, Result.andThen, hi, Sem.run_pure, ne_eq, hn, not_true_eq_false, if_false]
  simpa using this
theorem RepL.oneCells : ∀ {cs : List V} {us : List Value}, RepL g cs us → cs.all V.one = true → ∀ x ∈ us, x.oneCell' = true
  | _, _, .nil, _, x, hx => by cases hx
  | _, _, .cons a b, h, x, hx => by
    simp only [List.all_cons, Bool.and_eq_true] at h
    rcases List.mem_cons.1 hx with rfl | hx
    · exact a.oneCell h.1
    · exact b.oneCells h.2 x hx
theorem splice_get {cs vs cs' : List V} {o : Nat} (h : splice cs o vs = some cs') : o + vs.length ≤ cs.length ∧ cs'.length = cs.length ∧ (∀ j, j < vs.length → cs'[o + j]? = vs[j]?) ∧ ∀ j, (j < o ∨ o + vs.length ≤ j) → cs'[j]? = cs[j]? := by
  unfold splice at h
  split at h
  · rename_i hle
    cases h
    refine ⟨hle, by simp; omega, fun j hj => ?_, fun j hj => ?_⟩
    · rw [List.append_assoc, List.getElem?_append_right (by simp; omega), List.getElem?_append_left (by simp; omega)]
      congr 1; simp; omega
    · rcases hj with hj | hj
      · rw [List.append_assoc, List.getElem?_append_left (by simp; omega), List.getElem?_take, if_pos hj]
      · rw [List.getElem?_append_right (by simp; omega), List.getElem?_drop]
        congr 1; simp; omega
  · cases h

/-- values into a box of the frame's own -/
theorem Rel.storeBox (h : Rel CR N g lam F H a w) {t blk o : Nat} {cs ws cs' : List V} {us : List Value} (hb : F.bx t = some cs) (hl : lam t = some blk) (hr : RepL g ws us) (h1 : ws.all V.one = true) (hn : noOwn ws) (hs : splice cs o ws = some cs') :
    Rel CR N g lam (F.box t (some cs')) H a (w.setCells blk o us) ∧ Ext g w g (w.setCells blk o us) := by
  obtain ⟨blk', e1, hbox⟩ := h.box t cs hb
  rw [hl] at e1; cases e1
  obtain ⟨k1, k2, k3, k4⟩ := splice_get hs
  have hul := hr.length
  have hown : ∀ j, j < us.length → g.own blk (o + j) = .box t := fun j hj => by
    obtain ⟨u, _, _, e3, _⟩ := hbox (o + j) _ (List.getElem?_eq_getElem (by omega))
    exact e3
  have hce : ∀ j, j < us.length → (ce w blk (o + j)).isSome = true := fun j hj => by
    obtain ⟨u, e1, _⟩ := hbox (o + j) _ (List.getElem?_eq_getElem (by omega))
    rw [e1]; rfl
  have T := tr_setCells g w blk o us (fun x => x = .box t) hown
  have hmem := mem_setCells h.base blk o us (fun j hj => by rw [hown j hj]; simp)
  refine ⟨⟨h.base.tr T hmem h.base.fresh (fun id ob e => .inl ⟨e, by simp⟩), h.sz, fun s => (h.slot s).tr T.le, fun s => (h.sown s).tr T (fun _ _ => by simp), fun t' cs2 hb' => ?_, fun s t' o' e => ?_, fun d e => ?_, h.dfrN⟩, Ext.setCells g w blk o us (fun j hj => by rw [hown j hj]; simp)⟩
  · by_cases ht : t' = t
    · subst ht
      simp only [Fr.box, upd, if_true, Option.some.injEq] at hb'
      subst hb'
      refine ⟨blk, hl, fun j c hj => ?_⟩
      by_cases hin : o ≤ j ∧ j < o + ws.length
      · obtain ⟨i, rfl⟩ : ∃ i, j = o + i := ⟨j - o, by omega⟩
        rw [k3 i (by omega)] at hj
        obtain ⟨x, e1, e2⟩ := hr.get i c hj
        have hlt : i < us.length := by omega
        obtain ⟨u0, f1, f2, f3, _⟩ := hbox (o + i) _ (List.getElem?_eq_getElem (by omega))
        refine ⟨x, ?_, by rw [fz_setCells]; exact f2, f3, e2, List.all_eq_true.1 h1 c (List.mem_of_getElem? hj), fun sz xs e e2 => absurd (hn c (List.mem_of_getElem? hj) sz xs e) e2⟩
        rw [ce_setCells_in w blk o us hce hlt]
        rw [← e1, List.getElem?_eq_getElem hlt]
      · rw [k4 j (by omega)] at hj
        obtain ⟨u, f1, f2, f3, f4, f5, f6⟩ := hbox j c hj
        exact ⟨u, by rw [ce_setCells_out w blk o us (fun _ => by omega)]; exact f1, by rw [fz_setCells]; exact f2, f3, f4, f5, fun sz xs e e2 => (f6 sz xs e e2).tr T (by simp)⟩
    · simp only [Fr.box, upd, ht, if_false] at hb'
      obtain ⟨blk2, e1, e2⟩ := h.box t' cs2 hb'
      exact ⟨blk2, e1, e2.tr T (by simp [ht]) (fun _ => by simp)⟩
  · by_cases ht : t' = t
    · subst ht; simp [Fr.box, upd]
    · simp only [Fr.box, upd, ht, if_false]; exact h.ptr s t' o' e
  · obtain ⟨r, e1, e2, e3⟩ := h.dfr d e
    obtain ⟨t1, t2⟩ := T.objs r _ e2 rfl (by rw [e3]; simp)
    exact ⟨r, e1, t1, t2.trans e3⟩

/-- values into an object of the heap -/
theorem Rel.storeOb (h : Rel CR N g lam F H a w) {id blk base cap o : Nat} {us : List Value} (hmu : g.mu id = some (blk, base, cap)) (hown : ∀ j, j < us.length → g.own blk (base + o + j) = .heap id)
    (ob : Ob) (hob : ObOk CR g (w.setCells blk (base + o) us) id blk base cap ob) : Rel CR N g lam F (H.put id (some ob)) a (w.setCells blk (base + o) us) ∧ Ext g w g (w.setCells blk (base + o) us) := by
  have T := tr_setCells g w blk (base + o) us (fun x => x = .heap id) hown
  have hmem := mem_setCells h.base blk (base + o) us (fun j hj => by rw [hown j hj]; simp)
  refine ⟨⟨h.base.tr T hmem h.base.fresh (fun id' ob' e => ?_), h.sz, fun s => (h.slot s).tr T.le, fun s => (h.sown s).tr T (fun _ _ => by simp), fun t' cs2 hb' => ?_, h.ptr, fun d e => ?_, h.dfrN⟩, Ext.setCells g w blk (base + o) us (fun j hj => by rw [hown j hj]; simp)⟩
  · by_cases hi : id' = id
    · subst hi
      simp only [Hp.put, upd, if_true, Option.some.injEq] at e
      subst e
      exact .inr ⟨blk, base, cap, hmu, hob⟩
    · simp only [Hp.put, upd, hi, if_false] at e
      exact .inl ⟨e, by simp [hi]⟩
  · obtain ⟨blk2, e1, e2⟩ := h.box t' cs2 hb'
    exact ⟨blk2, e1, e2.tr T (by simp) (fun _ => by simp)⟩
  · obtain ⟨r, e1, e2, e3⟩ := h.dfr d e
    obtain ⟨t1, t2⟩ := T.objs r _ e2 rfl (by rw [e3]; simp)
    exact ⟨r, e1, t1, t2.trans e3⟩
theorem ObOk.storeCells {id blk base cap o : Nat} {cs ws cs' : List V} {us : List Value} (h : ObOk CR g w id blk base cap (.cells cs)) (hr : RepL g ws us) (h1 : ws.all V.one = true) (hs : splice cs o ws = some cs') :
    ObOk CR g (w.setCells blk (base + o) us) id blk base cap (.cells cs') := by
  obtain ⟨k1, k2, k3, k4⟩ := splice_get hs
  have hul := hr.length
  have hce : ∀ j, j < us.length → (ce w blk (base + o + j)).isSome = true := fun j hj => by
    obtain ⟨u, e1, _⟩ := h (o + j) _ (List.getElem?_eq_getElem (by omega))
    rw [Nat.add_assoc, e1]; rfl
  intro j c hj
  by_cases hin : o ≤ j ∧ j < o + ws.length
  · obtain ⟨i, rfl⟩ : ∃ i, j = o + i := ⟨j - o, by omega⟩
    rw [k3 i (by omega)] at hj
    obtain ⟨x, e1, e2⟩ := hr.get i c hj
    have hlt : i < us.length := by omega
    obtain ⟨u0, f1, f2, f3, _⟩ := h (o + i) _ (List.getElem?_eq_getElem (by omega))
    refine ⟨x, ?_, by rw [fz_setCells]; exact f2, f3, e2, List.all_eq_true.1 h1 c (List.mem_of_getElem? hj)⟩
    rw [← Nat.add_assoc, ce_setCells_in w blk (base + o) us hce hlt, ← e1, List.getElem?_eq_getElem hlt]
  · rw [k4 j (by omega)] at hj
    obtain ⟨u, f1, f2, f3, f4, f5⟩ := h j c hj
    exact ⟨u, by rw [ce_setCells_out w blk (base + o) us (fun _ => by omega)]; exact f1, by rw [fz_setCells]; exact f2, f3, f4, f5⟩
end Go.Iv
