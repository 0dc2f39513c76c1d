/- Single operations, ninth part: owned loads, append. No conditions. -/
import Derived.Test.YtpgojhgfhhgomaaIvOpg
namespace Go.Iv
set_option linter.unusedVariables false
set_option linter.unusedSimpArgs false
variable {P : Program} {CR : Nat → Code → IC → Prop} {N : Nat} {g g' : Gh} {lam : Nat → Option Nat} {F : Fr} {H : Hp} {a : Act} {w w' : World}

/-- a box's cell may be read without what it owns -/
theorem Rel.clrBox (h : Rel CR N g lam F H a w) {t o : Nat} {cs : List V} {c c' : V} (hb : F.bx t = some cs) (hc : cs[o]? = some c) (hr : ∀ u, Rep g c u → Rep g c' u) (h1 : c.one = true → c'.one = true) (hn : ∀ sz xs, c' = .list sz xs true → xs = []) :
    Rel CR N g lam (F.box t (some (cs.set o c'))) H a w := by
  refine ⟨h.base, h.sz, h.slot, h.sown, fun t' cs2 hb' => ?_, fun s t' o' e => ?_, h.dfr, h.dfrN⟩
  · by_cases ht : t' = t
    · subst ht
      simp only [Fr.box, upd, if_true, Option.some.injEq] at hb'
      subst hb'
      obtain ⟨blk, hl, hbox⟩ := h.box t' cs hb
      refine ⟨blk, hl, fun j x hj => ?_⟩
      by_cases hj' : j = o
      · subst hj'
        have ho : j < cs.length := (List.getElem?_eq_some_iff.1 hc).1
        simp only [List.getElem?_set_self ho, Option.some.injEq] at hj
        subst hj
        obtain ⟨u, f1, f2, f3, f4, f5, f6⟩ := hbox j c hc
        exact ⟨u, f1, f2, f3, hr u f4, h1 f5, fun sz xs e e2 => absurd (hn sz xs e) e2⟩
      · rw [List.getElem?_set_ne (Ne.symm hj')] at hj
        exact hbox j x hj
    · simp only [Fr.box, upd, ht, if_false] at hb'
      exact h.box t' cs2 hb'
  · by_cases ht : t' = t
    · subst ht; simp [Fr.box, upd]
    · simp only [Fr.box, upd, ht, if_false]; exact h.ptr s t' o' e

theorem sim_loadT (h : Rel CR N g lam F H a w) {o : Oper} {d : Option Nat} (hd : ∀ t, d = some t → t < N) {t : TypeId} {x : Operand} {y : Rd} {ag : Option Nat} {bs : Bs}
    (ho : o.op = .load t x) (ht : aggOf P t = some ag) (hr : rdB x y = true) {v : V} {F' : Fr} {H' : Hp} (hs : stepV (.load ag y true bs) d F H = some (v, F', H')) : Sim P CR N o d v F' H' g a w := by
  by_cases hcase : ∃ t0 o0, y.get F = .lptr t0 o0 ∧ ag = none
  · obtain ⟨t0, o0, hg, rfl⟩ := hcase
    simp only [stepV, hg] at hs
    split at hs
    case isFalse => cases hs
    case isTrue hbs =>
    simp only [Option.bind_eq_some_iff, Option.map_eq_some_iff, Prod.mk.injEq] at hs
    obtain ⟨cs, hb, c, hc, rfl, rfl, rfl⟩ := hs
    have hsr := rd_srep h hr
    rw [hg] at hsr
    obtain ⟨blk, hlam, hxe, hbox⟩ := row_box h hsr hb
    obtain ⟨u, f1, f2, f3, f4, f5, f6⟩ := hbox o0 c hc
    have hrun : (execOp a.eval o).run P w = .ok (.value u) w := by
      have := run_loadVar_cell (P := P) ht (ad := ⟨blk, o0, none⟩) (u := u) f1
      simp [execOp, ho, Instr.loadAt, Instr.sureAddr, hxe, this]
    have h1 := h.clrBox hb hc (c' := c.clr) (fun u => Rep.clr) V.one_clr (fun sz xs e => by have := V.plain_clr c; rw [e] at this; simpa [V.plain] using this)
    by_cases hp : c.plain = true
    · exact ⟨u, w, g, lam, .inl hrun, h1.put d hd f4.srep (fun _ _ => SOwn.plain hp) (fun t o e => absurd e (f4.notL t o)), .refl g w⟩
    · obtain ⟨sz, xs, rfl, hne⟩ := notPlain hp (fun ws e => by subst e; cases f5)
      cases d with
      | none => exact ⟨u, w, g, lam, .inl hrun, h1, .refl g w⟩
      | some d =>
        have h2 := (h1.junk d).retag (ldTag_fix t0 o0 d) (fun t j hoj => by
            by_cases e1 : t = d
            · subst e1; simp [upd, owns] at hoj
            · simp [ldTag, e1]) (fun t cs2 j sz2 xs2 hb2 hj2 hne2 => by
            by_cases e1 : t = t0 ∧ j = o0
            · obtain ⟨rfl, rfl⟩ := e1
              exfalso
              simp only [Fr.box, upd, if_true, Option.some.injEq] at hb2
              subst hb2
              rw [List.getElem?_set_self (List.getElem?_eq_some_iff.1 hc).1] at hj2
              simp only [V.clr, Option.some.injEq, V.list.injEq, Bool.and_eq_true, true_and, List.isEmpty_iff] at hj2
              exact hne2 (hj2.2.1 ▸ hj2.2.2)
            · simp [ldTag, e1])
        have hsp : Spare (g.retag (ldTag t0 o0 d)) w (.spare d 0) sz u := Spare.retag (f6 sz xs rfl hne) (by simp [ldTag])
        have h3 := h2.put (some d) (fun t e => hd t e) (v := .list sz xs true) (u := u) (f4.mono (g.retag_le _)).srep (fun t e => by cases e; exact fun _ => hsp) (fun t o e => by cases e)
        refine ⟨u, w, _, lam, .inl hrun, ?_, .retag g w (ldTag_fix t0 o0 d)⟩
        have he : ((({ F.box t0 (some (cs.set o0 (V.list sz xs true).clr)) with tm := upd (F.box t0 (some (cs.set o0 (V.list sz xs true).clr))).tm d .junk } : Fr)).put (some d) (.list sz xs true)) = (F.box t0 (some (cs.set o0 (V.list sz xs true).clr))).put (some d) (.list sz xs true) := by
          simp only [Fr.put, Fr.mk.injEq, and_true]
          funext j
          simp only [upd]
          split <;> rfl
        rw [← he]; exact h3
  · refine sim_load h hd ho ht hr (bs := bs) ?_
    rw [← hs]
    simp only [stepV]
    split
    · split
      · rfl
      · rename_i t' o' hg
        cases ag with
        | none => exact absurd ⟨t', o', hg, rfl⟩ hcase
        | some n => rfl
      · rfl
      · rfl
      · rfl
    · rfl

/-- the cells of an immutable list -/
theorem RepE.vals {sz b : Nat} : ∀ {ys : List V} {o : Nat}, RepE g sz ys b o → ∃ us : List Value, us.length = ys.length * sz ∧ RepL g (ys.flatMap V.cells) us ∧ (∀ j u, us[j]? = some u → g.m b (o + j) = some u) ∧ (∀ v ∈ ys, v.fits sz = true ∧ v.cells.all V.one = true)
  | [], o, _ => ⟨[], by simp, .nil, by simp, by simp⟩
  | y :: ys, o, .cons hf hm hr => by
    obtain ⟨us, h1, h2, h3, h4⟩ := RepE.vals hr
    have hx : ∃ xs : List Value, xs.length = sz ∧ RepL g y.cells xs ∧ (∀ j u, xs[j]? = some u → g.m b (o + j) = some u) ∧ y.cells.all V.one = true := by
      rw [← V.fits_len hf]
      clear hr h1 h3
      generalize y.cells = cs at hm
      clear hf
      induction cs generalizing o with
      | nil => exact ⟨[], rfl, .nil, by simp, rfl⟩
      | cons c cs ih =>
        cases hm with
        | cons n e a r =>
          rename_i u
          obtain ⟨xs, k1, k2, k3, k4⟩ := ih _ r
          refine ⟨u :: xs, by simp [k1], .cons a k2, fun j x hj => ?_, by simp [n]; simpa using k4⟩
          cases j with
          | zero => simp at hj; subst hj; exact e
          | succ j => rw [← k3 j x (by simpa using hj)]; congr 1; omega
    obtain ⟨xs, k1, k2, k3, k4⟩ := hx
    refine ⟨xs ++ us, ?_, by simpa using k2.append h2, fun j u hj => ?_, fun v hv => ?_⟩
    · simp [k1, h1, Nat.succ_mul]; omega
    · rw [List.getElem?_append] at hj
      split at hj
      · exact k3 j u hj
      · rename_i hlt
        rw [← h3 _ u hj]; congr 1; omega
    · rcases List.mem_cons.1 hv with rfl | hv
      · exact ⟨hf, k4⟩
      · exact h4 v hv

/-- a stretch of cells becomes immutable -/
def Gh.frozeR (g : Gh) (w : World) (b s n : Nat) : Gh :=
  { g with m := fun b' o => if b' = b ∧ s ≤ o ∧ o < s + n then ce w b' o else g.m b' o, own := fun b' o => if b' = b ∧ s ≤ o ∧ o < s + n then .imm else g.own b' o }
theorem Rel.frzR (h : Rel CR N g lam F H a w) {b s n : Nat} {tag : Ow} (hc : ∀ j, j < n → g.own b (s + j) = tag) (ht : ∃ t j, tag = .spare t j ∧ ¬ owns (F.tm t) j) :
    Rel CR N (g.frozeR w b s n) lam F H a w ∧ Ext g w (g.frozeR w b s n) w := by
  obtain ⟨t, j0, rfl, hno⟩ := ht
  have hown : ∀ o, s ≤ o → o < s + n → g.own b o = .spare t j0 := fun o h1 h2 => by have := hc (o - s) (by omega); rwa [show s + (o - s) = o by omega] at this
  have hle : g.le (g.frozeR w b s n) := ⟨fun b' o v e => by
    simp only [Gh.frozeR]
    split
    · rename_i hc; obtain ⟨rfl, h1, h2⟩ := hc
      have := (h.base.mem _ _ _ e).2
      rw [hown o h1 h2] at this; cases this
    · exact e, fun _ _ e => e⟩
  have T : Tr (fun x => x ≠ .spare t j0) g w (g.frozeR w b s n) w :=
    ⟨hle, fun b' o hlv _ => by
      refine ⟨?_, rfl, rfl⟩
      simp only [Gh.frozeR]
      split
      · rename_i hc; obtain ⟨rfl, h1, h2⟩ := hc; exact absurd (hown o h1 h2) hlv
      · rfl, fun b' ob e hn hlv => by
      refine ⟨e, ?_⟩
      simp only [Gh.frozeR]
      split
      · rename_i hc; obtain ⟨rfl, h1, h2⟩ := hc; exact absurd (hown 0 h1 h2) hlv
      · rfl⟩
  refine ⟨h.tr T (fun b' o v e => ?_) h.base.fresh (fun _ => by simp) (fun _ => ⟨by simp, fun _ => by simp⟩) (fun t' j ho => by simp; rintro rfl rfl; exact hno ho) (by simp), ⟨hle, Nat.le_refl _, fun b' o _ ho => ⟨?_, rfl⟩, fun b c e f hc => ⟨c, hc, rfl⟩, fun b ob hb' _ _ => hb', fun b r hb' => ⟨r, hb'⟩, ⟨rfl, rfl, fun _ => rfl⟩⟩⟩
  · simp only [Gh.frozeR] at e ⊢
    split at e
    · rename_i hc; exact ⟨e, by simp [hc]⟩
    · rename_i hc; rw [if_neg hc]; exact h.base.mem b' o v e
  · simp only [Gh.frozeR]
    split
    · rename_i hc; obtain ⟨rfl, h1, h2⟩ := hc; rw [hown o h1 h2] at ho; cases ho
    · exact ho

theorem run_append_room' (t ty e : TypeId) (i : TypeInfo) (ht : P.underlying t = some (.slice e)) (hi : P.info? e = some i) {b off sLen sCap : Nat} {ad : Addr} {m c : Nat} {news : List Value} (hl : news.length = m * i.size)
    (hnews : ∀ j u, news[j]? = some u → w.cell? (ad.add j) = some u) (h1 : ∀ u ∈ news, u.oneCell' = true) (hroom : sLen + m ≤ sCap) (hc : ∀ j, j < news.length → (ce w b (off + sLen * i.size + j)).isSome = true) (hz : ∀ j, j < news.length → fz w b (off + sLen * i.size + j) = false) :
    (Builtin.append_ #[t, t] ty #[.slice (some ⟨b, off, none⟩) sLen sCap, .slice (some ad) m c]).run P w = .ok (.slice (some ⟨b, off, none⟩) (sLen + m) sCap) (w.setCells b (off + sLen * i.size) news) := by
  have hf := run_firstCells_some (P := P) w i.size m ad m c news hl hnews
  have hst := run_storeCells_cells (P := P) b (off + sLen * i.size) news 0 w (fun j hj => by simpa [ce] using hc j hj) (fun j hj => by simpa [fz] using hz j hj) h1
  simp only [Nat.add_zero] at hst
  simp [Builtin.append_, run_underlying ht, sizeOf, typeInfo, hi, Builtin.lenOf, hroom, hf, addr_add, hst]
theorem run_append_none' (t ty e : TypeId) (i : TypeInfo) (ht : P.underlying t = some (.slice e)) (hi : P.info? e = some i) {base : Option Addr} {sLen sCap : Nat} (hle : sLen ≤ sCap) {src : Value} (hsrc : src = .slice none 0 0 ∨ ∃ ad c, src = .slice (some ad) 0 c) :
    (Builtin.append_ #[t, t] ty #[.slice base sLen sCap, src]).run P w = .ok (.slice base sLen sCap) w := by
  rcases hsrc with rfl | ⟨ad, c, rfl⟩
  · cases base <;> simp [Builtin.append_, run_underlying ht, sizeOf, typeInfo, hi, Builtin.lenOf, hle, Builtin.firstCells, storeCells]
  · have hf := run_firstCells_some (P := P) w i.size 0 ad 0 c [] (by simp) (by simp)
    cases base <;> simp [Builtin.append_, run_underlying ht, sizeOf, typeInfo, hi, Builtin.lenOf, hle, hf, storeCells]
theorem grownCap_ge (w : World) (need old : Nat) (e : TypeId) : need ≤ grownCap w need old e := by simp [grownCap, Question.cut]

theorem sim_app (h : Rel CR N g lam F H a w) {o : Oper} {d : Option Nat} (hd : ∀ t, d = some t → t < N) {t e : TypeId} {x y : Operand} {x' y' : Rd} {i : TypeInfo} {sz : Nat}
    (ho : o.op = .call { callee := .builtin .append, args := #[x, y], argTypes := #[t, t] }) (h1 : P.underlying t = some (.slice e)) (h2 : P.info? e = some i) (h3 : i.size = sz) (hbt : i.bytes ≤ 32768) (hz : hasZero P e = true)
    (hx : rdB x x' = true) (hy : rdB y y' = true) {v : V} {F' : Fr} {H' : Hp} (hs : stepV (.app sz false x' y') d F H = some (v, F', H')) : Sim P CR N o d v F' H' g a w := by
  have hexec : ∀ {u : Value} {w' : World}, (Builtin.append_ #[t, t] o.type #[a.eval x, a.eval y]).run P w = .ok u w' → (execOp a.eval o).run P w = .ok (.value u) w' := by
    intro u w' e
    simp [execOp, ho, resolve, Sem.run_bind, invoke, builtin, e]
  obtain ⟨i', z, k1, k2, k3, k4⟩ := hasZero_spec hz
  rw [h2] at k1; cases k1
  subst h3
  have hzs : z.cells.size = i.size := k3
  simp only [stepV] at hs
  split at hs
  case h_2 => cases hs
  rename_i s
  split at hs
  case h_3 => cases hs
  case h_2 =>
    split at hs
    · split at hs
      · rename_i hc; simp at hc
      · cases hs
    · cases hs
  rename_i s1 xs s2 ys oy hgx hgy
  simp only [Bool.false_eq_true, if_false] at hs
  split at hs
  case isFalse => cases hs
  rename_i hc
  obtain ⟨rfl, rfl, hlim⟩ := hc
  cases hs
  have hxs : x = .tmp s := by
    cases x <;> simp [rdB] at hx
    subst hx; rfl
  subst hxs
  have hlim : xs.length + ys.length ≤ 4294967296 := hlim
  have hrx := h.slot s
  rw [hgx] at hrx
  have hrx : Rep g (.list i.size xs true) (a.tmps.getD s undef) := hrx
  have hry := rd_rep h hy hgy (by intro t o e; cases e)
  have hsown := h.sown s
  rw [hgx] at hsown
  -- nothing to append
  by_cases hyn : ys = []
  · subst hyn
    have hmv : Rel CR N (match d with | some d => g.retag (mvTag s d) | none => g) lam (({ F with tm := upd F.tm s .junk } : Fr).put d (.list i.size (xs ++ []) true)) H (a.put d (a.tmps.getD s undef)) w := by
      rw [List.append_nil]
      cases d with
      | none => exact h.junk s
      | some d => have := h.move (s := s) (hd d rfl); rw [hgx] at this; exact this
    refine ⟨_, w, _, lam, .inl (hexec ?_), hmv, ?_⟩
    · have hsrc : a.eval y = .slice none 0 0 ∨ ∃ ad c, a.eval y = .slice (some ad) 0 c := by
        generalize a.eval y = uy at hry
        cases hry with
        | nil => exact .inl rfl
        | list => exact .inr ⟨_, _, rfl⟩
      have hxe : a.eval (.tmp s) = a.tmps.getD s undef := rfl
      rw [hxe]
      generalize a.tmps.getD s undef = ux at hrx
      cases hrx with
      | nil => exact run_append_none' t o.type e i h1 h2 (Nat.le_refl 0) hsrc
      | list hsp hle hcn hE => exact run_append_none' t o.type e i h1 h2 hle hsrc
    · cases d with
      | none => exact .refl g w
      | some d => exact .retag g w (mvTag_fix s d)
  -- something
  have hypos : 0 < ys.length := List.length_pos_iff.2 hyn
  obtain ⟨ad2, c2, hue, hE2⟩ : ∃ ad2 c2, a.eval y = .slice (some ad2) ys.length c2 ∧ ad2.spot = none ∧ RepE g i.size ys ad2.block ad2.off := by
    generalize a.eval y = uy at hry
    cases hry with
    | nil => exact absurd rfl hyn
    | list hsp hle hcn hE => exact ⟨_, _, rfl, hsp hyn, hE⟩
  obtain ⟨b2, o2, sp2⟩ := ad2
  obtain ⟨hsp2, hE2⟩ := hE2
  simp only at hsp2 hE2
  subst hsp2
  obtain ⟨news, n1, n2, n3, n4⟩ := hE2.vals
  have hnc : ∀ j u, news[j]? = some u → w.cell? ((⟨b2, o2, none⟩ : Addr).add j) = some u := fun j u hj => by
    rw [addr_add]; exact (h.base.mem _ _ _ (n3 j u hj)).1
  have hn1 : ∀ u ∈ news, u.oneCell' = true := n2.oneCells (List.all_eq_true.2 fun c hc => by
    obtain ⟨v, hv, hcv⟩ := List.mem_flatMap.1 hc
    exact List.all_eq_true.1 (n4 v hv).2 c hcv)
  have hfitb : (xs.length + ys.length) * i.bytes ≤ 140737488355328 := by
    have : (xs.length + ys.length) * i.bytes ≤ 4294967296 * 32768 := Nat.mul_le_mul hlim hbt
    omega
  -- the new list in a block of its own
  have hnew : ∀ {olds : List Value} (newCap : Nat), RepL g (xs.flatMap V.cells) olds → (∀ v ∈ xs, v.fits i.size = true ∧ v.cells.all V.one = true) → xs.length + ys.length ≤ newCap → (execOp a.eval o).run P w = .ok (.value (.slice (some ⟨w.heap.size, 0, none⟩) (xs.length + ys.length) newCap)) (w.drew.alloc (.cells (olds.toArray ++ news.toArray ++ Builtin.zeroCells z.cells (newCap - (xs.length + ys.length))) e)) →
      Sim P CR N o d (.list i.size (xs ++ ys) true) { F with tm := upd F.tm s .junk } H g a w := by
    intro olds newCap hol hof hle hrun
    have hw : Rel CR N g lam { F with tm := upd F.tm s .junk } H a w.drew := (h.junk s).heap rfl
    have hsz : w.drew.heap.size = w.heap.size := rfl
    obtain ⟨g1, r1, r2⟩ := hw.newList (vs := xs ++ ys) (us := olds ++ news) (sz := i.size) (cap := newCap) (cells := olds.toArray ++ news.toArray ++ Builtin.zeroCells z.cells (newCap - (xs.length + ys.length))) e
      ⟨(Builtin.zeroCells z.cells (newCap - (xs.length + ys.length))).toList, by simp, by simp [size_zeroCells, hzs]⟩ (by simpa using hle) (fun e => by simp [hyn] at e) (by simpa using hol.append n2)
      (fun v hv => by rcases List.mem_append.1 hv with hv | hv; exact hof v hv; exact n4 v hv) d hd
    refine ⟨_, _, g1, lam, .inl hrun, ?_, (Ext.heap (w := w) (w' := w.drew) g rfl).trans r2⟩
    simpa using r1
  have hxe : a.eval (.tmp s) = a.tmps.getD s undef := rfl
  rw [hxe] at hexec
  generalize hux : a.tmps.getD s undef = ux at hrx hsown hexec
  cases hrx with
  | nil =>
    refine hnew (olds := []) (grownCap w ys.length 0 e) .nil (by simp) (by simpa using grownCap_ge w ys.length 0 e) (hexec ?_)
    have hr := run_append_nil (P := P) w t o.type e i z h1 h2 k2 ⟨b2, o2, none⟩ ys.length c2 news n1 hnc hypos (by simp at hlim; omega) (by simp at hfitb; omega)
    rw [hue, hr]
    simp
  | list hsp hle hcn hE =>
    rename_i ad cap
    by_cases hxe : xs = []
    · subst hxe
      have hcap : cap = 0 := hcn rfl rfl
      subst hcap
      refine hnew (olds := []) (grownCap w (0 + ys.length) 0 e) .nil (by simp) (by simpa using grownCap_ge w (0 + ys.length) 0 e) (hexec ?_)
      have hr := run_append_grow (P := P) w t o.type e i z h1 h2 k2 ad 0 0 [] (by simp) (by simp) ⟨b2, o2, none⟩ ys.length c2 news n1 hnc (by omega) (by omega) (growslice_fits (by simp at hlim; omega) (by simpa using hfitb))
      rw [hue]
      simpa using hr
    have hsp := hsp hxe
    obtain ⟨b, off, sp⟩ := ad
    simp only at hsp; subst hsp
    obtain ⟨olds, o1, o2', o3, o4⟩ := hE.vals
    have hoc : ∀ j u, olds[j]? = some u → w.cell? ((⟨b, off, none⟩ : Addr).add j) = some u := fun j u hj => by
      rw [addr_add]; exact (h.base.mem _ _ _ (o3 j u hj)).1
    by_cases hroom : xs.length + ys.length ≤ cap
    · -- in place
      have hxn : xs ≠ [] := fun e => by have := hcn rfl e; omega
      obtain ⟨_, _, hspare⟩ := hsown hxn ⟨b, off, none⟩ xs.length cap rfl
      have hin : ∀ j, j < news.length → j < (cap - xs.length) * i.size := fun j hj => by
        rw [n1] at hj
        have : ys.length * i.size ≤ (cap - xs.length) * i.size := Nat.mul_le_mul_right _ (by omega)
        omega
      have hce : ∀ j, j < news.length → (ce w b (off + xs.length * i.size + j)).isSome = true := fun j hj => (hspare j (hin j hj)).2.1
      have hrun := run_append_room' (P := P) (w := w) t o.type e i h1 h2 (b := b) (off := off) (sLen := xs.length) (sCap := cap) n1 hnc hn1 hroom hce (fun j hj => (hspare j (hin j hj)).2.2) (c := c2)
      have T := tr_setCells g w b (off + xs.length * i.size) news (fun x => x = .spare s 0) (fun j hj => (hspare j (hin j hj)).1)
      have hjk := h.junk s
      have hR1 : Rel CR N g lam { F with tm := upd F.tm s .junk } H a (w.setCells b (off + xs.length * i.size) news) :=
        hjk.tr T (mem_setCells h.base _ _ _ (fun j hj => by rw [(hspare j (hin j hj)).1]; simp)) h.base.fresh (fun _ => by simp) (fun _ => ⟨by simp, fun _ => by simp⟩)
          (fun t j hoj => by simp only [Ow.spare.injEq, not_and]; rintro rfl; simp [upd, owns] at hoj) (by simp)
      obtain ⟨hR2, hX2⟩ := hR1.frzR (b := b) (s := off + xs.length * i.size) (n := news.length) (tag := .spare s 0) (fun j hj => (hspare j (hin j hj)).1) ⟨s, 0, rfl, by simp [upd, owns]⟩
      have hX1 := Ext.setCells g w b (off + xs.length * i.size) news (fun j hj => by rw [(hspare j (hin j hj)).1]; simp)
      have hE' : RepE (g.frozeR (w.setCells b (off + xs.length * i.size) news) b (off + xs.length * i.size) news.length) i.size (xs ++ ys) b off := by
        refine (hE.mono (hX1.trans hX2).le).append (RepE.fresh (hX1.trans hX2).le news _ n4 n2 (fun j u hj => ?_))
        have hlt : j < news.length := (List.getElem?_eq_some_iff.1 hj).1
        have := ce_setCells_in w b _ news hce hlt
        simp only [Gh.frozeR]
        rw [if_pos ⟨trivial, by omega, by omega⟩, this, ← hj, List.getElem?_eq_getElem hlt]
      have hspare' : Spare (g.frozeR (w.setCells b (off + xs.length * i.size) news) b (off + xs.length * i.size) news.length) (w.setCells b (off + xs.length * i.size) news) (.spare s 0) i.size (.slice (some ⟨b, off, none⟩) (xs.length + ys.length) cap) := by
        intro ad len cap' hu
        cases hu
        refine ⟨rfl, hroom, fun k hk => ?_⟩
        have e1 : off + (xs.length + ys.length) * i.size + k = off + xs.length * i.size + (news.length + k) := by rw [n1, Nat.add_mul]; omega
        have hk2 : news.length + k < (cap - xs.length) * i.size := by
          rw [n1, show cap - xs.length = ys.length + (cap - (xs.length + ys.length)) by omega, Nat.add_mul]; omega
        obtain ⟨p1, p2, p3⟩ := hspare _ hk2
        simp only [e1]
        refine ⟨?_, ?_, ?_⟩
        · simp only [Gh.frozeR]; rw [if_neg (by omega)]; exact p1
        · rw [ce_setCells_out w b _ news (fun _ => by omega)]; exact p2
        · rw [fz_setCells]; exact p3
      cases d with
      | none => exact ⟨_, _, _, lam, .inl (hexec (by rw [hue]; exact hrun)), hR2, hX1.trans hX2⟩
      | some d =>
        have hR3 := (hR2.junk d).retag (mvTag_fix s d) (fun t j hoj => by
            by_cases e1 : t = d
            · subst e1; simp [upd, owns] at hoj
            · by_cases e2 : t = s
              · subst e2; simp [upd, owns, e1] at hoj
              · simp [mvTag, e1, e2]) (fun t cs j sz xs _ _ _ => rfl)
        have hR4 := hR3.put (some d) (fun t e => hd t e) (v := .list i.size (xs ++ ys) true) (u := .slice (some ⟨b, off, none⟩) (xs.length + ys.length) cap)
          (Rep.srep (by
            have := Rep.list (g := (g.frozeR (w.setCells b (off + xs.length * i.size) news) b (off + xs.length * i.size) news.length).retag (mvTag s d)) (o := true) (a := ⟨b, off, none⟩) (cap := cap) (fun _ => rfl) (by simpa using hroom) (fun _ e => by simp [hyn] at e) (hE'.mono (Gh.retag_le _ _))
            simpa using this)) (fun t e => by cases e; exact fun _ => hspare'.retag (by simp [mvTag])) (fun t o e => by cases e)
        refine ⟨_, _, _, lam, .inl (hexec (by rw [hue]; exact hrun)), ?_, (hX1.trans hX2).trans (Ext.retag _ _ (mvTag_fix s d))⟩
        have he : (({ ({ F with tm := upd F.tm s .junk } : Fr) with tm := upd (upd F.tm s .junk) d .junk } : Fr).put (some d) (.list i.size (xs ++ ys) true)) = ({ F with tm := upd F.tm s .junk } : Fr).put (some d) (.list i.size (xs ++ ys) true) := by
          simp only [Fr.put, Fr.mk.injEq, and_true]
          funext j
          simp only [upd]
          split <;> rfl
        rw [← he]; exact hR4
    · refine hnew (olds := olds) (grownCap w (xs.length + ys.length) cap e) o2' o4 (grownCap_ge w _ cap e) (hexec ?_)
      have hr := run_append_grow (P := P) w t o.type e i z h1 h2 k2 ⟨b, off, none⟩ xs.length cap olds o1 hoc ⟨b2, o2, none⟩ ys.length c2 news n1 hnc (by omega) (by omega) (growslice_fits (by omega) hfitb)
      rw [hue, hr]
end Go.Iv
