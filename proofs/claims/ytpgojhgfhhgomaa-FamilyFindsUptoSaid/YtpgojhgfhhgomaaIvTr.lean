/- What keeps the relation between the abstract machine and the model: new blocks, stores, moves of ownership. No conditions. -/
import Derived.Test.YtpgojhgfhhgomaaIvRel
import Derived.Laws.IdiomCopy
namespace Go.Iv
set_option linter.unusedVariables false
variable {CR : Nat → Code → IC → Prop} {N : Nat} {g g' : Gh} {lam : Nat → Option Nat} {F : Fr} {H : Hp} {a : Act} {w w' : World}

theorem ce_lt {w : World} {b o : Nat} (h : (ce w b o).isSome = true) : b < w.heap.size := by
  unfold ce World.cell? at h
  cases hb : w.heap[b]? with
  | none => simp [hb] at h
  | some x => exact (Array.getElem?_eq_some_iff.1 hb).1
theorem ce_isCells {w : World} {b o : Nat} (h : (ce w b o).isSome = true) : ∃ c e f, w.heap[b]? = some (Obj.cells c e f) ∧ o < c.size := by
  unfold ce World.cell? at h
  cases hb : w.heap[b]? with
  | none => simp [hb] at h
  | some x =>
    cases x <;> simp [hb] at h
    rename_i c e f
    refine ⟨c, e, f, rfl, ?_⟩
    simpa using h

/-- what is said of the cells and objects of the owners in 'live' still holds -/
structure Tr (live : Ow → Prop) (g : Gh) (w : World) (g' : Gh) (w' : World) : Prop where
  le : g.le g'
  cell : ∀ b o, live (g.own b o) → (ce w b o).isSome = true → g'.own b o = g.own b o ∧ ce w' b o = ce w b o ∧ fz w' b o = fz w b o
  objs : ∀ (b : Nat) (ob : Obj), w.heap[b]? = some ob → ob.isCells = false → live (g.own b 0) → w'.heap[b]? = some ob ∧ g'.own b 0 = g.own b 0

variable {live : Ow → Prop}

theorem Spare.tr (T : Tr live g w g' w') {tag : Ow} {sz : Nat} {u : Value} (hl : live tag) (h : Spare g w tag sz u) : Spare g' w' tag sz u := by
  intro ad len cap hu
  obtain ⟨h1, h2, h3⟩ := h ad len cap hu
  refine ⟨h1, h2, fun k hk => ?_⟩
  obtain ⟨k1, k2, k3⟩ := h3 k hk
  obtain ⟨t1, t2, t3⟩ := T.cell _ _ (by rw [k1]; exact hl) k2
  exact ⟨t1.trans k1, by rw [t2]; exact k2, t3.trans k3⟩
theorem BoxOk.tr (T : Tr live g w g' w') {t blk : Nat} {cs : List V} (hl : live (.box t)) (hs : ∀ j, live (.bspare t j)) (h : BoxOk g w t blk cs) : BoxOk g' w' t blk cs := by
  intro j c hj
  obtain ⟨u, h1, h2, h3, h4, hone, h5⟩ := h j c hj
  obtain ⟨t1, t2, t3⟩ := T.cell blk j (by rw [h3]; exact hl) (by rw [h1]; rfl)
  exact ⟨u, t2.trans h1, t3.trans h2, t1.trans h3, h4.mono T.le, hone, fun sz xs e e2 => (h5 sz xs e e2).tr T (hs j)⟩
theorem ObOk.tr (T : Tr live g w g' w') {id b base cap : Nat} {ob : Ob} (hl : live (.heap id)) (h : ObOk CR g w id b base cap ob) : ObOk CR g' w' id b base cap ob := by
  cases ob with
  | cells cs =>
    intro j c hj
    obtain ⟨u, h1, h2, h3, h4, hone⟩ := h j c hj
    obtain ⟨t1, t2, t3⟩ := T.cell b (base + j) (by rw [h3]; exact hl) (by rw [h1]; rfl)
    exact ⟨u, t2.trans h1, t3.trans h2, t1.trans h3, h4.mono T.le, hone⟩
  | arr sz xs =>
    obtain ⟨hcap, h0, h1⟩ := h
    refine ⟨hcap, fun i x hi => ?_, fun k hk => ?_⟩
    · obtain ⟨hf, h2⟩ := h0 i x hi
      refine ⟨hf, fun j c hj => ?_⟩
      obtain ⟨u, h3, h4, hone⟩ := h2 j c hj
      have hlt : i < xs.length := (List.getElem?_eq_some_iff.1 hi).1
      have hjl : j < sz := by rw [← V.fits_len hf]; exact (List.getElem?_eq_some_iff.1 hj).1
      have hk : i * sz + j < cap * sz := by
        have : (i + 1) * sz ≤ cap * sz := Nat.mul_le_mul_right _ (by omega)
        rw [Nat.add_mul] at this; omega
      have := h1 (i * sz + j) hk
      rw [← Nat.add_assoc] at this
      obtain ⟨t1, t2, t3⟩ := T.cell b (base + i * sz + j) (by rw [this.2.2]; exact hl) this.1
      exact ⟨u, t2.trans h3, h4.mono T.le, hone⟩
    · obtain ⟨h2, h3, h4⟩ := h1 k hk
      obtain ⟨t1, t2, t3⟩ := T.cell b (base + k) (by rw [h4]; exact hl) h2
      exact ⟨by rw [t2]; exact h2, t3.trans h3, t1.trans h4⟩
  | lp L =>
    obtain ⟨r, h1, h2, h3, h4, h5, h6, h7⟩ := h
    obtain ⟨t1, t2⟩ := T.objs b _ h1 rfl (by rw [h2]; exact hl)
    exact ⟨r, t1, t2.trans h2, h3, h4, h5, fun t => (h6 t).mono T.le, h7⟩
theorem SRep.tr (hle : g.le g') {v : V} {u : Value} (h : SRep g lam v u) : SRep g' lam v u := by
  cases v <;> first | exact h | exact Rep.mono hle h
/-- what a slot's value has in its hands -/
def owns (v : V) (j : Nat) : Prop :=
  match v with
  | .list _ xs true => xs ≠ [] ∧ j = 0
  | .tuple vs => ∃ sz xs, vs[j]? = some (.list sz xs true) ∧ xs ≠ []
  | _ => False
theorem SOwn.tr (T : Tr live g w g' w') {t : Nat} {v : V} {u : Value} (hl : ∀ j, owns v j → live (.spare t j)) (h : SOwn g w t v u) : SOwn g' w' t v u := by
  cases v <;> try trivial
  · rename_i sz xs own
    cases own <;> first | trivial | exact fun e => Spare.tr T (hl _ ⟨e, rfl⟩) (h e)
  · intro j sz xs hj e us x hu hx
    exact (h j sz xs hj e us x hu hx).tr T (hl _ ⟨sz, xs, hj, e⟩)

/-- the base, where objects may have gone -/
theorem Base.tr (h : Base CR g H w) (T : Tr live g w g' w') {H' : Hp} (hmem : ∀ b o v, g'.m b o = some v → ce w' b o = some v ∧ g'.own b o = .imm)
    (hmu : ∀ id, H'.next ≤ id → g'.mu id = none) (hob : ∀ id ob, H'.ob id = some ob → (H.ob id = some ob ∧ live (.heap id)) ∨ ∃ b base cap, g'.mu id = some (b, base, cap) ∧ ObOk CR g' w' id b base cap ob) : Base CR g' H' w' where
  mem := hmem
  fresh := hmu
  heap id ob ho := by
    rcases hob id ob ho with ⟨h1, h2⟩ | h1
    · obtain ⟨b, base, cap, h3, h4⟩ := h.heap id ob h1
      exact ⟨b, base, cap, T.le.mu _ _ h3, h4.tr T h2⟩
    · exact h1

theorem upd_same {α : Type} (f : Nat → α) (t : Nat) (v : α) : upd f t v t = v := by simp [upd]
theorem upd_ne {α : Type} (f : Nat → α) {t j : Nat} (v : α) (h : j ≠ t) : upd f t v j = f j := by simp [upd, h]

theorem put_tmps (a : Act) (d : Nat) (u : Value) (t : Nat) (hd : d < a.tmps.size) : (a.put (some d) u).tmps.getD t undef = if t = d then u else a.tmps.getD t undef := by
  simp only [Act.put]
  by_cases h : t = d
  · subst h; simp [Array.getD_eq_getD_getElem?, hd]
  · simp [Array.getD_eq_getD_getElem?, h, Ne.symm h]
theorem put_size (a : Act) (d : Option Nat) (u : Value) : (a.put d u).tmps.size = a.tmps.size := by
  cases d <;> simp [Act.put]
theorem put_defers (a : Act) (d : Option Nat) (u : Value) : (a.put d u).defers = a.defers := by
  cases d <;> simp [Act.put]

/-- a value into a slot -/
theorem Rel.put (h : Rel CR N g lam F H a w) (d : Option Nat) (hd : ∀ t, d = some t → t < N) {v : V} {u : Value} (hv : SRep g lam v u) (ho : ∀ t, d = some t → SOwn g w t v u)
    (hp : ∀ t o, v = .lptr t o → F.bx t ≠ none) : Rel CR N g lam (F.put d v) H (a.put d u) w := by
  cases d with
  | none => exact h
  | some d =>
    have hlt : d < a.tmps.size := by rw [h.sz]; exact hd d rfl
    refine ⟨h.base, by rw [put_size]; exact h.sz, fun t => ?_, fun t => ?_, h.box, fun t t' o e => ?_, by rw [put_defers]; exact h.dfr, by rw [put_defers]; exact h.dfrN⟩
    · rw [put_tmps a d u t hlt]
      by_cases ht : t = d
      · subst ht; simpa [Fr.put, upd] using hv
      · simpa [Fr.put, upd, ht] using h.slot t
    · rw [put_tmps a d u t hlt]
      by_cases ht : t = d
      · subst ht; simpa [Fr.put, upd] using ho t rfl
      · simpa [Fr.put, upd, ht] using h.sown t
    · by_cases ht : t = d
      · subst ht; simp only [Fr.put, upd, if_true] at e; exact hp t' o e
      · simp only [Fr.put, upd, ht, if_false] at e; exact h.ptr t t' o e

/-- values without ownership -/
def V.plain : V → Bool
  | .list _ xs o => !o || xs.isEmpty
  | .tuple vs => vs.all fun | .list _ xs o => !o || xs.isEmpty | _ => true
  | _ => true
theorem V.plain_clr (v : V) : v.clr.plain = true := by
  cases v <;> simp [V.clr, V.plain]
  · rename_i sz xs o; cases o <;> cases xs <;> simp
  · intro x hx
    cases x <;> simp [V.clr1]
    rename_i sz xs o; cases o <;> cases xs <;> simp
theorem V.plain_hard {v : V} (h : v.plain = true) : v.hard.plain = true := by
  cases v <;> first | exact h | simp [V.hard, V.plain]
theorem SOwn.plain {t : Nat} {v : V} {u : Value} (h : v.plain = true) : SOwn g w t v u := by
  cases v <;> try trivial
  · rename_i sz xs own; cases own <;> first | trivial | (intro e; simp [V.plain] at h; exact absurd h e)
  · rename_i vs
    intro j sz xs hj e
    simp only [V.plain, List.all_eq_true] at h
    have := h _ (List.mem_of_getElem? hj)
    simp at this
    exact absurd this e

/-- what a slot held may be forgotten -/
theorem Rel.junk (h : Rel CR N g lam F H a w) (s : Nat) : Rel CR N g lam { F with tm := upd F.tm s .junk } H a w := by
  refine ⟨h.base, h.sz, fun t => ?_, fun t => ?_, h.box, fun t t' o e => ?_, h.dfr, h.dfrN⟩
  · by_cases ht : t = s
    · subst ht; simp only [upd, if_true]; exact Rep.junk _
    · simpa [upd, ht] using h.slot t
  · by_cases ht : t = s
    · subst ht; simp only [upd, if_true]; trivial
    · simpa [upd, ht] using h.sown t
  · by_cases ht : t = s
    · subst ht; simp [upd] at e
    · simp only [upd, ht, if_false] at e; exact h.ptr t t' o e

/-- names of owners may be changed, where nothing that is held bears them -/
def Gh.retag (g : Gh) (f : Ow → Ow) : Gh := { g with own := fun b o => f (g.own b o) }
theorem Gh.retag_le (g : Gh) (f : Ow → Ow) : g.le (g.retag f) := ⟨fun _ _ _ h => h, fun _ _ h => h⟩
def FixB (f : Ow → Ow) : Prop := f .imm = .imm ∧ (∀ id, f (.heap id) = .heap id) ∧ f .other = .other ∧ f .dfr = .dfr ∧ ∀ t, f (.box t) = .box t
theorem Spare.retag {f : Ow → Ow} {p : Ow} {sz : Nat} {u : Value} (h : Spare g w p sz u) {q : Ow} (hq : f p = q) : Spare (g.retag f) w q sz u := by
  intro ad len cap hu
  obtain ⟨h1, h2, h3⟩ := h ad len cap hu
  refine ⟨h1, h2, fun k hk => ?_⟩
  obtain ⟨k1, k2, k3⟩ := h3 k hk
  exact ⟨by show f (g.own _ _) = q; rw [k1]; exact hq, k2, k3⟩
theorem tr_retag (g : Gh) (w : World) (f : Ow → Ow) : Tr (fun x => f x = x) g w (g.retag f) w :=
  ⟨g.retag_le f, fun b o h _ => ⟨h, rfl, rfl⟩, fun b ob h _ hl => ⟨h, hl⟩⟩
theorem Base.retag (h : Base CR g H w) {f : Ow → Ow} (hf : FixB f) : Base CR (g.retag f) H w :=
  Base.tr h (tr_retag g w f) (fun b o v e => by obtain ⟨h1, h2⟩ := h.mem b o v e; exact ⟨h1, by show f (g.own b o) = _; rw [h2]; exact hf.1⟩) h.fresh
    (fun id ob e => .inl ⟨e, hf.2.1 id⟩)
theorem Ext.retag (g : Gh) (w : World) {f : Ow → Ow} (hf : FixB f) : Ext g w (g.retag f) w :=
  ⟨g.retag_le f, Nat.le_refl _, fun b o _ h => ⟨by show f (g.own b o) = _; rw [h]; exact hf.2.2.1, rfl⟩, fun b c e f h => ⟨c, h, rfl⟩, fun b ob h _ _ => h, fun b r h => ⟨r, h⟩, ⟨rfl, rfl, fun _ => rfl⟩⟩
theorem SOwn.retag {f : Ow → Ow} {t t' : Nat} {v : V} {u : Value} (h : SOwn g w t v u) (hf : ∀ j, owns v j → f (.spare t j) = .spare t' j) : SOwn (g.retag f) w t' v u := by
  cases v <;> try trivial
  · rename_i sz xs own
    cases own with
    | false => trivial
    | true => exact fun e => Spare.retag (h e) (hf 0 ⟨e, rfl⟩)
  · intro j sz xs hj e us x hu hx
    exact (h j sz xs hj e us x hu hx).retag (hf j ⟨sz, xs, hj, e⟩)
theorem Rel.retag (h : Rel CR N g lam F H a w) {f : Ow → Ow} (hf : FixB f) (hs : ∀ t j, owns (F.tm t) j → f (.spare t j) = .spare t j)
    (hb : ∀ t cs j sz xs, F.bx t = some cs → cs[j]? = some (.list sz xs true) → xs ≠ [] → f (.bspare t j) = .bspare t j) : Rel CR N (g.retag f) lam F H a w where
  base := h.base.retag hf
  sz := h.sz
  slot t := (h.slot t).tr (g.retag_le f)
  sown t := (h.sown t).retag (hs t)
  box t cs e := by
    obtain ⟨blk, h1, h2⟩ := h.box t cs e
    refine ⟨blk, h1, fun j c hj => ?_⟩
    obtain ⟨u, k1, k2, k3, k4, hone, k5⟩ := h2 j c hj
    exact ⟨u, k1, k2, by show f (g.own blk j) = _; rw [k3]; exact hf.2.2.2.2 t, k4.mono (g.retag_le f), hone, fun sz xs e' e2 => (k5 sz xs e' e2).retag (hb t cs j sz xs e (e' ▸ hj) e2)⟩
  ptr := h.ptr
  dfr d hd := by obtain ⟨r, h1, h2, h3⟩ := h.dfr d hd; exact ⟨r, h1, h2, by show f (g.own r 0) = _; rw [h3]; exact hf.2.2.2.1⟩
  dfrN := h.dfrN

/-- the world's heap is all that counts -/
theorem ce_heap {w w' : World} (h : w'.heap = w.heap) (b o : Nat) : ce w' b o = ce w b o := by unfold ce World.cell?; rw [h]
theorem fz_heap {w w' : World} (h : w'.heap = w.heap) (b o : Nat) : fz w' b o = fz w b o := by unfold fz World.frozen?; rw [h]
theorem tr_heap (g : Gh) (h : w'.heap = w.heap) : Tr (fun _ => True) g w g w' :=
  ⟨.refl g, fun b o _ _ => ⟨rfl, ce_heap h b o, fz_heap h b o⟩, fun b ob e _ _ => ⟨by rw [h]; exact e, rfl⟩⟩
theorem Ext.heap (g : Gh) (h : w'.heap = w.heap) (he : w'.os = w.os ∧ w'.output = w.output := by exact ⟨rfl, rfl⟩) : Ext g w g w' :=
  ⟨.refl g, by rw [h]; exact Nat.le_refl _, fun b o _ e => ⟨e, ce_heap h b o⟩, fun b c e f k => ⟨c, by rw [h]; exact k, rfl⟩, fun b ob k _ _ => by rw [h]; exact k, fun b r k => ⟨r, by rw [h]; exact k⟩, ⟨he.1, he.2, fun a => by unfold World.frozen?; rw [h]⟩⟩

/-- everything at once, where all owners live on -/
theorem Rel.tr (h : Rel CR N g lam F H a w) (T : Tr live g w g' w') (hmem : ∀ b o v, g'.m b o = some v → ce w' b o = some v ∧ g'.own b o = .imm)
    (hmu : ∀ id, H.next ≤ id → g'.mu id = none) (hh : ∀ id, live (.heap id)) (hb : ∀ t, live (.box t) ∧ ∀ j, live (.bspare t j)) (hs : ∀ t j, owns (F.tm t) j → live (.spare t j)) (hd : live .dfr) : Rel CR N g' lam F H a w' where
  base := h.base.tr T hmem hmu fun id ob e => .inl ⟨e, hh id⟩
  sz := h.sz
  slot t := (h.slot t).tr T.le
  sown t := (h.sown t).tr T (hs t)
  box t cs e := by obtain ⟨blk, h1, h2⟩ := h.box t cs e; exact ⟨blk, h1, h2.tr T (hb t).1 (hb t).2⟩
  ptr := h.ptr
  dfr d e := by
    obtain ⟨r, h1, h2, h3⟩ := h.dfr d e
    obtain ⟨t1, t2⟩ := T.objs r _ h2 rfl (by rw [h3]; exact hd)
    exact ⟨r, h1, t1, t2.trans h3⟩
  dfrN := h.dfrN
theorem Rel.heap (h : Rel CR N g lam F H a w) (e : w'.heap = w.heap) : Rel CR N g lam F H a w' :=
  h.tr (tr_heap g e) (fun b o v k => by rw [ce_heap e]; exact h.base.mem b o v k) h.base.fresh (fun _ => trivial) (fun _ => ⟨trivial, fun _ => trivial⟩) (fun _ _ _ => trivial) trivial

/-- a new block -/
def Gh.nb (g : Gh) (B : Nat) (m1 : Nat → Option Value) (tg : Nat → Ow) : Gh :=
  { g with m := fun b o => if b = B then m1 o else g.m b o, own := fun b o => if b = B then tg o else g.own b o }
theorem ce_alloc_old (w : World) (o : Obj) {b j : Nat} (h : b ≠ w.heap.size) : ce (w.alloc o) b j = ce w b j := World.cell?_alloc_old _ _ _ h
theorem heap_alloc_old (w : World) (o : Obj) {b : Nat} (h : b < w.heap.size) : (w.alloc o).heap[b]? = w.heap[b]? := by
  show (w.heap.push o)[b]? = _
  simp [Array.getElem?_push, Nat.ne_of_lt h]
theorem heap_alloc_new (w : World) (o : Obj) : (w.alloc o).heap[w.heap.size]? = some o := by
  show (w.heap.push o)[w.heap.size]? = _
  simp
theorem size_alloc (w : World) (o : Obj) : (w.alloc o).heap.size = w.heap.size + 1 := by
  show (w.heap.push o).size = _
  simp
theorem fz_alloc_old (w : World) (o : Obj) {b j : Nat} (h : b ≠ w.heap.size) : fz (w.alloc o) b j = fz w b j := by
  unfold fz World.frozen?
  rcases Nat.lt_or_ge b w.heap.size with hlt | hge
  · simp only [heap_alloc_old w o hlt]
  · have h1 : (w.alloc o).heap[b]? = none := Array.getElem?_eq_none (by rw [size_alloc]; omega)
    have h2 : w.heap[b]? = none := Array.getElem?_eq_none (by omega)
    simp [h1, h2]
theorem Base.none_new (h : Base CR g H w) {b : Nat} (hb : w.heap.size ≤ b) (o : Nat) : g.m b o = none := by
  cases e : g.m b o with
  | none => rfl
  | some v => have := ce_lt (w := w) (b := b) (o := o) (by rw [(h.mem b o v e).1]; rfl); omega
theorem nb_le (h : Base CR g H w) (m1 : Nat → Option Value) (tg : Nat → Ow) : g.le (g.nb w.heap.size m1 tg) :=
  ⟨fun b o v e => by
    have : b ≠ w.heap.size := fun hb => by rw [h.none_new (by omega) o] at e; cases e
    simp [Gh.nb, this, e], fun _ _ e => e⟩
theorem tr_nb (h : Base CR g H w) (o : Obj) (m1 : Nat → Option Value) (tg : Nat → Ow) : Tr (fun _ => True) g w (g.nb w.heap.size m1 tg) (w.alloc o) where
  le := nb_le h m1 tg
  cell b j _ hs := by
    have hlt := ce_lt hs
    have hne : b ≠ w.heap.size := by omega
    exact ⟨by simp [Gh.nb, hne], ce_alloc_old w o hne, fz_alloc_old w o hne⟩
  objs b ob e _ _ := by
    have hlt : b < w.heap.size := (Array.getElem?_eq_some_iff.1 e).1
    exact ⟨by rw [heap_alloc_old w o hlt]; exact e, by simp [Gh.nb, Nat.ne_of_lt hlt]⟩
theorem mem_nb (h : Base CR g H w) (o : Obj) (m1 : Nat → Option Value) (tg : Nat → Ow) (hm : ∀ j v, m1 j = some v → ce (w.alloc o) w.heap.size j = some v ∧ tg j = .imm) :
    ∀ b j v, (g.nb w.heap.size m1 tg).m b j = some v → ce (w.alloc o) b j = some v ∧ (g.nb w.heap.size m1 tg).own b j = .imm := by
  intro b j v e
  by_cases hb : b = w.heap.size
  · subst hb; simp only [Gh.nb, if_true] at e ⊢; exact hm j v e
  · simp only [Gh.nb, hb, if_false] at e ⊢; rw [ce_alloc_old w o hb]; exact h.mem b j v e
theorem Rel.nb (h : Rel CR N g lam F H a w) (o : Obj) (m1 : Nat → Option Value) (tg : Nat → Ow) (hm : ∀ j v, m1 j = some v → ce (w.alloc o) w.heap.size j = some v ∧ tg j = .imm) :
    Rel CR N (g.nb w.heap.size m1 tg) lam F H a (w.alloc o) :=
  h.tr (tr_nb h.base o m1 tg) (mem_nb h.base o m1 tg hm) h.base.fresh (fun _ => trivial) (fun _ => ⟨trivial, fun _ => trivial⟩) (fun _ _ _ => trivial) trivial
theorem frz_alloc_cells (w : World) (c : Array Value) (t : TypeId) (a : Addr) : (w.alloc (.cells c t)).frozen? a = w.frozen? a := by
  by_cases h : a.block = w.heap.size
  · have e1 := heap_alloc_new w (.cells c t)
    have e2 : w.heap[a.block]? = none := by rw [h]; simp
    rw [← h] at e1
    simp [World.frozen?, e1, e2]
  · exact World.frozen?_alloc_old _ _ _ h
theorem frz_alloc_obj (w : World) (o : Obj) (ho : o.isCells = false) (a : Addr) : (w.alloc o).frozen? a = w.frozen? a := by
  by_cases h : a.block = w.heap.size
  · have e1 := heap_alloc_new w o
    have e2 : w.heap[a.block]? = none := by rw [h]; simp
    rw [← h] at e1
    simp only [World.frozen?, e1, e2]
    cases o <;> first | rfl | cases ho
  · exact World.frozen?_alloc_old _ _ _ h
theorem Ext.nb (h : Base CR g H w) (o : Obj) (m1 : Nat → Option Value) (tg : Nat → Ow) (hfz : ∀ a, (w.alloc o).frozen? a = w.frozen? a := by first | exact fun a => frz_alloc_cells _ _ _ a | exact fun a => frz_alloc_obj _ _ rfl a) : Ext g w (g.nb w.heap.size m1 tg) (w.alloc o) where
  le := nb_le h m1 tg
  size := by rw [size_alloc]; omega
  other b j hb ho := ⟨by simp [Gh.nb, Nat.ne_of_lt hb, ho], ce_alloc_old w o (by omega)⟩
  cells b c e f hc := ⟨c, by rw [heap_alloc_old w o (Array.getElem?_eq_some_iff.1 hc).1]; exact hc, rfl⟩
  objs b ob hb _ _ := by rw [heap_alloc_old w o (Array.getElem?_eq_some_iff.1 hb).1]; exact hb
  loops b r hb := ⟨r, by rw [heap_alloc_old w o (Array.getElem?_eq_some_iff.1 hb).1]; exact hb⟩
  env := ⟨rfl, rfl, hfz⟩

/-- cells of one block are set -/
theorem ce_setCells_out (w : World) (b o : Nat) (vs : List Value) {b' j : Nat} (h : b' = b → j < o ∨ o + vs.length ≤ j) : ce (w.setCells b o vs) b' j = ce w b' j :=
  World.cell?_setCells_out b vs o w _ (fun e _ => h e)
theorem ce_setCells_in (w : World) (b o : Nat) (vs : List Value) (h : ∀ j, j < vs.length → (ce w b (o + j)).isSome = true) {j : Nat} (hj : j < vs.length) : ce (w.setCells b o vs) b (o + j) = some vs[j] :=
  World.cell?_setCells_in b vs o w h j hj
theorem fz_setCells (w : World) (b o : Nat) (vs : List Value) (b' j : Nat) : fz (w.setCells b o vs) b' j = fz w b' j := World.frozen?_setCells b vs o w _
theorem heap_setCell (w : World) (ad : Addr) (v : Value) (b : Nat) : (∀ (ob : Obj), w.heap[b]? = some ob → ob.isCells = false → (w.setCell ad v).heap[b]? = some ob) ∧
    (∀ (c : Array Value) (e : TypeId) (f : Nat × Nat), w.heap[b]? = some (Obj.cells c e f) → ∃ c' : Array Value, (w.setCell ad v).heap[b]? = some (Obj.cells c' e f) ∧ c'.size = c.size) := by
  unfold World.setCell
  simp only [Array.getElem?_modify]
  refine ⟨fun ob h hn => ?_, fun c e f h => ?_⟩
  · by_cases hb : ad.block = b
    · simp only [hb, if_true, h, Option.map_some]; cases ob <;> simp_all [Obj.isCells]
    · simp [hb, h]
  · by_cases hb : ad.block = b
    · simp only [hb, if_true, h, Option.map_some]
      by_cases hs : ad.spot.isSome = true
      · exact ⟨c, by simp [hs], rfl⟩
      · exact ⟨c.setIfInBounds ad.off v, by simp [hs], by simp⟩
    · exact ⟨c, by simp [hb, h], rfl⟩
theorem heap_setCells (b' : Nat) (b : Nat) : ∀ (vs : List Value) (o : Nat) (w : World), (∀ (ob : Obj), w.heap[b]? = some ob → ob.isCells = false → (w.setCells b' o vs).heap[b]? = some ob) ∧
    (∀ (c : Array Value) (e : TypeId) (f : Nat × Nat), w.heap[b]? = some (Obj.cells c e f) → ∃ c' : Array Value, (w.setCells b' o vs).heap[b]? = some (Obj.cells c' e f) ∧ c'.size = c.size)
  | [], _, w => ⟨fun ob h _ => h, fun c e f h => ⟨c, h, rfl⟩⟩
  | v :: r, o, w => by
    have h1 := heap_setCell w ⟨b', o, none⟩ v b
    have h2 := heap_setCells b' b r (o + 1) (w.setCell ⟨b', o, none⟩ v)
    refine ⟨fun ob h hn => h2.1 ob (h1.1 ob h hn) hn, fun c e f h => ?_⟩
    obtain ⟨c', h3, h4⟩ := h1.2 c e f h
    obtain ⟨c'', h5, h6⟩ := h2.2 c' e f h3
    exact ⟨c'', h5, by omega⟩
theorem env_setCells (b : Nat) : ∀ (vs : List Value) (o : Nat) (w : World), (w.setCells b o vs).os = w.os ∧ (w.setCells b o vs).output = w.output
  | [], _, _ => ⟨rfl, rfl⟩
  | v :: r, o, w => by rw [World.setCells]; exact env_setCells b r (o + 1) (w.setCell ⟨b, o, none⟩ v)
theorem size_setCells (b : Nat) : ∀ (vs : List Value) (o : Nat) (w : World), (w.setCells b o vs).heap.size = w.heap.size
  | [], _, _ => rfl
  | v :: r, o, w => by rw [World.setCells, size_setCells b r]; simp [World.setCell]
/-- only the owner of the cells that are set is touched -/
theorem tr_setCells (g : Gh) (w : World) (b o : Nat) (vs : List Value) (P : Ow → Prop) (hp : ∀ j, j < vs.length → P (g.own b (o + j))) : Tr (fun x => ¬ P x) g w g (w.setCells b o vs) where
  le := .refl g
  cell b' j hl _ := by
    refine ⟨rfl, ce_setCells_out w b o vs (fun e => ?_), fz_setCells w b o vs b' j⟩
    subst e
    refine Decidable.byContradiction fun hn => hl ?_
    have := hp (j - o) (by omega)
    rwa [show o + (j - o) = j by omega] at this
  objs b' ob e hn _ := ⟨(heap_setCells b b' vs o w).1 ob e hn, rfl⟩
theorem mem_setCells (h : Base CR g H w) (b o : Nat) (vs : List Value) (hp : ∀ j, j < vs.length → g.own b (o + j) ≠ .imm) :
    ∀ b' j v, g.m b' j = some v → ce (w.setCells b o vs) b' j = some v ∧ g.own b' j = .imm := by
  intro b' j v e
  obtain ⟨h1, h2⟩ := h.mem b' j v e
  refine ⟨?_, h2⟩
  rw [ce_setCells_out w b o vs (fun eb => ?_)]
  · exact h1
  · subst eb
    refine Decidable.byContradiction fun hn => ?_
    have := hp (j - o) (by omega)
    rw [show o + (j - o) = j by omega] at this
    exact this h2
theorem Ext.setCells (g : Gh) (w : World) (b o : Nat) (vs : List Value) (hp : ∀ j, j < vs.length → g.own b (o + j) ≠ .other) : Ext g w g (w.setCells b o vs) where
  le := .refl g
  size := by rw [size_setCells]; exact Nat.le_refl _
  other b' j _ ho := ⟨ho, ce_setCells_out w b o vs (fun eb => by
    subst eb
    refine Decidable.byContradiction fun hn => ?_
    have := hp (j - o) (by omega)
    rw [show o + (j - o) = j by omega] at this
    exact this ho)⟩
  cells b' c e f hc := (heap_setCells b b' vs o w).2 c e f hc
  objs b' ob hb hn _ := (heap_setCells b b' vs o w).1 ob hb hn
  loops b' r hb := ⟨r, (heap_setCells b b' vs o w).1 _ hb rfl⟩
  env := ⟨(env_setCells b vs o w).1, (env_setCells b vs o w).2, fun a => World.frozen?_setCells b vs o w a⟩
end Go.Iv
