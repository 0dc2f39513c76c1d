/- Single operations, sixth part: boxes, slice literals, function values. No conditions. -/
import Derived.Test.YtpgojhgfhhgomaaIvOpd
namespace Go.Iv
set_option linter.unusedVariables false
set_option linter.unusedSimpArgs false
variable {P : Program} {CR : Nat → Code → IC → Prop} {N : Nat} {g g' : Gh} {lam : Nat → Option Nat} {F : Fr} {H : Hp} {a : Act} {w w' : World}

theorem ce_new (w : World) (c : Array Value) (e : TypeId) (j : Nat) : ce (w.alloc (.cells c e)) w.heap.size j = c[j]? := by
  unfold ce World.cell?
  simp only [heap_alloc_new]
  simp
theorem fz_new (w : World) (c : Array Value) (e : TypeId) (j : Nat) : fz (w.alloc (.cells c e)) w.heap.size j = false := by
  unfold fz World.frozen?
  simp only [heap_alloc_new]
  simp
def noOwn (cs : List V) : Prop := ∀ c ∈ cs, ∀ sz xs, c = .list sz xs true → xs = []
theorem noOwn_clr (cs : List V) : noOwn (cs.map V.clr) := by
  intro c hc sz xs e
  subst e
  obtain ⟨v, _, hv⟩ := List.mem_map.1 hc
  cases v <;> simp [V.clr] at hv
  obtain ⟨_, rfl, _, rfl⟩ := hv
  rfl
theorem noOwn_hard1 (cs : List V) : noOwn (cs.map V.hard1) := by
  intro c hc sz xs e
  subst e
  obtain ⟨v, _, hv⟩ := List.mem_map.1 hc
  cases v <;> simp [V.hard1] at hv

theorem all_one_hard1 {cs : List V} (h : cs.all V.one = true) : (cs.map V.hard1).all V.one = true := by
  simp only [List.all_map, List.all_eq_true, Function.comp] at h ⊢
  exact fun c hc => V.one_hard1 (h c hc)
theorem all_one_clr {cs : List V} (h : cs.all V.one = true) : (cs.map V.clr).all V.one = true := by
  simp only [List.all_map, List.all_eq_true, Function.comp] at h ⊢
  exact fun c hc => V.one_clr (h c hc)
/-- a new box of the frame's own -/
theorem Rel.newBox (h : Rel CR N g lam F H a w) {t : Nat} (ht : t < N) (hn : F.bx t = none) {cs : List V} {us : Array Value} (hr : RepL g cs us.toList) (ho : noOwn cs) (h1c : cs.all V.one = true) (e : TypeId) :
    ∃ g' lam', Rel CR N g' lam' ((F.box t (some cs)).put (some t) (.lptr t 0)) H (a.put (some t) (.pointer (some ⟨w.heap.size, 0, none⟩))) (w.alloc (.cells us e)) ∧ Ext g w g' (w.alloc (.cells us e)) := by
  have hle := nb_le h.base (fun _ => none) (fun _ => Ow.box t)
  have h1 := h.nb (.cells us e) (fun _ => none) (fun _ => Ow.box t) (fun j v e => by cases e)
  refine ⟨_, upd lam t (some w.heap.size), ?_, Ext.nb h.base (.cells us e) (fun _ => none) (fun _ => Ow.box t)⟩
  have hlam : ∀ {v : V} {u : Value} (s : Nat), F.tm s = v → SRep (g.nb w.heap.size (fun _ => none) fun _ => Ow.box t) lam v u → SRep (g.nb w.heap.size (fun _ => none) fun _ => Ow.box t) (upd lam t (some w.heap.size)) v u := by
    intro v u s hv hs
    cases v <;> first | exact hs | skip
    rename_i t' o
    obtain ⟨blk, k1, k2⟩ := hs
    refine ⟨blk, ?_, k2⟩
    have : t' ≠ t := fun e => h.ptr s t' o hv (e ▸ hn)
    simp [upd, this, k1]
  have h2 : Rel CR N (g.nb w.heap.size (fun _ => none) fun _ => Ow.box t) (upd lam t (some w.heap.size)) (F.box t (some cs)) H a (w.alloc (.cells us e)) := by
    refine ⟨h1.base, h1.sz, fun s => hlam s rfl (h1.slot s), h1.sown, fun t' cs' hb => ?_, fun s t' o e2 => ?_, h1.dfr, h1.dfrN⟩
    · by_cases ht' : t' = t
      · subst ht'
        simp only [Fr.box, upd, if_true, Option.some.injEq] at hb
        subst hb
        refine ⟨w.heap.size, by simp [upd], fun j c hj => ?_⟩
        obtain ⟨x, k1, k2⟩ := hr.get j c hj
        refine ⟨x, by rw [ce_new]; simpa using k1, fz_new w us e j, by simp [Gh.nb], k2.mono hle, List.all_eq_true.1 h1c c (List.mem_of_getElem? hj), fun sz xs e3 e4 => absurd (ho c (List.mem_of_getElem? hj) sz xs e3) e4⟩
      · simp only [Fr.box, upd, ht', if_false] at hb
        obtain ⟨blk, k1, k2⟩ := h1.box t' cs' hb
        exact ⟨blk, by simp [upd, ht', k1], k2⟩
    · by_cases ht' : t' = t
      · subst ht'; simp [Fr.box, upd]
      · simp only [Fr.box, upd, ht', if_false]; exact h1.ptr s t' o e2
  exact h2.put (some t) (fun t' e => by cases e; exact ht) (v := .lptr t 0) ⟨w.heap.size, by simp [upd], rfl⟩ (fun _ _ => trivial) (fun t' o e => by cases e; simp [Fr.box, upd])

/-- a new object of the heap -/
def Gh.addMu (g : Gh) (id : Nat) (x : Nat × Nat × Nat) : Gh := { g with mu := upd g.mu id (some x) }
theorem addMu_le {id : Nat} (hf : g.mu id = none) (x : Nat × Nat × Nat) : g.le (g.addMu id x) :=
  ⟨fun _ _ _ e => e, fun i y e => by
    by_cases hi : i = id
    · subst hi; rw [hf] at e; cases e
    · simpa [Gh.addMu, upd, hi] using e⟩
theorem tr_addMu {id : Nat} (hf : g.mu id = none) (x : Nat × Nat × Nat) (w : World) : Tr (fun _ => True) g w (g.addMu id x) w :=
  ⟨addMu_le hf x, fun _ _ _ _ => ⟨rfl, rfl, rfl⟩, fun _ _ e _ _ => ⟨e, rfl⟩⟩
theorem Ext.addMu {id : Nat} (hf : g.mu id = none) (x : Nat × Nat × Nat) (w : World) : Ext g w (g.addMu id x) w :=
  ⟨addMu_le hf x, Nat.le_refl _, fun b o _ h => ⟨h, rfl⟩, fun b c e f h => ⟨c, h, rfl⟩, fun b ob h _ _ => h, fun b r h => ⟨r, h⟩, ⟨rfl, rfl, fun _ => rfl⟩⟩
theorem Rel.newOb (h : Rel CR N g lam F H a w) (x : Nat × Nat × Nat) (ob : Ob) (hob : ObOk CR (g.addMu H.next x) w H.next x.1 x.2.1 x.2.2 ob) : Rel CR N (g.addMu H.next x) lam F (H.new ob) a w := by
  have hf := h.base.fresh H.next (Nat.le_refl _)
  have T := tr_addMu hf x w
  have h1 : Rel CR N (g.addMu H.next x) lam F { H with next := H.next + 1 } a w := by
    have hb : Base CR (g.addMu H.next x) { H with next := H.next + 1 } w :=
      h.base.tr T h.base.mem (fun id hid => by simp only [Gh.addMu, upd]; rw [if_neg (by simp only at hid; omega)]; exact h.base.fresh id (by simp only at hid; omega)) (fun id ob' e => .inl ⟨e, trivial⟩)
    exact ⟨hb, h.sz, fun t => (h.slot t).tr T.le, fun t => (h.sown t).tr T (fun _ _ => trivial), fun t cs e => by obtain ⟨blk, k1, k2⟩ := h.box t cs e; exact ⟨blk, k1, k2.tr T trivial (fun _ => trivial)⟩, h.ptr, h.dfr, h.dfrN⟩
  refine ⟨⟨h1.base.mem, h1.base.fresh, fun id ob' e => ?_⟩, h1.sz, h1.slot, h1.sown, h1.box, h1.ptr, h1.dfr, h1.dfrN⟩
  by_cases hi : id = H.next
  · subst hi
    simp only [Hp.new, upd, if_true, Option.some.injEq] at e
    subst e
    exact ⟨x.1, x.2.1, x.2.2, by simp [Gh.addMu, upd], hob⟩
  · simp only [Hp.new, upd, hi, if_false] at e
    exact h1.base.heap id ob' e
theorem Rel.newCells (h : Rel CR N g lam F H a w) {cs : List V} {us : Array Value} (hr : RepL g cs us.toList) (h1c : cs.all V.one = true) (e : TypeId) (d : Option Nat) (hd : ∀ t, d = some t → t < N) :
    ∃ g' lam', Rel CR N g' lam' (F.put d (.gptr H.next 0)) (H.new (.cells cs)) (a.put d (.pointer (some ⟨w.heap.size, 0, none⟩))) (w.alloc (.cells us e)) ∧ Ext g w g' (w.alloc (.cells us e)) := by
  have h1 := h.nb (.cells us e) (fun _ => none) (fun _ => Ow.heap H.next) (fun j v e => by cases e)
  have hf := h1.base.fresh H.next (Nat.le_refl _)
  have hle := addMu_le hf (w.heap.size, 0, 0)
  have h2 := h1.newOb (w.heap.size, 0, 0) (.cells cs) (fun j c hj => by
    obtain ⟨x, k1, k2⟩ := hr.get j c hj
    exact ⟨x, by simp only [Nat.zero_add]; rw [ce_new]; simpa using k1, fz_new w us e _, by simp [Gh.nb, Gh.addMu], (k2.mono (nb_le h.base _ _)).mono hle, List.all_eq_true.1 h1c c (List.mem_of_getElem? hj)⟩)
  refine ⟨_, lam, h2.put d hd (v := .gptr H.next 0) (Rep.srep ?_) (fun _ _ => trivial) (fun t o e => by cases e), (Ext.nb h.base _ _ _).trans (Ext.addMu hf _ _)⟩
  exact Rep.gptr (b := w.heap.size) (base := 0) (cap := 0) (o := 0) (by simp [Gh.addMu, upd])

theorem sim_boxL (h : Rel CR N g lam F H a w) {o : Oper} {d : Option Nat} (hd : ∀ t, d = some t → t < N) {e : TypeId} {x : Operand} {y : Rd}
    (ho : o.op = .box e x) (hr : rdB x y = true) {v : V} {F' : Fr} {H' : Hp} (hs : stepV (.boxL y) d F H = some (v, F', H')) : Sim P CR N o d v F' H' g a w := by
  simp only [stepV] at hs
  split at hs
  · rename_i t
    split at hs
    · rename_i hb
      split at hs
      · rename_i hf
        cases hs
        simp only [Bool.and_eq_true] at hf
        have hv := (val_rep h hr hf.1).cells hf.1
        obtain ⟨g', lam', h1, h2⟩ := h.newBox (hd t rfl) hb hv.clr (noOwn_clr _) (all_one_clr hf.2) e
        exact ⟨_, _, g', lam', .inl (by simp only [execOp, ho, Instr.box, newVar, newRow, Sem.run_bind, run_newObj_alloc, Result.andThen, Sem.run_pure]), h1, h2⟩
      · cases hs
    · cases hs
  · cases hs
theorem sim_allocL (h : Rel CR N g lam F H a w) {o : Oper} {d : Option Nat} (hd : ∀ t, d = some t → t < N) {e : TypeId} {zs : List V}
    (ho : o.op = .alloc e) (hz : zeroB P e zs = true) {v : V} {F' : Fr} {H' : Hp} (hs : stepV (.allocL zs) d F H = some (v, F', H')) : Sim P CR N o d v F' H' g a w := by
  obtain ⟨i, z, k1, k2, k3, k4, k5, k6⟩ := zeroB_spec hz
  simp only [stepV] at hs
  split at hs
  · rename_i t
    split at hs
    · rename_i hb
      cases hs
      obtain ⟨g', lam', h1, h2⟩ := h.newBox (hd t rfl) hb (k3 g) k5 k6 e
      exact ⟨_, _, g', lam', .inl (by simp only [execOp, ho, Instr.alloc, Sem.run_bind, k4, newVar, newRow, run_newObj_alloc, Result.andThen, Sem.run_pure]), h1, h2⟩
    · cases hs
  · cases hs
theorem sim_boxG (h : Rel CR N g lam F H a w) {o : Oper} {d : Option Nat} (hd : ∀ t, d = some t → t < N) {e : TypeId} {x : Operand} {y : Rd}
    (ho : o.op = .box e x) (hr : rdB x y = true) {v : V} {F' : Fr} {H' : Hp} (hs : stepV (.boxG y) d F H = some (v, F', H')) : Sim P CR N o d v F' H' g a w := by
  simp only [stepV] at hs
  split at hs
  · rename_i hf
    cases hs
    simp only [Bool.and_eq_true] at hf
    have hv := (val_rep h hr hf.1).cells hf.1
    obtain ⟨g', lam', h1, h2⟩ := h.newCells hv.hard1 (all_one_hard1 hf.2) e d hd
    exact ⟨_, _, g', lam', .inl (by simp only [execOp, ho, Instr.box, newVar, newRow, Sem.run_bind, run_newObj_alloc, Result.andThen, Sem.run_pure]), h1, h2⟩
  · cases hs
theorem sim_allocG (h : Rel CR N g lam F H a w) {o : Oper} {d : Option Nat} (hd : ∀ t, d = some t → t < N) {e : TypeId} {zs : List V}
    (ho : o.op = .alloc e) (hz : zeroB P e zs = true) {v : V} {F' : Fr} {H' : Hp} (hs : stepV (.allocG zs) d F H = some (v, F', H')) : Sim P CR N o d v F' H' g a w := by
  obtain ⟨i, z, k1, k2, k3, k4, k5, k6⟩ := zeroB_spec hz
  simp only [stepV] at hs
  cases hs
  obtain ⟨g', lam', h1, h2⟩ := h.newCells (k3 g) k6 e d hd
  exact ⟨_, _, g', lam', .inl (by simp only [execOp, ho, Instr.alloc, Sem.run_bind, k4, newVar, newRow, run_newObj_alloc, Result.andThen, Sem.run_pure]), h1, h2⟩

/-- a row of fresh immutable cells -/
theorem RepM.fresh {g0 : Gh} (hle : g0.le g) {b : Nat} : ∀ {cs : List V} {us : List Value} (o : Nat), RepL g0 cs us → cs.all V.one = true → (∀ j u, us[j]? = some u → g.m b (o + j) = some u) → RepM g cs b o
  | _, _, o, .nil, _, _ => .nil
  | _, _, o, .cons h r, h1, hm => .cons (by simp at h1; exact h1.1) (by simpa using hm 0 _ rfl) (h.mono hle) (RepM.fresh hle (o + 1) r (by simp at h1; simpa using h1.2) (fun j u hj => by rw [← hm (j + 1) u (by simpa using hj)]; congr 1; omega))
/-- the cells of values, one behind the other -/
theorem RepE.fresh {g0 : Gh} (hle : g0.le g) {b sz : Nat} : ∀ {vs : List V} (us : List Value) (o : Nat), (∀ v ∈ vs, v.fits sz = true ∧ v.cells.all V.one = true) → RepL g0 (vs.flatMap V.cells) us → (∀ j u, us[j]? = some u → g.m b (o + j) = some u) → RepE g sz vs b o
  | [], us, o, _, _, _ => .nil
  | v :: vs, us, o, hf, hr, hm => by
    have hl := V.fits_len (hf v (by simp)).1
    simp only [List.flatMap_cons] at hr
    have h1 : RepL g0 v.cells (us.take sz) := by
      have := hr.take sz
      rwa [List.take_left' hl] at this
    have h2 : RepL g0 (vs.flatMap V.cells) (us.drop sz) := by
      have := hr.drop sz
      rwa [List.drop_left' hl] at this
    refine .cons (hf v (by simp)).1 (RepM.fresh hle o h1 (hf v (by simp)).2 (fun j u hj => ?_)) (RepE.fresh hle (us.drop sz) (o + sz) (fun v hv => hf v (by simp [hv])) h2 (fun j u hj => ?_))
    · rw [List.getElem?_take] at hj
      split at hj
      · exact hm j u hj
      · cases hj
    · rw [List.getElem?_drop] at hj
      rw [← hm (sz + j) u hj]; congr 1; omega
theorem fits_flat {sz : Nat} : ∀ {vs : List V}, (∀ v ∈ vs, v.fits sz = true) → (vs.flatMap V.cells).length = vs.length * sz
  | [], _ => by simp
  | v :: vs, h => by
    have h1 := fits_flat (vs := vs) (fun x hx => h x (List.mem_cons_of_mem _ hx))
    have h2 := V.fits_len (h v List.mem_cons_self)
    simp only [List.flatMap_cons, List.length_append, List.length_cons, h1, h2]
    rw [Nat.succ_mul]; omega

/-- the parts of a slice literal, each in its place -/
def litB : Nat → List (Nat × Operand) → List Rd → Bool
  | _, [], [] => true
  | k, (i, x) :: ps, y :: ys => (i == k) && rdB x y && litB (k + 1) ps ys
  | _, _, _ => false
theorem lit_fill (h : Rel CR N g lam F H a w) (sz : Nat) : ∀ (ps : List (Nat × Operand)) (ys : List Rd) (vs : List V) (k n : Nat) (cells : Array Value), litB k ps ys = true → valsV F sz ys = some vs → cells.size = n * sz → k + ps.length = n →
    ∃ (cells' : Array Value) (us : List Value), Instr.fill (fun i => some (i * sz, sz)) cells (ps.map fun (i, x) => (i, a.eval x)) = some cells' ∧ cells'.toList = cells.toList.take (k * sz) ++ us ∧ RepL g (vs.flatMap V.cells) us ∧ (∀ v ∈ vs, v.fits sz = true ∧ v.cells.all V.one = true) ∧ vs.length = ps.length
  | [], [], vs, k, n, cells, _, hv, hc, hn => by
    simp only [valsV, Option.some.injEq] at hv; subst hv
    refine ⟨cells, [], rfl, ?_, .nil, by simp, rfl⟩
    simp only [List.append_nil]
    rw [List.take_of_length_le]
    simp at hn ⊢; subst hn; omega
  | (i, x) :: ps, y :: ys, vs, k, n, cells, hl, hv, hc, hn => by
    simp only [litB, Bool.and_eq_true, beq_iff_eq] at hl
    obtain ⟨⟨rfl, hx⟩, hl⟩ := hl
    simp only [valsV] at hv
    split at hv
    · rename_i hf
      simp only [V.good, Bool.and_eq_true] at hf
      obtain ⟨⟨hf1', hf2'⟩, hf3'⟩ := hf
      have hf : (y.out F).free = true ∧ V.fits sz (y.out F) = true := ⟨hf1', hf2'⟩
      simp only [Option.map_eq_some_iff] at hv
      obtain ⟨vs', hv, rfl⟩ := hv
      have hr := (out_rep h hx hf.1).cells hf.1
      have hlen := V.fits_len hf.2
      have hsz : (a.eval x).cells.size = sz := by rw [← hlen, hr.length]; simp
      simp only [List.length_cons] at hn
      have hle : i * sz + sz ≤ n * sz := by
        rw [← Nat.succ_mul]; exact Nat.mul_le_mul_right _ (by omega)
      have hf1 := fill_one cells (i * sz) (a.eval x) (by rw [hsz]; omega)
      obtain ⟨cells', us, e1, e2, e3, e4, e5⟩ := lit_fill h sz ps ys vs' (i + 1) n ((a.eval x).cells.zipIdx.foldl (fun cs (z : Value × Nat) => cs.setIfInBounds (i * sz + z.2) z.1) cells) hl hv (by
          have := congrArg List.length hf1
          simp only [List.length_append, List.length_take, List.length_drop, Array.length_toList, hsz] at this
          omega) (by omega)
      refine ⟨cells', (a.eval x).cells.toList ++ us, ?_, ?_, ?_, ?_, by simp [e5]⟩
      · simp only [List.map_cons, Instr.fill]
        rw [if_neg (by simp [hsz]; omega)]
        exact e1
      · rw [e2, hf1, Nat.succ_mul]
        have hA : (cells.toList.take (i * sz) ++ (a.eval x).cells.toList).length = i * sz + sz := by
          simp only [List.length_append, List.length_take, Array.length_toList, hsz]; omega
        rw [List.take_left' hA]; simp
      · simp only [List.flatMap_cons]; exact hr.append e3
      · intro v hv2
        rcases List.mem_cons.1 hv2 with rfl | hv2
        · exact ⟨hf.2, hf3'⟩
        · exact e4 v hv2
    · cases hv
  | [], _ :: _, _, _, _, _, hl, _, _, _ => by simp [litB] at hl
  | _ :: _, [], _, _, _, _, hl, _, _, _ => by simp [litB] at hl

/-- a fresh row as an immutable list -/
theorem Rel.newList (h : Rel CR N g lam F H a w) {vs : List V} {us : List Value} {sz cap : Nat} {cells : Array Value} (e : TypeId) (hc : ∃ rest, cells.toList = us ++ rest ∧ rest.length = (cap - vs.length) * sz) (hcap : vs.length ≤ cap) (hcn : vs = [] → cap = 0)
    (hr : RepL g (vs.flatMap V.cells) us) (hf : ∀ v ∈ vs, v.fits sz = true ∧ v.cells.all V.one = true) (d : Option Nat) (hd : ∀ t, d = some t → t < N) :
    ∃ g' , Rel CR N g' lam (F.put d (.list sz vs true)) H (a.put d (.slice (some ⟨w.heap.size, 0, none⟩) vs.length cap)) (w.alloc (.cells cells e)) ∧ Ext g w g' (w.alloc (.cells cells e)) := by
  obtain ⟨rest, hc1, hc2⟩ := hc
  have hul : us.length = vs.length * sz := by rw [← hr.length, fits_flat (fun v hv => (hf v hv).1)]
  let tg : Nat → Ow := fun j => if j < us.length then .imm else match d with | some d => .spare d 0 | none => .gone
  let m1 : Nat → Option Value := fun j => us[j]?
  have hce : ∀ j, ce (w.alloc (.cells cells e)) w.heap.size j = (us ++ rest)[j]? := fun j => by rw [ce_new, ← hc1]; simp
  -- first forget what the slot owned, then lay the block
  have h0 : Rel CR N (g.nb w.heap.size m1 tg) lam F H a (w.alloc (.cells cells e)) := h.nb _ m1 tg (fun j v hj => by
    have hlt : j < us.length := (List.getElem?_eq_some_iff.1 hj).1
    exact ⟨by rw [hce, List.getElem?_append_left hlt]; exact hj, by simp [tg, hlt]⟩)
  have hle := nb_le h.base m1 tg
  have hE : RepE (g.nb w.heap.size m1 tg) sz vs w.heap.size 0 := RepE.fresh hle us 0 hf hr (fun j u hj => by simp [Gh.nb, m1, hj])
  refine ⟨_, ?_, Ext.nb h.base (.cells cells e) m1 tg⟩
  refine h0.put d hd (v := .list sz vs true) (Rep.srep (Rep.list (fun _ => rfl) hcap (fun _ => hcn) hE)) (fun t et => ?_) (fun t o e => by cases e)
  subst et
  intro _ ad len cap' hu
  cases hu
  refine ⟨rfl, hcap, fun k hk => ?_⟩
  have hk2 : us.length + k < (us ++ rest).length := by simp [hc2]; exact hk
  simp only [Nat.zero_add, ← hul]
  refine ⟨by simp [Gh.nb, tg], ?_, fz_new w cells e _⟩
  rw [hce, List.getElem?_eq_getElem hk2]; rfl
theorem Rel.forget (h : Rel CR N g lam F H a w) (d : Option Nat) : Rel CR N g lam (match d with | some d => { F with tm := upd F.tm d .junk } | none => F) H a w := by
  cases d with
  | none => exact h
  | some d => exact h.junk d
theorem sim_blist (h : Rel CR N g lam F H a w) {o : Oper} {d : Option Nat} (hd : ∀ t, d = some t → t < N) {t e : TypeId} {n : Nat} {ps : Array (Nat × Operand)} {ys : List Rd} {sz : Nat}
    (ho : o.op = .buildSlice t n ps) (h1 : P.underlying t = some (.slice e)) (hz : hasZero P e = true) (hsz : (P.info? e).map (·.size) = some sz) (hl : litB 0 ps.toList ys = true) (hn : ps.size = n) (hb : n * sz ≤ 2 ^ 24)
    {v : V} {F' : Fr} {H' : Hp} (hs : stepV (.blist sz ys) d F H = some (v, F', H')) : Sim P CR N o d v F' H' g a w := by
  simp only [stepV, Option.map_eq_some_iff, Prod.mk.injEq] at hs
  obtain ⟨vs, hv, rfl, rfl, rfl⟩ := hs
  obtain ⟨i, z, k1, k2, k3, k4⟩ := hasZero_spec hz
  have hisz : i.size = sz := by simpa [k1] using hsz
  obtain ⟨cells', us, e1, e2, e3, e4, e5⟩ := lit_fill h sz ps.toList ys vs 0 n ((Array.range (n * sz)).map (z.cells[· % z.cells.size]!)) hl hv (by simp) (by simp [hn])
  have hlen : vs.length = n := by rw [e5]; simpa using hn
  obtain ⟨g', h2, h3⟩ := h.newList (cap := n) (cells := cells') e (us := us) ⟨[], by simpa using e2, by simp [hlen]⟩ (by omega) (fun e => by rw [← hlen, e]; rfl) e3 e4 d hd
  refine ⟨_, _, g', lam, .inl ?_, h2, h3⟩
  have hmp : (Array.map (fun x : Nat × Operand => (x.1, a.eval x.2)) ps).toList = ps.toList.map fun (i, x) => (i, a.eval x) := by simp
  by_cases h0 : n * sz = 0
  · simp only [execOp, ho, Instr.buildSlice, Sem.run_bind, run_underlying h1, Result.andThen, sizeOf, typeInfo, run_program, k1, Sem.run_pure, hisz, h0]
    rw [h0] at e1
    have hr00 : ∀ f : Nat → Value, (Array.range 0).map f = #[] := fun f => Array.eq_empty_of_size_eq_zero (by simp)
    have e1' : Instr.fill (fun i => some (i * sz, sz)) #[] (ps.toList.map fun (i, x) => (i, a.eval x)) = some cells' := by rw [← hr00 (fun x => z.cells[x % z.cells.size]!)]; exact e1
    have hr0 : (Array.range 0).map (fun x => (#[] : Array Value)[x % (#[] : Array Value).size]!) = #[] := hr00 _
    simp only [gt_iff_lt, Nat.not_lt_zero, if_false, if_true, Sem.run_pure, hmp, hr0, e1', newRow, Sem.run_bind, run_newObj_alloc, Result.andThen, hlen]
  · have hg : ¬ (2 ^ 24 < n * sz) := by omega
    simp only [execOp, ho, Instr.buildSlice, Sem.run_bind, run_underlying h1, Result.andThen, sizeOf, typeInfo, run_program, k1, Sem.run_pure, hisz, gt_iff_lt, hg, if_false, h0, k4, hmp, e1, newRow, run_newObj_alloc, hlen]
end Go.Iv
