/- Single operations: slices as arrays of the heap, made and lengthened. No conditions. -/
import Derived.Test.YtpgojhgfhhgomaaIvOph
import Derived.Laws.MakeOwn
namespace Go.Iv
set_option linter.unusedVariables false
set_option linter.unusedSimpArgs false
variable {P : Program} {CR : Nat → Code → IC → Prop} {N : Nat} {g g' : Gh} {lam : Nat → Option Nat} {F : Fr} {H : Hp} {a : Act} {w w' : World}

theorem flat_get {sz : Nat} : ∀ (vs : List V), (∀ v ∈ vs, v.fits sz = true) → ∀ (i : Nat) (x : V), vs[i]? = some x → ∀ (j : Nat) (c : V), x.cells[j]? = some c → (vs.flatMap V.cells)[i * sz + j]? = some c
  | [], _, i, x, h, _, _, _ => by simp at h
  | v :: vs, hf, 0, x, h, j, c, hj => by
    simp at h; subst h
    rw [List.flatMap_cons, Nat.zero_mul, Nat.zero_add, List.getElem?_append_left (List.getElem?_eq_some_iff.1 hj).1]
    exact hj
  | v :: vs, hf, i + 1, x, h, j, c, hj => by
    have ih := flat_get vs (fun v hv => hf v (by simp [hv])) i x (by simpa using h) j c hj
    have hl := V.fits_len (hf v (by simp))
    rw [List.flatMap_cons, List.getElem?_append_right (by rw [hl, Nat.add_mul]; omega), ← ih]
    congr 1
    rw [hl, Nat.add_mul]; omega
theorem Row.append {cs cs' : List V} {b o : Nat} (h : Row g w cs b o) (h' : Row g w cs' b (o + cs.length)) : Row g w (cs ++ cs') b o := fun j c hj => by
  rw [List.getElem?_append] at hj
  split at hj
  · exact h j c hj
  · obtain ⟨u, k1, k2⟩ := h' _ c hj
    exact ⟨u, by rw [← k1]; congr 1; omega, k2⟩
theorem rows_flat {sz b : Nat} : ∀ (xs : List V) (o : Nat), (∀ (i : Nat) (x : V), xs[i]? = some x → x.fits sz = true ∧ Row g w x.cells b (o + i * sz)) → Row g w (xs.flatMap V.cells) b o
  | [], o, _ => fun j c hj => by simp at hj
  | x :: xs, o, h => by
    obtain ⟨f, h0⟩ := h 0 x rfl
    rw [List.flatMap_cons]
    refine Row.append (by simpa using h0) (rows_flat (sz := sz) xs _ (fun i y hi => ?_))
    obtain ⟨k1, k2⟩ := h (i + 1) y (by simpa using hi)
    refine ⟨k1, ?_⟩
    rw [V.fits_len f]
    rw [show o + sz + i * sz = o + (i + 1) * sz by rw [Nat.add_mul]; omega]
    exact k2

/-- a new array -/
theorem Rel.newArr (h : Rel CR N g lam F H a w) {vs : List V} {us : List Value} {sz cap : Nat} {cells : Array Value} (e : TypeId) (hc : ∃ rest, cells.toList = us ++ rest ∧ rest.length = (cap - vs.length) * sz) (hle : vs.length ≤ cap)
    (hr : RepL g (vs.flatMap V.cells) us) (hf : ∀ v ∈ vs, v.fits sz = true ∧ v.cells.all V.one = true) (d : Option Nat) (hd : ∀ t, d = some t → t < N) :
    ∃ g', Rel CR N g' lam (F.put d (.hs sz H.next 0 vs.length)) (H.new (.arr sz vs)) (a.put d (.slice (some ⟨w.heap.size, 0, none⟩) vs.length cap)) (w.alloc (.cells cells e)) ∧ Ext g w g' (w.alloc (.cells cells e)) := by
  have h1 := h.nb (.cells cells e) (fun _ => none) (fun _ => Ow.heap H.next) (fun j v e => by cases e)
  have hfr := h1.base.fresh H.next (Nat.le_refl _)
  have hle1 := nb_le h.base (fun _ => none) (fun _ => Ow.heap H.next)
  have hle2 := addMu_le hfr (w.heap.size, 0, cap)
  obtain ⟨rest, c1, c2⟩ := hc
  have hfl : us.length = vs.length * sz := by rw [← hr.length]; exact fits_flat (fun v hv => (hf v hv).1)
  have hcs : cells.size = cap * sz := by
    have : cells.toList.length = us.length + rest.length := by rw [c1]; simp
    rw [Array.length_toList] at this
    rw [this, hfl, c2, ← Nat.add_mul]; congr 1; omega
  have h2 := h1.newOb (w.heap.size, 0, cap) (.arr sz vs) ⟨hle, fun i x hi => ⟨(hf x (List.mem_of_getElem? hi)).1, fun j c hj => by
      have hg := flat_get vs (fun v hv => (hf v hv).1) i x hi j c hj
      obtain ⟨u, k1, k2⟩ := hr.get _ c hg
      refine ⟨u, ?_, (k2.mono hle1).mono hle2, List.all_eq_true.1 (hf x (List.mem_of_getElem? hi)).2 c (List.mem_of_getElem? hj)⟩
      simp only [Nat.zero_add]
      rw [ce_new, ← Array.getElem?_toList, c1, List.getElem?_append_left (List.getElem?_eq_some_iff.1 k1).1, k1]⟩, fun k hk => by
      simp only [Nat.zero_add]
      refine ⟨by rw [ce_new]; simp [hcs, hk], fz_new w cells e _, by simp [Gh.nb, Gh.addMu]⟩⟩
  have hle : g.le _ := hle1.trans hle2
  refine ⟨_, h2.put d hd (v := .hs sz H.next 0 vs.length) (Rep.srep ?_) (fun _ _ => trivial) (fun t o e => by cases e), (Ext.nb h.base _ _ _).trans (Ext.addMu hfr _ _)⟩
  have := Rep.hs (g := (g.nb w.heap.size (fun _ => none) (fun _ => Ow.heap H.next)).addMu H.next (w.heap.size, 0, cap)) (sz := sz) (id := H.next) (off := 0) (len := vs.length) (b := w.heap.size) (base := 0) (cap := cap) (by simp [Gh.addMu, upd]) (by omega)
  simpa using this

theorem sim_mks (h : Rel CR N g lam F H a w) {o : Oper} {d : Option Nat} (hd : ∀ t, d = some t → t < N) {t e : TypeId} {x : Operand} {x' : Rd} {i : TypeInfo} {sz : Nat} {zs : List V}
    (ho : o.op = .makeSlice t x x) (h1 : P.underlying t = some (.slice e)) (h2 : P.info? e = some i) (h3 : i.size = sz) (hbt : i.bytes ≤ 32768) (hz : zeroB P e zs = true)
    (hx : rdB x x' = true) {v : V} {F' : Fr} {H' : Hp} (hs : stepV (.mks sz zs x') d F H = some (v, F', H')) : Sim P CR N o d v F' H' g a w := by
  subst h3
  simp only [stepV, Option.bind_eq_some_iff] at hs
  obtain ⟨k, hk, hs⟩ := hs
  split at hs
  case isFalse => cases hs
  rename_i hc
  cases hs
  obtain ⟨hlim, hzl⟩ := hc
  have hlim : k ≤ 4294967296 := hlim
  obtain ⟨kk, n, hxe, hn0, hnk⟩ := rd_idx h hx hk
  unfold zeroB at hz
  rw [h2] at hz
  simp only [Option.any_some] at hz
  cases hzo : i.zero with
  | none => rw [hzo] at hz; simp at hz
  | some z =>
  rw [hzo] at hz
  simp only [Option.any_some] at hz
  have hrz : RepL g zs z.cells.toList := scsB_rep hz
  have hzc : z.cells.size = i.size := by rw [← hzl, hrz.length]; simp
  have hb : (i.bytes : Int) * n ≤ 281474976710656 := by
    have h5 : (i.bytes : Int) ≤ 32768 := by omega
    have h6 : n ≤ 4294967296 := by omega
    have : (i.bytes : Int) * n ≤ 32768 * 4294967296 := Int.mul_le_mul h5 h6 hn0 (by omega)
    omega
  have hrun := run_make (P := P) w t e i z h1 h2 hzo kk kk n n hn0 (Int.le_refl _) hb (by omega)
  obtain ⟨y, hy⟩ : ∃ y, elemOf zs = y := ⟨_, rfl⟩
  rw [hy]
  have h1one : ∀ z1, zs = [z1] → z1.one = true := fun z1 e => by
    have := scsB_one hz
    rw [e] at this
    simpa using this
  have hyc : y.cells = zs := by
    rw [← hy]
    unfold elemOf
    split
    · rename_i z1
      have := h1one z1 rfl
      cases z1 <;> first | rfl | cases this
    · rfl
  have hyf : y.fits i.size = true := by
    rw [← hy]
    unfold elemOf
    split
    · rename_i z1
      have := h1one z1 rfl
      simp at hzl
      cases z1 <;> first | (simp [V.fits, ← hzl]; done) | cases this
    · simp [V.fits, hzl]
  have hfl : ∀ (k : Nat), RepL g ((List.replicate k y).flatMap V.cells) ((List.range (k * i.size)).map (z.cells[· % z.cells.size]!)) := by
    intro k
    induction k with
    | zero => simp; exact .nil
    | succ k ih =>
      rw [List.replicate_succ', List.flatMap_append, Nat.add_mul, Nat.one_mul, List.range_add, List.map_append]
      refine ih.append ?_
      have : ((List.range i.size).map (k * i.size + ·)).map (z.cells[· % z.cells.size]!) = z.cells.toList := by
        apply List.ext_getElem?
        intro j
        simp only [List.map_map, List.getElem?_map, Function.comp, hzc]
        by_cases hj : j < i.size
        · rw [List.getElem?_range hj]
          have em : (k * i.size + j) % i.size = j := by rw [Nat.mul_comm, Nat.mul_add_mod, Nat.mod_eq_of_lt hj]
          simp only [Option.map_some, Function.comp, em]
          simp [hzc, hj]
        · rw [List.getElem?_eq_none (by simp; omega), List.getElem?_eq_none (by simp; omega)]; rfl
      rw [this]
      simpa [hyc] using hrz
  obtain ⟨g1, r1, r2⟩ := h.newArr (vs := List.replicate k y) (us := (List.range (k * i.size)).map (z.cells[· % z.cells.size]!)) (sz := i.size) (cap := k) (cells := madeCells z.cells (k * i.size)) e
    ⟨[], by simp [madeCells], by simp⟩ (by simp) (hfl k) (fun v hv => by
      rw [List.eq_of_mem_replicate hv, hyc]
      exact ⟨hyf, scsB_one hz⟩) d hd
  rw [hnk] at hrun
  refine ⟨_, _, g1, lam, .inl ?_, by simpa using r1, r2⟩
  simp [execOp, ho, Sem.run_bind, hxe, hrun]

theorem sim_appA (h : Rel CR N g lam F H a w) {o : Oper} {d : Option Nat} (hd : ∀ t, d = some t → t < N) {t e : TypeId} {x y : Operand} {x' y' : Rd} {i : TypeInfo} {sz : Nat}
    (ho : o.op = .call { callee := .builtin .append, args := #[x, y], argTypes := #[t, t] }) (h1 : P.underlying t = some (.slice e)) (h2 : P.info? e = some i) (h3 : i.size = sz) (hbt : i.bytes ≤ 32768) (hz : hasZero P e = true)
    (hx : rdB x x' = true) (hy : rdB y y' = true) {v : V} {F' : Fr} {H' : Hp} (hs : stepV (.app sz true x' y') d F H = some (v, F', H')) : Sim P CR N o d v F' H' g a w := by
  have hexec : ∀ {u : Value} {w' : World}, (Builtin.append_ #[t, t] o.type #[a.eval x, a.eval y]).run P w = .ok u w' → (execOp a.eval o).run P w = .ok (.value u) w' := by
    intro u w' e
    simp [execOp, ho, resolve, Sem.run_bind, invoke, builtin, e]
  obtain ⟨i', z, k1, k2, k3, k4⟩ := hasZero_spec hz
  rw [h2] at k1; cases k1
  subst h3
  have hzs : z.cells.size = i.size := k3
  simp only [stepV] at hs
  split at hs
  case h_2 => cases hs
  rename_i s
  have hxs : x = .tmp s := by
    cases x <;> simp [rdB] at hx
    subst hx; rfl
  subst hxs
  have hxe : a.eval (.tmp s) = a.tmps.getD s undef := rfl
  rw [hxe] at hexec
  have hrs := h.slot s
  -- what is appended
  have hnewsOf : ∀ {s2 : Nat} {ys : List V} {oy : Bool}, y'.get F = .list s2 ys oy → s2 = i.size → ys ≠ [] → ∃ (b2 o2 c2 : Nat) (news : List Value), a.eval y = .slice (some ⟨b2, o2, none⟩) ys.length c2 ∧ news.length = ys.length * i.size ∧ RepL g (ys.flatMap V.cells) news ∧
      (∀ j u, news[j]? = some u → w.cell? ((⟨b2, o2, none⟩ : Addr).add j) = some u) ∧ (∀ u ∈ news, u.oneCell' = true) ∧ (∀ v ∈ ys, v.fits i.size = true ∧ v.cells.all V.one = true) := by
    intro s2 ys oy hgy e2 hyn
    subst e2
    have hry := rd_rep h hy hgy (by intro t o e; cases e)
    obtain ⟨ad2, c2, hue, hsp2, hE2⟩ : ∃ ad2 c2, a.eval y = .slice (some ad2) ys.length c2 ∧ ad2.spot = none ∧ RepE g i.size ys ad2.block ad2.off := by
      generalize a.eval y = uy at hry
      cases hry with
      | nil => exact absurd rfl hyn
      | list hsp hle hcn hE => exact ⟨_, _, rfl, hsp hyn, hE⟩
    obtain ⟨b2, o2, sp2⟩ := ad2
    simp only at hsp2 hE2
    subst hsp2
    obtain ⟨news, n1, n2, n3, n4⟩ := hE2.vals
    refine ⟨b2, o2, c2, news, hue, n1, n2, fun j u hj => by rw [addr_add]; exact (h.base.mem _ _ _ (n3 j u hj)).1, n2.oneCells (List.all_eq_true.2 fun c hc => ?_), n4⟩
    obtain ⟨v, hv, hcv⟩ := List.mem_flatMap.1 hc
    exact List.all_eq_true.1 (n4 v hv).2 c hcv
  -- in a block of its own
  have hnew : ∀ {F1 : Fr} {H1 : Hp} {xs ys : List V} {olds news : List Value} (newCap : Nat), Rel CR N g lam F1 H1 a w → RepL g (xs.flatMap V.cells) olds → RepL g (ys.flatMap V.cells) news → (∀ v ∈ xs, v.fits i.size = true ∧ v.cells.all V.one = true) → (∀ v ∈ ys, v.fits i.size = true ∧ v.cells.all V.one = true) → xs.length + ys.length ≤ newCap →
      (execOp a.eval o).run P w = .ok (.value (.slice (some ⟨w.heap.size, 0, none⟩) (xs.length + ys.length) newCap)) (w.drew.alloc (.cells (olds.toArray ++ news.toArray ++ Builtin.zeroCells z.cells (newCap - (xs.length + ys.length))) e)) →
      Sim P CR N o d (.hs i.size H1.next 0 (xs.length + ys.length)) F1 (H1.new (.arr i.size (xs ++ ys))) g a w := by
    intro F1 H1 xs ys olds news newCap hR hol hnl hof hnf hle hrun
    have hw : Rel CR N g lam F1 H1 a w.drew := hR.heap rfl
    obtain ⟨g1, r1, r2⟩ := hw.newArr (vs := xs ++ ys) (us := olds ++ news) (sz := i.size) (cap := newCap) (cells := olds.toArray ++ news.toArray ++ Builtin.zeroCells z.cells (newCap - (xs.length + ys.length))) e
      ⟨(Builtin.zeroCells z.cells (newCap - (xs.length + ys.length))).toList, by simp, by simp [size_zeroCells, hzs]⟩ (by simpa using hle) (by simpa using hol.append hnl)
      (fun v hv => by rcases List.mem_append.1 hv with hv | hv; exact hof v hv; exact hnf v hv) d hd
    refine ⟨_, _, g1, lam, .inl hrun, ?_, (Ext.heap (w := w) (w' := w.drew) g rfl).trans r2⟩
    rw [List.length_append] at r1
    exact r1
  split at hs
  · -- the first of all
    rename_i s1 xs s2 ys oy hgx hgy
    split at hs
    case isFalse => cases hs
    rename_i hc
    obtain ⟨rfl, rfl, hlim⟩ := hc
    simp only [if_true] at hs
    split at hs
    case isFalse => cases hs
    rename_i hemp
    simp only [Bool.and_eq_true, List.isEmpty_iff, Bool.not_eq_true'] at hemp
    obtain ⟨rfl, hyn⟩ := hemp
    have hyn : ys ≠ [] := fun e => by rw [e] at hyn; simp at hyn
    cases hs
    have hlim : 0 + ys.length ≤ 4294967296 := hlim
    have hypos : 0 < ys.length := List.length_pos_iff.2 hyn
    obtain ⟨b2, o2, c2, news, hue, n1, n2, hnc, hn1, n4⟩ := hnewsOf hgy rfl hyn
    have hfitb : ys.length * i.bytes ≤ 140737488355328 := by
      have : ys.length * i.bytes ≤ 4294967296 * 32768 := Nat.mul_le_mul (by omega) hbt
      omega
    rw [hgx] at hrs
    have hrs : Rep g (.list i.size [] true) (a.tmps.getD s undef) := hrs
    have key : ∀ newCap, ys.length ≤ newCap → (Builtin.append_ #[t, t] o.type #[a.tmps.getD s undef, a.eval y]).run P w = .ok (.slice (some ⟨w.heap.size, 0, none⟩) ys.length newCap) (w.drew.alloc (.cells (news.toArray ++ Builtin.zeroCells z.cells (newCap - ys.length)) e)) →
        Sim P CR N o d (.hs i.size H.next 0 ys.length) { F with tm := upd F.tm s .junk } (H.new (.arr i.size ys)) g a w := by
      intro newCap hle hr
      have := hnew (xs := []) (ys := ys) (olds := []) (news := news) newCap (h.junk s) .nil n2 (by simp) n4 (by simpa using hle) (by rw [hexec hr]; simp)
      simpa using this
    generalize a.tmps.getD s undef = ux at hrs hexec key
    cases hrs with
    | nil =>
      refine key (grownCap w ys.length 0 e) (grownCap_ge w _ 0 e) ?_
      have hr := run_append_nil (P := P) w t o.type e i z h1 h2 k2 ⟨b2, o2, none⟩ ys.length c2 news n1 hnc hypos (by omega) (by omega)
      rw [hue, hr]
    | list hsp hle hcn hE =>
      rename_i ad cap
      have hcap : cap = 0 := hcn rfl rfl
      subst hcap
      refine key (grownCap w (0 + ys.length) 0 e) (by have := grownCap_ge w (0 + ys.length) 0 e; omega) ?_
      have hr := run_append_grow (P := P) w t o.type e i z h1 h2 k2 ad 0 0 [] (by simp) (by simp) ⟨b2, o2, none⟩ ys.length c2 news n1 hnc (by omega) (by omega) (growslice_fits (by omega) (by rw [Nat.zero_add]; exact hfitb))
      rw [hue]
      simpa using hr
  · -- behind others
    rename_i s1 id off len s2 ys oy hgx hgy
    split at hs
    case h_2 => cases hs
    rename_i s3 xs hob
    split at hs
    case isFalse => cases hs
    rename_i hc
    obtain ⟨rfl, rfl, hs3, hyn, hend, _, hlim⟩ := hc
    subst hs3
    have hyn : ys ≠ [] := fun e => by rw [e] at hyn; simp at hyn
    cases hs
    have hlim : len + ys.length ≤ 4294967296 := hlim
    have hypos : 0 < ys.length := List.length_pos_iff.2 hyn
    obtain ⟨b2, o2, c2, news, hue, n1, n2, hnc, hn1, n4⟩ := hnewsOf hgy rfl hyn
    have hfitb : (len + ys.length) * i.bytes ≤ 140737488355328 := by
      have : (len + ys.length) * i.bytes ≤ 4294967296 * 32768 := Nat.mul_le_mul hlim hbt
      omega
    rw [hgx] at hrs
    have hrs : Rep g (.hs i.size id off len) (a.tmps.getD s undef) := hrs
    obtain ⟨b, base, cap, hmu, hok⟩ := h.base.heap id _ hob
    obtain ⟨hcap, hcell, hall⟩ := hok
    have hxl : (xs.drop off).length = len := by simp; omega
    generalize hux : a.tmps.getD s undef = ux at hrs hexec
    cases hrs with
    | hs hm hlc =>
    rename_i b' base' cap'
    rw [hmu] at hm; cases hm
    have hrow : Row g w ((xs.drop off).flatMap V.cells) b (base + off * i.size) := rows_flat _ _ (fun j x hj => by
      rw [List.getElem?_drop] at hj
      obtain ⟨f1, f2⟩ := hcell (off + j) x hj
      exact ⟨f1, by rw [show base + off * i.size + j * i.size = base + (off + j) * i.size by rw [Nat.add_mul]; omega]; exact f2⟩)
    have hxf : ∀ v ∈ xs.drop off, v.fits i.size = true ∧ v.cells.all V.one = true := fun v hv => by
      obtain ⟨j, hj⟩ := List.getElem?_of_mem (List.mem_of_mem_drop hv)
      obtain ⟨f1, f2⟩ := hcell j v hj
      refine ⟨f1, List.all_eq_true.2 fun c hc => ?_⟩
      obtain ⟨q, hq⟩ := List.getElem?_of_mem hc
      obtain ⟨u, _, _, h1⟩ := f2 q c hq
      exact h1
    obtain ⟨olds, ol1, ol2⟩ := hrow.vals
    have olen : olds.length = len * i.size := by rw [← ol1.length, fits_flat (fun v hv => (hxf v hv).1), hxl]
    by_cases hroom : len + ys.length ≤ cap - off
    · -- in place
      have hin : ∀ j, j < news.length → off * i.size + len * i.size + j < cap * i.size := fun j hj => by
        rw [n1] at hj
        have : (off + len + ys.length) * i.size ≤ cap * i.size := Nat.mul_le_mul_right _ (by omega)
        rw [Nat.add_mul, Nat.add_mul] at this; omega
      have hat : ∀ j, j < news.length → (ce w b (base + off * i.size + len * i.size + j)).isSome = true ∧ fz w b (base + off * i.size + len * i.size + j) = false ∧ g.own b (base + off * i.size + len * i.size + j) = .heap id := fun j hj => by
        have := hall _ (hin j hj)
        rw [show base + (off * i.size + len * i.size + j) = base + off * i.size + len * i.size + j by omega] at this
        exact this
      have hrun := run_append_room' (P := P) (w := w) t o.type e i h1 h2 (b := b) (off := base + off * i.size) (sLen := len) (sCap := cap - off) n1 hnc hn1 hroom (fun j hj => (hat j hj).1) (fun j hj => (hat j hj).2.1) (c := c2)
      obtain ⟨f, hf⟩ : ∃ f : Ow → Ow, f = fun x => if x = .heap id then .heap H.next else x := ⟨_, rfl⟩
      have hf1 : ∀ x, x ≠ .heap id → f x = x := fun x hx => by rw [hf]; simp [hx]
      have hf2 : f (.heap id) = .heap H.next := by rw [hf]; simp
      obtain ⟨W, hW⟩ : ∃ W, W = w.setCells b (base + off * i.size + len * i.size) news := ⟨_, rfl⟩
      have T0 := tr_setCells g w b (base + off * i.size + len * i.size) news (fun x => x = .heap id) (fun j hj => (hat j hj).2.2)
      have hmem := mem_setCells h.base b (base + off * i.size + len * i.size) news (fun j hj => by rw [(hat j hj).2.2]; simp)
      rw [← hW] at T0 hmem hrun
      have T : Tr (fun x => x ≠ .heap id) g w (g.retag f) W := ⟨g.retag_le f, fun b' o' hl hs => by
          obtain ⟨q1, q2, q3⟩ := T0.cell b' o' hl hs
          exact ⟨hf1 _ hl, q2, q3⟩, fun b' ob e' hn hl => ⟨(T0.objs b' ob e' hn hl).1, hf1 _ hl⟩⟩
      have hfn : id ≠ H.next := fun e' => by have := h.base.fresh H.next (Nat.le_refl _); rw [← e', hmu] at this; cases this
      have hR : Rel CR N (g.retag f) lam F (H.put id none) a W := by
        refine ⟨h.base.tr T (fun b' o' v e' => ?_) h.base.fresh (fun id' ob' e' => ?_), h.sz, fun s => (h.slot s).tr T.le, fun s => (h.sown s).tr T (fun _ _ => by simp), fun t' cs2 hb' => ?_, h.ptr, fun d e' => ?_, h.dfrN⟩
        · obtain ⟨q1, q2⟩ := hmem b' o' v e'
          exact ⟨q1, by show f (g.own b' o') = _; rw [q2]; exact hf1 _ (by simp)⟩
        · by_cases hi : id' = id
          · subst hi; simp [Hp.put, upd] at e'
          · simp only [Hp.put, upd, hi, if_false] at e'
            exact .inl ⟨e', by simp [hi]⟩
        · obtain ⟨blk2, e1, e2⟩ := h.box t' cs2 hb'
          exact ⟨blk2, e1, e2.tr T (by simp) (fun _ => by simp)⟩
        · obtain ⟨r, e1, e2, e3⟩ := h.dfr d e'
          obtain ⟨t1, t2⟩ := T.objs r _ e2 rfl (by rw [e3]; simp)
          exact ⟨r, e1, t1, t2.trans e3⟩
      have hX : Ext g w (g.retag f) W := by
        have := Ext.setCells g w b (base + off * i.size + len * i.size) news (fun j hj => by rw [(hat j hj).2.2]; simp)
        rw [← hW] at this
        exact ⟨g.retag_le f, this.size, fun b' o' hb' ho' => ⟨by show f (g.own b' o') = _; rw [ho']; exact hf1 _ (by simp), (this.other b' o' hb' ho').2⟩, this.cells, this.objs, this.loops, this.env⟩
      have hfr := hR.base.fresh H.next (Nat.le_refl _)
      have hle2 := addMu_le hfr (b, base + off * i.size, cap - off)
      have hnf := hR.newOb (b, base + off * i.size, cap - off) (.arr i.size (xs.drop off ++ ys)) ?_
      · refine ⟨_, W, _, lam, .inl (hexec (by rw [hue]; exact hrun)), hnf.put d hd (v := .hs i.size H.next 0 (len + ys.length)) (Rep.srep ?_) (fun _ _ => trivial) (fun t o e => by cases e), hX.trans (Ext.addMu hfr _ _)⟩
        have := Rep.hs (g := (g.retag f).addMu H.next (b, base + off * i.size, cap - off)) (sz := i.size) (id := H.next) (off := 0) (len := len + ys.length) (b := b) (base := base + off * i.size) (cap := cap - off) (by simp [Gh.addMu, upd]) (by omega)
        rw [Nat.zero_mul, Nat.add_zero, Nat.sub_zero] at this
        exact this
      · have hleG := (g.retag_le f).trans hle2
        have hceW : ∀ o', (o' < base + off * i.size + len * i.size ∨ base + off * i.size + len * i.size + news.length ≤ o') → ce W b o' = ce w b o' := fun o' ho' => by rw [hW]; exact ce_setCells_out w b _ news (fun _ => ho')
        have hceN : ∀ j (hj : j < news.length), ce W b (base + off * i.size + len * i.size + j) = some news[j] := fun j hj => by rw [hW]; exact ce_setCells_in w b _ news (fun j hj => (hat j hj).1) hj
        refine ⟨by simp only [List.length_append, hxl]; exact hroom, fun q x hq => ?_, fun q hq => ?_⟩
        · simp only
          rw [List.getElem?_append] at hq
          split at hq
          · rename_i hlt
            rw [hxl] at hlt
            have hq' := hq
            rw [List.getElem?_drop] at hq
            obtain ⟨f1, f2⟩ := hcell (off + q) x hq
            refine ⟨f1, fun j c hj => ?_⟩
            obtain ⟨u, p1, p2, p3⟩ := f2 j c hj
            have hjl : j < i.size := by rw [← V.fits_len f1]; exact (List.getElem?_eq_some_iff.1 hj).1
            have hb1 : q * i.size + j < len * i.size := by
              have : (q + 1) * i.size ≤ len * i.size := Nat.mul_le_mul_right _ hlt
              rw [Nat.add_mul] at this; omega
            refine ⟨u, ?_, p2.mono hleG, p3⟩
            rw [hceW _ (.inl (by omega)), ← p1]
            congr 1; rw [Nat.add_mul]; omega
          · rename_i hge
            rw [hxl] at hge hq
            have hq2 := List.mem_of_getElem? hq
            refine ⟨(n4 x hq2).1, fun j c hj => ?_⟩
            have hg2 := flat_get ys (fun v hv => (n4 v hv).1) (q - len) x hq j c hj
            obtain ⟨u, p1, p2⟩ := n2.get _ c hg2
            have hlt := (List.getElem?_eq_some_iff.1 p1).1
            refine ⟨u, ?_, p2.mono hleG, List.all_eq_true.1 (n4 x hq2).2 c (List.mem_of_getElem? hj)⟩
            have e1 : base + off * i.size + q * i.size + j = base + off * i.size + len * i.size + ((q - len) * i.size + j) := by
              have : q * i.size = len * i.size + (q - len) * i.size := by rw [← Nat.add_mul]; congr 1; omega
              omega
            rw [e1, hceN _ hlt, ← p1, List.getElem?_eq_getElem hlt]
        · simp only at hq ⊢
          have hq' : off * i.size + q < cap * i.size := by
            have e1 : cap * i.size = off * i.size + (cap - off) * i.size := by rw [← Nat.add_mul]; congr 1; omega
            omega
          have := hall _ hq'
          rw [show base + (off * i.size + q) = base + off * i.size + q by omega] at this
          obtain ⟨p1, p2, p3⟩ := this
          refine ⟨?_, ?_, ?_⟩
          · by_cases hr : base + off * i.size + q < base + off * i.size + len * i.size ∨ base + off * i.size + len * i.size + news.length ≤ base + off * i.size + q
            · rw [hceW _ hr]; exact p1
            · have hj : q - len * i.size < news.length := by omega
              have := hceN _ hj
              rw [show base + off * i.size + len * i.size + (q - len * i.size) = base + off * i.size + q by omega] at this
              rw [this]; rfl
          · rw [hW, fz_setCells]; exact p2
          · show f (g.own b _) = _
            rw [p3]; exact hf2
    · -- in a new block
      have hput : Rel CR N g lam F (H.put id none) a w := ⟨⟨h.base.mem, h.base.fresh, fun id' ob' e' => by
          by_cases hi : id' = id
          · subst hi; simp [Hp.put, upd] at e'
          · simp only [Hp.put, upd, hi, if_false] at e'
            exact h.base.heap id' ob' e'⟩, h.sz, h.slot, h.sown, h.box, h.ptr, h.dfr, h.dfrN⟩
      have hr := run_append_grow (P := P) w t o.type e i z h1 h2 k2 ⟨b, base + off * i.size, none⟩ len (cap - off) olds olen (fun j u hj => by rw [addr_add]; exact ol2 j u hj) ⟨b2, o2, none⟩ ys.length c2 news n1 hnc (by omega) (by omega) (growslice_fits (by omega) hfitb)
      have := hnew (F1 := F) (H1 := H.put id none) (xs := xs.drop off) (ys := ys) (olds := olds) (news := news) (grownCap w (len + ys.length) (cap - off) e) hput ol1 n2 hxf n4 (by rw [hxl]; exact grownCap_ge w _ _ e) (by rw [hxl]; exact hexec (by rw [hue]; exact hr))
      rw [hxl] at this
      exact this
  · cases hs
end Go.Iv
