/- Functions and rounds: the machine, run. No conditions. -/
import Derived.Test.YtpgojhgfhhgomaaIvMelt
import Derived.Conc.MuLone
namespace Go.Iv
set_option linter.unusedVariables false
set_option linter.unusedSimpArgs false
variable {P : Program} {CR : Nat → Code → IC → Prop} {N : Nat} {g g' : Gh} {lam : Nat → Option Nat} {F : Fr} {H : Hp} {a : Act} {w w' : World}

/-! ### deferred blocks -/
theorem Rel.unmark (h : Rel CR N g lam F H a w) {d : Deferred} {ds : List Deferred} (hd : a.defers = d :: ds) :
    ∃ r w1, d.target = .collected r ∧ (Instr.takeDeferred r).run P w = .ok [] w1 ∧ Rel CR N g lam F H { a with defers := ds } w1 ∧ Ext g w g w1 := by
  obtain ⟨r, e1, e2, e3⟩ := h.dfr d (by rw [hd]; simp)
  have T : Tr (fun x => x ≠ .dfr) g w g (w.putObj r (.deferred none)) := tr_putObj (id := 0) g e2 rfl rfl e3
  have hce := fun b o => (ce_putObj e2 rfl (o' := .deferred none) rfl b o).1
  have hp := h.dfrN
  rw [hd] at hp
  have hp := List.pairwise_cons.1 hp
  refine ⟨r, _, by rw [e1], run_takeDeferred e2, ⟨h.base.tr T (fun b o v e => by rw [hce b o]; exact h.base.mem b o v e) h.base.fresh (fun id' ob' e => .inl ⟨e, by simp⟩), h.sz, fun s => (h.slot s).tr T.le, fun s => (h.sown s).tr T (fun _ _ => by simp), fun t' cs2 hb' => ?_, h.ptr, fun d' hd' => ?_, hp.2⟩, ⟨.refl g, by simp, fun b o _ e => ⟨e, hce b o⟩, fun b c e f hc => ⟨c, ?_, rfl⟩, fun b ob e hn ho => ?_, fun b r1 e => ⟨r1, ?_⟩, ⟨rfl, rfl, fun a => frz_putObj e2 rfl rfl a⟩⟩⟩
  · obtain ⟨blk2, k1, k2⟩ := h.box t' cs2 hb'
    exact ⟨blk2, k1, k2.tr T (by simp) (fun _ => by simp)⟩
  · obtain ⟨r', k1, k2, k3⟩ := h.dfr d' (by rw [hd]; exact List.mem_cons_of_mem _ hd')
    refine ⟨r', k1, ?_, k3⟩
    rw [World.putObj_heap_other (fun hb => ?_)]
    · exact k2
    · subst hb
      exact hp.1 d' hd' (by rw [e1, k1])
  · rw [World.putObj_heap_other (fun hb => by subst hb; rw [e2] at hc; cases hc)]; exact hc
  · rw [World.putObj_heap_other (fun hb => by subst hb; rw [e3] at ho; cases ho)]; exact e
  · rw [World.putObj_heap_other (fun hb => by subst hb; rw [e2] at e; cases e)]; exact e

theorem leaves {Fc : Fence} {fn : Func} {R : Ending → World → Prop} {u : FrameMode} (hu : u ≠ .run) {g0 : Gh} {w0 : World} :
    ∀ (ds : List Deferred) {a : Act} {w : World}, a.defers = ds → Rel CR N g lam F H a w → Ext g0 w0 g w →
      (∀ (a1 : Act) (w1 : World), a1.tmps = a.tmps → Rel CR N g lam F H a1 w1 → Ext g0 w0 g w1 → LeavesIn Fc 0 P fn a.tmps R [] u w1) → LeavesInM Fc 0 P fn a.tmps R ds u w
  | [], a, w, hd, h, hx, hk => hk a w rfl h hx
  | d :: ds, a, w, hd, h, hx, hk => by
    obtain ⟨r, w1, e1, e2, e3, e4⟩ := h.unmark (P := P) hd
    exact ⟨hu, .inl ⟨r, w1, e1, e2, leaves hu ds (a := { a with defers := ds }) rfl e3 (hx.trans e4) (fun a1 w2 h1 h2 h3 => hk a1 w2 h1 h2 h3)⟩⟩

/-! ### results -/
def keyTag : Res → Ow
  | .tmp t => .spare t 0
  | .cell t _ => .bspare t 0
  | .arr t => .spare t 0
def resB1 (P : Program) : ResultVar → Res → Bool
  | .tmp t, .tmp t' => t == t'
  | .cell t ty, .cell t' ag => t == t' && aggOf P ty == some ag
  | .tmp t, .arr t' => t == t'
  | _, _ => false
def resB (P : Program) : List ResultVar → List Res → Bool
  | [], [] => true
  | x :: xs, y :: ys => resB1 P x y && resB P xs ys
  | _, _ => false
def nodupB : List Ow → Bool
  | [] => true
  | x :: xs => !xs.contains x && nodupB xs
def chkFn (P : Program) (k : Nat) (fi : IFn) : Bool :=
  match P.funcs[k]? with
  | some fn => fn.name != "runtime.NumGoroutine" && decide (fi.np ≤ fn.ntmps) && (match fn.body with | some c => codeB P fn.ntmps fi.code c | none => false) && resB P fn.results.toList fi.res && nodupB (fi.res.map keyTag)
  | none => false
def resRead (tmps : Array Value) : ResultVar → Sem Value
  | .tmp t => pure (tmps.getD t undef)
  | .cell a t => do loadVar t (← asAddr (tmps.getD a undef))
theorem results_eq (fn : Func) (tmps : Array Value) : results fn tmps = (do let vs ← fn.results.mapM (resRead tmps); pure (if h : vs.size = 1 then vs[0] else .tuple vs)) := by
  unfold results
  rfl
theorem mapM_list {rd : ResultVar → Sem Value} {w : World} : ∀ {rvs : List ResultVar} {us : List Value}, rvs.length = us.length → (∀ (i : Nat) (rv : ResultVar) (u : Value), rvs[i]? = some rv → us[i]? = some u → (rd rv).run P w = .ok u w) → (rvs.mapM rd).run P w = .ok us w
  | [], [], _, _ => rfl
  | rv :: rvs, u :: us, hl, h => by
    have h0 := h 0 rv u rfl rfl
    have ih := mapM_list (rd := rd) (w := w) (rvs := rvs) (us := us) (by simpa using hl) (fun i rv' u' h1 h2 => h (i + 1) rv' u' (by simpa using h1) (by simpa using h2))
    simp [List.mapM_cons, Sem.run_bind, h0, ih]
  | [], _ :: _, hl, _ => by simp at hl
  | _ :: _, [], hl, _ => by simp at hl
def V.noTuple : V → Bool
  | .tuple _ => false
  | _ => true
theorem part_noTuple {cs : List V} {o : Nat} {ag : Option Nat} {v : V} (hone : ∀ c ∈ cs, c.one = true) (h : part cs o ag = some v) : v.noTuple = true := by
  cases ag with
  | none =>
    simp only [part, Option.map_eq_some_iff] at h
    obtain ⟨c, hc, rfl⟩ := h
    have := hone c (List.mem_of_getElem? hc)
    cases c <;> first | rfl | cases this
  | some n =>
    simp only [part] at h
    split at h
    · cases h; rfl
    · cases h
theorem Row.one {cs : List V} {b o : Nat} (h : Row g w cs b o) : ∀ c ∈ cs, c.one = true := fun c hc => by
  obtain ⟨i, hi⟩ := List.getElem?_of_mem hc
  obtain ⟨u, _, h2⟩ := h i c hi
  exact h2.2
theorem res_one' (h : Rel CR N g lam F H a w) {rv : ResultVar} {r : Res} (hna : ∀ t, r ≠ .arr t) (hb : resB1 P rv r = true) {v : V} (hv : resV F H r = some v) :
    ∃ u, (resRead a.tmps rv).run P w = .ok u w ∧ Rep g v u ∧ v.noTuple = true ∧ ∀ sz xs, v = .list sz xs true → xs ≠ [] → Spare g w (keyTag r) sz u := by
  cases rv with
  | tmp t =>
    cases r with
    | arr t => exact absurd rfl (hna t)
    | cell _ _ => cases hb
    | tmp t' =>
      simp only [resB1, beq_iff_eq] at hb
      subst hb
      simp only [resV] at hv
      split at hv
      · rename_i hfree
        cases hv
        have hs := h.slot t
        have ho := h.sown t
        have hr : Rep g (F.tm t) (a.tmps.getD t undef) := by
          unfold SRep at hs
          split at hs
          · rename_i e; rw [e] at hfree; cases hfree
          · exact hs
        refine ⟨_, rfl, hr, ?_, fun sz xs e hne => ?_⟩
        · cases hF : F.tm t <;> first | rfl | (rw [hF] at hfree; cases hfree)
        · rw [e] at ho; exact ho hne
      · cases hv
  | cell t ty =>
    cases r with
    | arr t => exact absurd rfl (hna t)
    | tmp _ => cases hb
    | cell t' ag =>
      simp only [resB1, Bool.and_eq_true, beq_iff_eq] at hb
      obtain ⟨rfl, ht⟩ := hb
      simp only [resV] at hv
      have hs := h.slot t
      have key : ∀ {b base off : Nat} {cs : List V}, Row g w cs b base → a.tmps.getD t undef = .pointer (some ⟨b, base + off, none⟩) → part cs off ag = some v →
          ∃ u, (resRead a.tmps (.cell t ty)).run P w = .ok u w ∧ Rep g v u ∧ v.noTuple = true ∧ ∀ sz xs, v = .list sz xs true → xs ≠ [] → Spare g w (keyTag (.cell t ag)) sz u := by
        intro b base off cs hrow he hp
        obtain ⟨u, k1, k2, k3⟩ := part_load ht hrow hp
        refine ⟨u, ?_, k2, part_noTuple hrow.one hp, fun sz xs e hne => ?_⟩
        · simp [resRead, Sem.run_bind, he, asAddr, k1]
        · subst e
          simp [V.plain, hne] at k3
      split at hv
      · rename_i t1 o1 e1
        split at hv
        · rename_i hto
          obtain ⟨rfl, rfl⟩ := hto
          rw [e1] at hs
          simp only [Option.bind_eq_some_iff] at hv
          obtain ⟨cs, hbx, hv⟩ := hv
          obtain ⟨b, hlam, he, hbox⟩ := row_box h hs hbx
          cases ag with
          | some n => exact key hbox.row (base := 0) (off := 0) (by simpa using he) hv
          | none =>
            simp only at hv
            obtain ⟨u, f1, f2, f3, f4, f5, f6⟩ := hbox 0 v hv
            refine ⟨u, ?_, f4, ?_, fun sz xs e hne => f6 sz xs e hne⟩
            · simp [resRead, Sem.run_bind, he, asAddr, run_loadVar_cell (P := P) ht (ad := ⟨b, 0, none⟩) (u := u) f1]
            · cases v <;> first | rfl | cases f5
        · cases hv
      · rename_i id o e1
        rw [e1] at hs
        split at hv
        · rename_i cs hob
          obtain ⟨b, base, cp, hmu, he, hok⟩ := row_gptr h hs hob
          exact key hok.row he hv
        · cases hv
      · rename_i cs e1
        rw [e1] at hs
        obtain ⟨b, o, he, hrow⟩ := row_cptr h hs
        exact key hrow (off := 0) (by simpa using he) hv
      · cases hv
theorem res_one (h : Rel CR N g lam F H a w) {rv : ResultVar} {r : Res} (hb : resB1 P rv r = true) {v : V} (hv : resV F H r = some v) :
    ∃ g2 u, Rel CR N g2 lam F (r.melt F H) a w ∧ Ext g w g2 w ∧ (∀ tag sz u, (∀ id, tag ≠ .heap id) → Spare g w tag sz u → Spare g2 w tag sz u) ∧ (resRead a.tmps rv).run P w = .ok u w ∧ Rep g2 v u ∧ v.noTuple = true ∧ ∀ sz xs, v = .list sz xs true → xs ≠ [] → Spare g2 w (keyTag r) sz u := by
  by_cases hna : ∀ t, r ≠ .arr t
  · obtain ⟨u, k⟩ := res_one' h hna hb hv
    have hm : r.melt F H = H := by cases r <;> first | rfl | exact absurd rfl (hna _)
    rw [hm]
    exact ⟨g, u, h, .refl g w, fun _ _ _ _ h => h, k⟩
  · obtain ⟨t, rfl⟩ : ∃ t, r = .arr t := Classical.byContradiction fun hn => hna fun t e => hn ⟨t, e⟩
    cases rv with
    | cell _ _ => cases hb
    | tmp t' =>
      simp only [resB1, beq_iff_eq] at hb
      subst hb
      simp only [resV] at hv
      split at hv
      · rename_i sz id off len ht
        split at hv
        · rename_i sz' xs ho
          split at hv
          · rename_i hc
            obtain ⟨rfl, hl⟩ := hc
            cases hv
            obtain ⟨g2, k1, k2, k3, k4, k5⟩ := h.melt ht ho hl
            have hm : (Res.arr t').melt F H = H.put id none := by simp [Res.melt, ht]
            rw [hm]
            refine ⟨g2, _, k1, k2, fun tag sz u hne hs => hs.tr k3 (hne id), rfl, k4, rfl, fun sz2 xs2 e _ => ?_⟩
            rw [V.list.injEq] at e
            rw [← e.1]
            exact k5
          · cases hv
        · cases hv
      · rename_i sz o ht
        cases hv
        have hm : (Res.arr t').melt F H = H := by simp [Res.melt, ht]
        rw [hm]
        have hs := h.slot t'
        rw [ht] at hs
        refine ⟨g, _, h, .refl g w, fun _ _ _ _ h => h, rfl, hs, rfl, fun sz2 xs2 e hne => ?_⟩
        cases e
        exact absurd rfl hne
      · cases hv
theorem res_all : ∀ {rvs : List ResultVar} {rs : List Res} {vs : List V} {g : Gh} {H H2 : Hp}, Rel CR N g lam F H a w → resB P rvs rs = true → ressV F H rs = some (vs, H2) →
    ∃ (g2 : Gh) (us : List Value), Rel CR N g2 lam F H2 a w ∧ Ext g w g2 w ∧ (∀ tag sz u, (∀ id, tag ≠ .heap id) → Spare g w tag sz u → Spare g2 w tag sz u) ∧ (rvs.mapM (resRead a.tmps)).run P w = .ok us w ∧ RepL g2 vs us ∧ (∀ v ∈ vs, v.noTuple = true) ∧
      ∀ (i sz : Nat) (xs : List V) (u : Value), vs[i]? = some (V.list sz xs true) → xs ≠ [] → us[i]? = some u → ∃ k, (rs.map keyTag)[i]? = some k ∧ Spare g2 w k sz u
  | [], [], vs, g, H, H2, h, _, hv => by
    simp only [ressV, Option.some.injEq, Prod.mk.injEq] at hv
    obtain ⟨rfl, rfl⟩ := hv
    exact ⟨g, [], h, .refl g w, fun _ _ _ _ h => h, rfl, .nil, (fun v hv => by cases hv), fun i sz xs u h1 => by simp at h1⟩
  | [], _ :: _, vs, g, H, H2, h, hb, _ => by cases hb
  | _ :: _, [], vs, g, H, H2, h, hb, _ => by cases hb
  | rv :: rvs, r :: rs, vs, g, H, H2, h, hb, hv => by
    simp only [resB, Bool.and_eq_true] at hb
    simp only [ressV, Option.bind_eq_some_iff, Option.map_eq_some_iff, Prod.mk.injEq] at hv
    obtain ⟨v, hv1, ⟨vs', H3⟩, hv2, rfl, rfl⟩ := hv
    obtain ⟨g1, u, m1, m2, m3, k1, k2, k3, k4⟩ := res_one h hb.1 hv1
    obtain ⟨g2, us, n1, n2, n3, j1, j2, j3, j4⟩ := res_all m1 hb.2 hv2
    refine ⟨g2, u :: us, n1, m2.trans n2, fun tag sz u hne hs => n3 tag sz u hne (m3 tag sz u hne hs), by simp [List.mapM_cons, Sem.run_bind, k1, j1], .cons (k2.mono n2.le) j2, ?_, fun i sz xs u' h1 hne h2 => ?_⟩
    · intro x hx
      rcases List.mem_cons.1 hx with rfl | hx
      · exact k3
      · exact j3 x hx
    · cases i with
      | zero =>
        simp at h1 h2
        subst h2
        exact ⟨_, rfl, n3 _ _ _ (fun id => by cases r <;> simp [keyTag]) (k4 sz xs h1 hne)⟩
      | succ i => simpa using j4 i sz xs u' (by simpa using h1) hne (by simpa using h2)
def exitTag (ks : List Ow) (x : Ow) : Ow :=
  match x with
  | .imm => .imm
  | .heap id => .heap id
  | .other => .other
  | x => match ks.findIdx? (fun k => k == x) with
    | some j => .res j
    | none => .gone
theorem findIdx_nodup {x : Ow} : ∀ {ks : List Ow} {i : Nat}, nodupB ks = true → ks[i]? = some x → ks.findIdx? (fun k => k == x) = some i
  | [], i, _, h => by simp at h
  | k :: ks, 0, _, h => by simp at h; subst h; simp [List.findIdx?_cons]
  | k :: ks, i + 1, hn, h => by
    simp only [nodupB, Bool.and_eq_true, Bool.not_eq_true'] at hn
    have h' : ks[i]? = some x := by simpa using h
    have hne : (k == x) = false := by
      cases hk : k == x with
      | false => rfl
      | true =>
        have : k = x := by simpa using hk
        subst this
        have := List.mem_of_getElem? h'
        simp [this] at hn
    rw [List.findIdx?_cons, hne]
    simp [findIdx_nodup hn.2 h']
theorem exitTag_settled (ks : List Ow) (x : Ow) : (exitTag ks x).settled = true := by
  unfold exitTag
  split <;> first | rfl | skip
  split <;> rfl
theorem exitTag_spare {ks : List Ow} {r : Res} {i : Nat} (hn : nodupB ks = true) (h : ks[i]? = some (keyTag r)) : exitTag ks (keyTag r) = .res i := by
  have := findIdx_nodup hn h
  cases r <;> simp only [keyTag, exitTag] at this ⊢ <;> rw [this]
theorem exit_base (h : Base CR g H w) (ks : List Ow) : Base CR (g.retag (exitTag ks)) H w :=
  Base.tr h (tr_retag g w _) (fun b o v e => by obtain ⟨h1, h2⟩ := h.mem b o v e; exact ⟨h1, by show exitTag ks (g.own b o) = _; rw [h2]; rfl⟩) h.fresh (fun id ob e => .inl ⟨e, rfl⟩)
theorem exit_ext (g : Gh) (w : World) (ks : List Ow) : Ext g w (g.retag (exitTag ks)) w :=
  ⟨g.retag_le _, Nat.le_refl _, fun b o _ h => ⟨by show exitTag ks (g.own b o) = _; rw [h]; rfl, rfl⟩, fun b c e f h => ⟨c, h, rfl⟩, fun b ob h _ _ => h, fun b r h => ⟨r, h⟩, ⟨rfl, rfl, fun _ => rfl⟩⟩
theorem Rep.give {v : V} {u : Value} (h : Rep g v u) : Rep g v.give u := by
  cases v with
  | agg cs => cases h with | agg h => exact .agg h.hard1
  | _ => exact h
theorem RepL.map {f : V → V} (hf : ∀ v u, Rep g v u → Rep g (f v) u) : ∀ {vs : List V} {us : List Value}, RepL g vs us → RepL g (vs.map f) us
  | _, _, .nil => .nil
  | _, _, .cons a b => .cons (hf _ _ a) (RepL.map hf b)
end Go.Iv
