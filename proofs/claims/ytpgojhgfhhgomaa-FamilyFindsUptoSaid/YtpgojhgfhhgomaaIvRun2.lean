/- The machine's runs are the program's. No conditions. -/
import Derived.Test.YtpgojhgfhhgomaaIvRun
namespace Go.Iv
set_option linter.unusedVariables false
set_option linter.unusedSimpArgs false
variable {P : Program} {CR : Nat → Code → IC → Prop} {N : Nat} {g g' : Gh} {lam : Nat → Option Nat} {F : Fr} {H : Hp} {a : Act} {w w' : World}

theorem pack_post {vs : List V} {us : List Value} {rs : List Res} (f : V → V) (hf : ∀ (g : Gh) v u, Rep g v u → Rep g (f v) u) (hfo : ∀ v sz xs, f v = .list sz xs true → v = .list sz xs true) (hft : ∀ v, v.noTuple = true → (f v).noTuple = true)
    (hn : nodupB (rs.map keyTag) = true) (hr : RepL g vs us) (ht : ∀ v ∈ vs, v.noTuple = true)
    (hs : ∀ (i sz : Nat) (xs : List V) (u : Value), vs[i]? = some (V.list sz xs true) → xs ≠ [] → us[i]? = some u → ∃ k, (rs.map keyTag)[i]? = some k ∧ Spare g w k sz u) :
    Rep (g.retag (exitTag (rs.map keyTag))) (packV (vs.map f)) (if h : us.toArray.size = 1 then us.toArray[0] else .tuple us.toArray) ∧ ROwn (g.retag (exitTag (rs.map keyTag))) w (packV (vs.map f)) (if h : us.toArray.size = 1 then us.toArray[0] else .tuple us.toArray) := by
  have hle := g.retag_le (exitTag (rs.map keyTag))
  have hsp : ∀ (i sz : Nat) (xs : List V) (u : Value), vs[i]? = some (V.list sz xs true) → xs ≠ [] → us[i]? = some u → Spare (g.retag (exitTag (rs.map keyTag))) w (.res i) sz u := by
    intro i sz xs u h1 h2 h3
    obtain ⟨k, k1, k2⟩ := hs i sz xs u h1 h2 h3
    refine Spare.retag k2 ?_
    rw [List.getElem?_map, Option.map_eq_some_iff] at k1
    obtain ⟨r, k3, rfl⟩ := k1
    exact exitTag_spare hn (by rw [List.getElem?_map, k3]; rfl)
  have hgen : vs.length ≠ 1 → packV (vs.map f) = .tuple (vs.map f) := by
    intro hl
    match vs, hl with
    | [], _ => rfl
    | [v], hl => exact absurd rfl hl
    | v :: v' :: r, _ => rfl
  by_cases h1 : vs.length = 1
  · match vs, us, hr, h1 with
    | [v], _, .cons (u := u) (us := us') hv hl, _ =>
      cases hl
      simp only [List.map_cons, List.map_nil, packV]
      refine ⟨by simpa using (hf _ _ _ (hv.mono hle)), ?_⟩
      have hnt := hft v (ht v (by simp))
      cases hfv : f v <;> try trivial
      · rename_i sz xs own
        cases own with
        | false => trivial
        | true => exact fun hne => by simpa using hsp 0 sz xs u (by rw [hfo v sz xs hfv]; rfl) hne rfl
      · rw [hfv] at hnt; cases hnt
  · rw [hgen h1]
    have hl := hr.length
    have h2 : us.toArray.size ≠ 1 := by simpa [← hl] using h1
    rw [dif_neg h2]
    refine ⟨.tuple (by simpa using RepL.map (hf _) (hr.mono hle)), fun j sz xs hj hne us2 x hu hx => ?_⟩
    cases hu
    rw [List.getElem?_map, Option.map_eq_some_iff] at hj
    obtain ⟨v, hv, hfv⟩ := hj
    exact hsp j sz xs x (by rw [hv, hfo v sz xs hfv]) hne (by simpa using hx)

theorem setParams_rep : ∀ (ps : List Nat) {vs : List V} {us : List Value} {tm : Nat → V} {tmps : Array Value}, RepL g vs us → (∀ t, Rep g (tm t) (tmps.getD t undef)) → (∀ t, (tm t).plain = true) → (∀ p ∈ ps, p < tmps.size) →
    ((ps.zip us).foldl (fun tmps (t, a) => tmps.setIfInBounds t a) tmps).size = tmps.size ∧ ∀ t, Rep g (setParams tm ps vs t) (((ps.zip us).foldl (fun tmps (t, a) => tmps.setIfInBounds t a) tmps).getD t undef) ∧ (setParams tm ps vs t).plain = true
  | [], vs, us, tm, tmps, hr, h, hpl, hp => by simp only [List.zip_nil_left, List.foldl_nil, setParams]; exact ⟨trivial, fun t => ⟨h t, hpl t⟩⟩
  | p :: ps, _, _, tm, tmps, .nil, h, hpl, hp => by simp only [List.zip_nil_right, List.foldl_nil, setParams]; exact ⟨trivial, fun t => ⟨h t, hpl t⟩⟩
  | p :: ps, _, _, tm, tmps, .cons (c := v) (u := u) hv hr, h, hpl, hp => by
    simp only [List.zip_cons_cons, List.foldl_cons, setParams]
    have hlt := hp p (by simp)
    have := setParams_rep ps (tm := upd tm p v.clr) (tmps := tmps.setIfInBounds p u) hr (fun t => ?_) (fun t => ?_) (fun q hq => by simpa using hp q (by simp [hq]))
    · simpa using this
    · by_cases e : t = p
      · subst e; simp [upd, Array.getD, hlt]; exact hv.clr
      · have := h t
        simp only [upd, e, if_false]
        simpa [Array.getD_eq_getD_getElem?, Array.getElem?_setIfInBounds_ne (Ne.symm e)] using this
    · by_cases e : t = p
      · simp [upd, e, V.plain_clr]
      · simp only [upd, e, if_false]; exact hpl t

theorem Rel.enter (hb : Base CR g H w) {tmps : Array Value} (hsz : tmps.size = N) {tm : Nat → V} (hr : ∀ t, Rep g (tm t) (tmps.getD t undef)) (hp : ∀ t, (tm t).plain = true) : Rel CR N g (fun _ => none) { tm := tm, bx := fun _ => none } H { tmps := tmps, defers := [] } w where
  base := hb
  sz := hsz
  slot t := (hr t).srep
  sown t := SOwn.plain (hp t)
  box t cs e := by cases e
  ptr t t' o e := absurd e ((hr t).notL t' o)
  dfr d hd := by cases hd
  dfrN := .nil

abbrev CB (P : Program) : Nat → Code → IC → Prop := fun N c ic => codeB P N ic c = true

/-! ### on an empty heap -/
mutual
theorem Rep.noid (hm : ∀ b o x, g.m b o = some x → g'.m b o = some x) : ∀ {v : V} {u : Value}, v.noid = true → Rep g v u → Rep g' v u
  | _, _, _, .junk v => .junk v
  | _, _, _, .b x => .b x
  | _, _, _, .i k n => .i k n
  | _, _, _, .s x => .s x
  | _, _, h, .agg l => .agg (RepL.noid hm (by simpa [V.noid] using h) l)
  | _, _, _, .nil sz o => .nil sz o
  | _, _, h, .list a b c e => .list a b c (RepE.noid hm (by simpa [V.noid] using h) e)
  | _, _, h, .gptr e => by simp [V.noid] at h
  | _, _, h, .aptr e => by simp [V.noid] at h
  | _, _, h, .cptr a e => .cptr a (RepM.noid hm (by simpa [V.noid] using h) e)
  | _, _, _, .nilp => .nilp
  | _, _, h, .hs e l => by simp [V.noid] at h
  | _, _, h, .fn a b => by
    simp [V.noid] at h
    exact .fn (RepL.noid hm h.1 a) (RepL.noid hm h.2 b)
  | _, _, h, .yld e => by simp [V.noid] at h
  | _, _, _, .nilf => .nilf
  | _, _, h, .iface e => .iface (Rep.noid hm (by simpa [V.noid] using h) e)
  | _, _, _, .nili => .nili
  | _, _, h, .tuple l => .tuple (RepL.noid hm (by simpa [V.noid] using h) l)
theorem RepL.noid (hm : ∀ b o x, g.m b o = some x → g'.m b o = some x) : ∀ {v : List V} {u : List Value}, V.noidL v = true → RepL g v u → RepL g' v u
  | _, _, _, .nil => .nil
  | _, _, h, .cons a b => by
    simp [V.noidL] at h
    exact .cons (Rep.noid hm h.1 a) (RepL.noid hm h.2 b)
theorem RepM.noid (hm : ∀ b o x, g.m b o = some x → g'.m b o = some x) : ∀ {v : List V} {b o : Nat}, V.noidL v = true → RepM g v b o → RepM g' v b o
  | _, _, _, _, .nil => .nil
  | _, _, _, h, .cons n e a b => by
    simp [V.noidL] at h
    exact .cons n (hm _ _ _ e) (Rep.noid hm h.1 a) (RepM.noid hm h.2 b)
theorem RepE.noid (hm : ∀ b o x, g.m b o = some x → g'.m b o = some x) : ∀ {sz : Nat} {v : List V} {b o : Nat}, V.noidL v = true → RepE g sz v b o → RepE g' sz v b o
  | _, _, _, _, _, .nil => .nil
  | _, _, _, _, h, .cons f a b => by
    rename_i x xs
    simp [V.noidL] at h
    refine .cons f (RepM.noid hm ?_ a) (RepE.noid hm h.2 b)
    cases x <;> simp_all [V.cells, V.noid, V.noidL]
end
def emptyTag : Ow → Ow
  | .heap _ => .other
  | x => x
def Gh.onEmpty (g : Gh) : Gh := { m := g.m, mu := fun _ => none, own := fun b o => emptyTag (g.own b o) }
def Gh.back (g g' : Gh) (w : World) : Gh :=
  { m := g'.m, mu := g.mu, own := fun b o => match g.own b o with
      | .heap id => if b < w.heap.size then .heap id else (match g'.own b o with | .heap _ => .gone | x => x)
      | _ => match g'.own b o with | .heap _ => .gone | x => x }
theorem onEmpty_base (h : Base CR g H w) : Base CR g.onEmpty Hp.empty w where
  mem b o v e := by
    obtain ⟨h1, h2⟩ := h.mem b o v e
    exact ⟨h1, by show emptyTag (g.own b o) = _; rw [h2]; rfl⟩
  fresh _ _ := rfl
  heap id ob e := by cases e
theorem onEmpty_noLoc (h : NoLoc g) : NoLoc g.onEmpty := fun b o => by
  have := h b o
  show (emptyTag (g.own b o)).loc = false
  cases e : g.own b o <;> rw [e] at this <;> first | rfl | exact this
theorem back_post {r : RV} {H0 : Hp} {ed : Ending} (hb : Base CR g H w) (hn : r.noid = true) (h : CPost CR g.onEmpty w r H0 ed w') : CPost CR g w r H ed w' := by
  obtain ⟨g', x1, x2, x3, x4⟩ := h
  have hle : g.le (g.back g' w) := ⟨fun b o v e => x1.le.m _ _ _ e, fun _ _ e => e⟩
  have hoth : ∀ b o id, b < w.heap.size → g.own b o = .heap id → g'.own b o = .other ∧ ce w' b o = ce w b o := fun b o id hlt e => x1.other b o hlt (by show emptyTag (g.own b o) = _; rw [e]; rfl)
  have hback : ∀ b o, ¬ (∃ id, g.own b o = .heap id ∧ b < w.heap.size) → (g.back g' w).own b o = (match g'.own b o with | .heap _ => .gone | x => x) := by
    intro b o hn
    unfold Gh.back
    simp only
    split
    · rename_i id e
      rw [if_neg (fun hlt => hn ⟨id, e, hlt⟩)]
    · rfl
  have hkeep : ∀ b o id, b < w.heap.size → g.own b o = .heap id → (g.back g' w).own b o = .heap id := fun b o id hlt e => by simp [Gh.back, e, hlt]
  have T : Tr (fun x => ∃ id, x = .heap id) g w (g.back g' w) w' := by
    refine ⟨hle, fun b o hl hs => ?_, fun b ob e hn hl => ?_⟩
    · obtain ⟨id, hid⟩ := hl
      have hlt := ce_lt hs
      exact ⟨by rw [hkeep b o id hlt hid, hid], (hoth b o id hlt hid).2, x1.fz hs⟩
    · obtain ⟨id, hid⟩ := hl
      have hlt : b < w.heap.size := (Array.getElem?_eq_some_iff.1 e).1
      exact ⟨x1.objs b ob e hn (by show emptyTag (g.own b 0) = _; rw [hid]; rfl), by rw [hkeep b 0 id hlt hid, hid]⟩
  have hsame : ∀ b o t, g'.own b o = t → (∀ id, t ≠ .heap id) → t ≠ .other → (g.back g' w).own b o = t := by
    intro b o t e1 e2 e3
    rw [hback b o (fun ⟨id, k1, k2⟩ => e3 (e1 ▸ (hoth b o id k2 k1).1)), e1]
    cases t <;> first | rfl | exact absurd rfl (e2 _)
  have hsp : ∀ {j sz : Nat} {u : Value}, Spare g' w' (.res j) sz u → Spare (g.back g' w) w' (.res j) sz u := by
    intro j sz u hs ad len cap hu
    obtain ⟨h1, h2, h3⟩ := hs ad len cap hu
    refine ⟨h1, h2, fun k hk => ?_⟩
    obtain ⟨k1, k2, k3⟩ := h3 k hk
    exact ⟨hsame _ _ _ k1 (by simp) (by simp), k2, k3⟩
  refine ⟨g.back g' w, ⟨hle, x1.size, fun b o hlt e => ?_, x1.cells, fun b ob e hn ho => x1.objs b ob e hn (by show emptyTag (g.own b 0) = _; rw [ho]; rfl), x1.loops, x1.env⟩, Base.tr hb T (fun b o v e => ?_) hb.fresh (fun id ob e => .inl ⟨e, id, rfl⟩), fun b o => ?_, ?_⟩
  · obtain ⟨k1, k2⟩ := x1.other b o hlt (by show emptyTag (g.own b o) = _; rw [e]; rfl)
    refine ⟨?_, k2⟩
    rw [hback b o (fun ⟨id, j1, _⟩ => by rw [e] at j1; cases j1), k1]
  · obtain ⟨k1, k2⟩ := x2.mem b o v e
    exact ⟨k1, hsame b o _ k2 (by simp) (by simp)⟩
  · have h3 := x3 b o
    by_cases hc : ∃ id, g.own b o = .heap id ∧ b < w.heap.size
    · obtain ⟨id, j1, j2⟩ := hc
      rw [hkeep b o id j2 j1]; rfl
    · rw [hback b o hc]
      cases e : g'.own b o <;> rw [e] at h3 <;> first | rfl | exact h3
  · cases r with
    | ret v =>
      obtain ⟨u, k1, k2, k3⟩ := x4
      refine ⟨u, k1, Rep.noid (g := g') (g' := g.back g' w) (fun _ _ _ e => e) hn k2, ?_⟩
      cases v <;> try trivial
      · rename_i sz xs own
        cases own with
        | false => trivial
        | true => exact fun hne => hsp (k3 hne)
      · exact fun j sz xs hj hne us x hu hx => hsp (k3 j sz xs hj hne us x hu hx)
    | pan v =>
      obtain ⟨u, k1, k2⟩ := x4
      exact ⟨u, k1, Rep.noid (g := g') (g' := g.back g' w) (fun _ _ _ e => e) hn k2⟩

theorem fn_sound {call : CallF} (ih : CallOk P (CB P) call) (hm : P.follows .mixedOrders = true) {n k : Nat} {fi : IFn} (hk : chkFn P k fi = true) {args : List V} {H H' : Hp} {r : RV} (hs : runFn (exec call n) fi args H = some (r, H')) :
    (∀ (cargs : Array Value) (w : World), (callFunc k cargs).run P w = .ok (.enter k cargs) w) ∧
    ∀ (g : Gh) (w : World) (cargs : Array Value), Base (CB P) g H w → NoLoc g → RepL g args cargs.toList → CallsIn Fence.wide 0 P k cargs w (CPost (CB P) g w r H') := by
  unfold chkFn at hk
  split at hk
  case h_2 => cases hk
  rename_i fn hfn
  simp only [Bool.and_eq_true, decide_eq_true_eq] at hk
  obtain ⟨⟨⟨⟨h1, h2⟩, h3⟩, h4⟩, h5⟩ := hk
  split at h3
  case h_2 => cases h3
  rename_i c hc
  unfold runFn at hs
  refine ⟨fun cargs w => MuLone.run_callFunc_enter hfn (by simpa using h1) hc cargs w, fun g w cargs hb hnl hr => ?_⟩
  split at hs
  case isFalse => cases hs
  rename_i hlen
  have hcl : cargs.size = fi.np := by rw [← hlen, hr.length]; simp
  refine callsIn_of_wp_marks hfn hc trivial ?_
  have hrel : Rel (CB P) fn.ntmps g (fun _ => none) { tm := fun t => ((args[t]?).getD .junk).clr, bx := fun _ => none } H { tmps := cargs ++ Array.replicate (fn.ntmps - cargs.size) undef, defers := [] } w := by
    refine Rel.enter hb (by simp; omega) (fun t => ?_) (fun t => V.plain_clr _)
    cases ha : args[t]? with
    | none => exact .junk _
    | some v =>
      obtain ⟨u, k1, k2⟩ := hr.get t v ha
      have k1 : cargs[t]? = some u := by simpa using k1
      have : (cargs ++ Array.replicate (fn.ntmps - cargs.size) undef).getD t undef = u := by
        have hlt : t < cargs.size := (Array.getElem?_eq_some_iff.1 k1).1
        rw [Array.getD_eq_getD_getElem?, Array.getElem?_append_left hlt, k1]; rfl
      rw [this]
      exact k2.clr
  have hex : ∀ {e : Ex} {F1 : Fr} {H1 : Hp}, exec call n fi.code { tm := fun t => ((args[t]?).getD .junk).clr, bx := fun _ => none } H = some (e, F1, H1) →
      c.wpIn Fence.wide 0 P (Post (CB P) fn.ntmps g w F1 H1 e) { tmps := cargs ++ Array.replicate (fn.ntmps - cargs.size) undef, defers := [] } w := fun he =>
    exec_sound ih hm (fun _ _ _ h => h) (.inl rfl) fi.code h3 he hrel (fun l e => by cases e)
  have hret : ∀ {F1 : Fr} {vs : List V}, ∀ {H1 : Hp}, ressV F1 H1 fi.res = some (vs, H') → r = .ret (packV (if fi.rclr then vs.map (fun v => v.clr.hard) else vs.map V.give)) → ∀ {g1 : Gh} {lam1 : Nat → Option Nat} {a1 : Act} {w1 : World}, Rel (CB P) fn.ntmps g1 lam1 F1 H1 a1 w1 → Ext g w g1 w1 →
      LeavesInM Fence.wide 0 P fn a1.tmps (CPost (CB P) g w r H') a1.defers .returning w1 := by
    intro F1 vs H1 hvs hrv g1 lam1 a1 w1 k1 k2
    refine leaves (by simp) a1.defers rfl k1 k2 (fun a2 w2 ht k3 k4 => ?_)
    obtain ⟨g2, us, k5, k6, _, j1, j2, j3, j4⟩ := res_all (P := P) k3 h4 hvs
    rw [ht] at j1
    have hrun : (results fn a1.tmps).run P w2 = .ok (if h : us.toArray.size = 1 then us.toArray[0] else .tuple us.toArray) w2 := by
      rw [results_eq, Array.mapM_eq_mapM_toList]
      simp [Sem.run_bind, j1, Result.andThen]
    refine ⟨_, hrun, g2.retag (exitTag (fi.res.map keyTag)), (k4.trans k6).trans (exit_ext g2 w2 _), exit_base k5.base _, fun b o => exitTag_settled _ (g2.own b o), ?_⟩
    rw [hrv]
    simp only
    by_cases hrc : fi.rclr = true
    · rw [if_pos hrc]
      obtain ⟨p1, p2⟩ := pack_post (w := w2) (fun v => v.clr.hard) (fun _ _ _ h => h.clr.hard) (fun v sz xs e => by cases v <;> simp [V.clr, V.hard] at e) (fun v h => by cases v <;> first | rfl | exact h) h5 j2 j3 j4
      exact ⟨_, rfl, p1, p2⟩
    · rw [if_neg hrc]
      obtain ⟨p1, p2⟩ := pack_post (w := w2) V.give (fun _ _ _ h => h.give) (fun v sz xs e => by cases v <;> first | exact e | (simp [V.give] at e)) (fun v h => by cases v <;> first | rfl | exact h) h5 j2 j3 j4
      exact ⟨_, rfl, p1, p2⟩
  split at hs
  · rename_i F1 H1 he
    simp only [Option.map_eq_some_iff, Prod.mk.injEq] at hs
    obtain ⟨⟨vs, H3⟩, hvs, hrv, rfl⟩ := hs
    refine wpIn_mono (hex he) (fun ex a1 w1 hp => ?_)
    obtain ⟨g1, lam1, k1, k2, k3⟩ := hp
    cases k3
    exact hret hvs hrv.symm k1 k2
  · rename_i F1 H1 he
    simp only [Option.map_eq_some_iff, Prod.mk.injEq] at hs
    obtain ⟨⟨vs, H3⟩, hvs, hrv, rfl⟩ := hs
    refine wpIn_mono (hex he) (fun ex a1 w1 hp => ?_)
    obtain ⟨g1, lam1, k1, k2, k3⟩ := hp
    cases k3
    exact hret hvs hrv.symm k1 k2
  · rename_i v F1 H1 he
    cases hs
    refine wpIn_mono (hex he) (fun ex a1 w1 hp => ?_)
    obtain ⟨g1, lam1, k1, k2, u, rfl, k3⟩ := hp
    refine leaves (by simp) a1.defers rfl k1 k2 (fun a2 w2 ht k4 k5 => ?_)
    exact ⟨g1.retag (exitTag []), k5.trans (exit_ext g1 w2 _), exit_base k4.base _, fun b o => exitTag_settled [] (g1.own b o), u, rfl, k3.mono (g1.retag_le _)⟩
  · cases hs
theorem run_sound {T : Nat → Option IFn} (hm : P.follows .mixedOrders = true) (hT : ∀ k fi, T k = some fi → chkFn P k fi = true) : ∀ n, CallOk P (CB P) (run T n)
  | 0 => ⟨fun k args H r H' h => by simp [run] at h, fun id args H r H' h => by simp [run] at h⟩
  | n + 1 => by
    have ih := run_sound hm hT n
    refine ⟨fun k args H r H' hs => ?_, fun id args H r H' hs g w cargs b base cap hb hnl hr hmu => ?_⟩
    · -- a function
      simp only [run] at hs
      split at hs
      case h_2 => cases hs
      rename_i fi hfi
      have hk := hT k fi hfi
      split at hs
      · split at hs
        case isFalse => cases hs
        rename_i hna
        split at hs
        case h_2 => cases hs
        rename_i r0 H0 hrf
        split at hs
        case isFalse => cases hs
        rename_i hnr
        cases hs
        obtain ⟨k1, k2⟩ := fn_sound ih hm hk hrf
        refine ⟨k1, fun g w cargs hb hnl hr => ?_⟩
        exact callsIn_mono (k2 g.onEmpty w cargs (onEmpty_base hb) (onEmpty_noLoc hnl) (RepL.noid (g := g) (g' := g.onEmpty) (fun _ _ _ e => e) hna hr)) (fun ed w1 hp => back_post hb hnr hp)
      · exact fn_sound ih hm hk hs
    · -- a round
      simp only [run] at hs
      split at hs
      case h_2 => cases hs
      rename_i L hob
      split at hs
      case isFalse => cases hs
      rename_i hcond
      obtain ⟨hst, hlen⟩ := hcond
      split at hs
      case h_2 => cases hs
      rename_i F1 H1 hasg
      split at hs
      case h_2 => cases hs
      rename_i L1 hob1
      split at hs
      case isFalse => cases hs
      rename_i hst1
      split at hs
      case h_2 => cases hs
      rename_i e F2 H2 hbody
      obtain ⟨b', base', cap', m1, m2⟩ := hb.heap id _ hob
      rw [hmu] at m1; cases m1
      obtain ⟨rec, q1, q2, q3, q4, q5, q6, q7, q8, q9⟩ := m2
      have hsz : cargs.size = rec.params.size := by
        have := hr.length
        rw [hlen, ← q5] at this
        simpa using this.symm
      refine ⟨_, _, _, _, run_yield q1 hsz, roundIn_of_wpIn trivial ?_⟩
      have hsp := setParams_rep L.params (tm := fun t => (L.tm t).clr) (tmps := rec.tmps) hr (fun t => (q6 t).clr) (fun t => V.plain_clr _) q7
      have htm : (rec.params.zip cargs).foldl (fun tmps (t, a) => tmps.setIfInBounds t a) rec.tmps = (L.params.zip cargs.toList).foldl (fun tmps (t, a) => tmps.setIfInBounds t a) rec.tmps := by
        rw [← Array.foldl_toList, Array.toList_zip, q5]
      rw [htm]
      have hrel := Rel.enter hb hsp.1 (fun t => (hsp.2 t).1) (fun t => (hsp.2 t).2)
      have hFk : FOk (Fence.wide.inRound b) := .inr ⟨b, rfl⟩
      refine wpIn_mono (exec_sound ih hm (fun _ _ _ h => h) hFk L.asg q8 hasg hrel (fun l e => by cases e; exact ⟨rec, q1⟩)) (fun ex a1 w1 hp => ?_)
      obtain ⟨g1, lam1, k1, k2, k3⟩ := hp
      cases k3
      have hmu1 := k2.le.mu _ _ hmu
      obtain ⟨b1, base1, cap1, m1, m2⟩ := k1.base.heap id _ hob1
      rw [hmu1] at m1; cases m1
      obtain ⟨rec1, p1, p2, p3, p4, p5, p6, p7, p8, p9⟩ := m2
      have hready : rec1.state = .ready := by
        rw [hst1] at p3
        cases hh : rec1.state <;> rw [hh] at p3 <;> first | rfl | exact p3.elim
      have hlt1 : b < w1.heap.size := (Array.getElem?_eq_some_iff.1 p1).1
      obtain ⟨s1, s2⟩ := k1.putLoop (r' := { rec1 with state := .busy }) (base := base) (cap := cap) p1 p2 (some (.lp { L1 with st := .busy })) (fun ob e => by
        cases e
        exact ⟨hmu1, _, World.putObj_heap_same hlt1, p2, trivial, p4, p5, p6, p7, p8, p9⟩)
      refine ⟨_, run_beginRound p1 hready, ?_⟩
      refine wpIn_mono (exec_sound ih hm (fun _ _ _ h => h) hFk L.body q9 hbody s1 (fun l e => by cases e; exact ⟨_, World.putObj_heap_same hlt1⟩)) (fun ex a2 w2 hp => ?_)
      obtain ⟨g2, lam2, t1, t2, t3⟩ := hp
      have hx2 := (k2.trans s2).trans t2
      have hmu2 := (s2.trans t2).le.mu _ _ hmu1
      have fin : ∀ (L2 : LR) (jump : Option Code) (e : Ex) (st : LSt) (bb : Bool), H2.ob id = some (.lp L2) → jump.isNone = bb → st = (if bb then .ready else .done) → pendRel e jump →
          ∃ v w', (Instr.endRound b jump).run P w2 = .ok v w' ∧ CPost (CB P) g w (.ret (.b bb)) (H2.put id (some (.lp { L2 with st := st, pend := e }))) (.returned v) w' := by
        intro L2 jump e st bb ho2 hj hst2 hpe
        obtain ⟨b2, base2, cap2, m1, m2⟩ := t1.base.heap id _ ho2
        rw [hmu2] at m1; cases m1
        obtain ⟨rec2, o1, o2, o3, o4, o5, o6, o7, o8, o9⟩ := m2
        have hlt2 : b < w2.heap.size := (Array.getElem?_eq_some_iff.1 o1).1
        refine ⟨_, _, run_endRound jump o1, ?_⟩
        obtain ⟨z1, z2⟩ := t1.putLoop (r' := { rec2 with state := if jump.isNone then .ready else .done, pending := jump }) (base := base) (cap := cap) o1 o2 (some (.lp { L2 with st := st, pend := e })) (fun ob e' => by
          cases e'
          exact ⟨hmu2, _, World.putObj_heap_same hlt2, o2, by rw [hst2, hj]; cases bb <;> trivial, hpe, o5, o6, o7, o8, o9⟩)
        refine ⟨g2.retag (exitTag []), (hx2.trans z2).trans (exit_ext g2 _ _), exit_base z1.base _, fun b o => exitTag_settled [] (g2.own b o), .bool bb, by rw [hj], .b bb, trivial⟩
      split at hs
      · rename_i L2 ho2
        cases hs
        cases t3
        exact fin L2 none .normal .ready true ho2 rfl rfl trivial
      · rename_i L2 ho2
        cases hs
        cases t3
        exact fin L2 (some .ret) .ret .done false ho2 rfl rfl trivial
      · rename_i L2 j ho2
        cases hs
        cases t3
        exact fin L2 (some (.exit j)) (.exit j) .done false ho2 rfl rfl rfl
      · cases hs
end Go.Iv
#print axioms Go.Iv.run_sound
