/- Single operations, fourth part: interfaces, addresses, parts, slicing, lengths, tuples. No conditions. -/
import Derived.Test.YtpgojhgfhhgomaaIvOpb
namespace Go.Iv
set_option linter.unusedVariables false
set_option linter.unusedSimpArgs false
variable {P : Program} {CR : Nat → Code → IC → Prop} {N : Nat} {g g' : Gh} {lam : Nat → Option Nat} {F : Fr} {H : Hp} {a : Act} {w w' : World}

theorem sim_un (h : Rel CR N g lam F H a w) {o : Oper} {d : Option Nat} (hd : ∀ t, d = some t → t < N) {op : UnOp} {t : TypeId} {x : Operand} {x' : Rd}
    (ho : o.op = .unOp op t x) (hx : rdB x x' = true) {v : V} {F' : Fr} {H' : Hp} (hs : stepV (.un op x') d F H = some (v, F', H')) : Sim P CR N o d v F' H' g a w := by
  simp only [stepV] at hs
  split at hs
  · rename_i y e1
    cases hs
    have r1 := rd_rep h hx e1 (by intro t o e; cases e)
    generalize hu : a.eval x = ux at r1
    cases r1
    exact Sim.pure h hd (by simp [execOp, ho, hu, Op.unary]) (.b _) (fun _ => trivial)
  · rename_i k n e1
    cases hs
    have r1 := rd_rep h hx e1 (by intro t o e; cases e)
    generalize hu : a.eval x = ux at r1
    cases r1
    exact Sim.pure h hd (u := .int k (k.wrap (0 - n))) (by simp [execOp, ho, hu, Op.unary, Op.intArith]) (.i _ _) (fun _ => trivial)
  · cases hs

theorem sim_conv (h : Rel CR N g lam F H a w) {o : Oper} {d : Option Nat} (hd : ∀ t, d = some t → t < N) {k : IntKind} {src dst : TypeId} {x : Operand} {x' : Rd}
    (ho : o.op = .convert src dst x) (h1 : (P.underlying src).isSome = true) (h2 : P.underlying dst = some (.int k)) (hx : rdB x x' = true) {v : V} {F' : Fr} {H' : Hp} (hs : stepV (.conv k x') d F H = some (v, F', H')) : Sim P CR N o d v F' H' g a w := by
  simp only [stepV] at hs
  split at hs
  · rename_i k' n e1
    cases hs
    have r1 := rd_rep h hx e1 (by intro t o e; cases e)
    generalize hu : a.eval x = ux at r1
    cases r1
    exact Sim.pure h hd (u := .int k (k.wrap n)) (by have := run_convert_int (P := P) w src dst k' n h1; simp [execOp, ho, hu, convert, Sem.run_bind, run_underlying (Option.isSome_iff_exists.1 h1).choose_spec, run_underlying h2, Conv.intToInt]) (.i _ _) (fun _ => trivial)
  · cases hs
/-- a conversion that changes nothing: strings -/
theorem sim_idS (h : Rel CR N g lam F H a w) {o : Oper} {d : Option Nat} (hd : ∀ t, d = some t → t < N) {src dst : TypeId} {x : Operand} {x' : Rd} {d1 : TypeDesc}
    (ho : o.op = .convert src dst x) (h1 : P.underlying src = some d1) (h2 : P.underlying dst = some .string) (hx : rdB x x' = true) {v : V} {F' : Fr} {H' : Hp} (hs : stepV (.idS x') d F H = some (v, F', H')) : Sim P CR N o d v F' H' g a w := by
  simp only [stepV] at hs
  split at hs
  · rename_i s e1
    cases hs
    have r1 := rd_rep h hx e1 (by intro t o e; cases e)
    generalize hu : a.eval x = ux at r1
    cases r1
    exact Sim.pure h hd (u := .string s) (by simp [execOp, ho, hu, convert, Sem.run_bind, run_underlying h1, run_underlying h2]) (.s _) (fun _ => trivial)
  · cases hs

theorem sim_ifc (h : Rel CR N g lam F H a w) {o : Oper} {d : Option Nat} (hd : ∀ t, d = some t → t < N) {t : TypeId} {x : Operand} {x' : Rd} {d1 : TypeDesc}
    (ho : o.op = .makeInterface t x) (h1 : P.underlying t = some d1) (h2 : ∀ ms, d1 ≠ .interface ms) (hx : rdB x x' = true) {v : V} {F' : Fr} {H' : Hp} (hs : stepV (.ifc t x') d F H = some (v, F', H')) : Sim P CR N o d v F' H' g a w := by
  simp only [stepV] at hs
  split at hs
  · rename_i hf
    cases hs
    have r1 := out_rep h hx hf
    refine Sim.pure h hd (u := .iface t (a.eval x)) ?_ (.iface r1) (fun _ => trivial)
    simp only [execOp, ho, Instr.makeInterface, Sem.run_bind, run_underlying h1, Result.andThen]
    cases d1 <;> first | rfl | exact absurd rfl (h2 _)
  · cases hs

theorem fieldPlace_run {f : Field} {i : TypeInfo} (hi : P.info? f.type = some i) (hz : i.size ≠ 0) (b o : Nat) (w : World) : (fieldPlace ⟨b, o, none⟩ f).run P w = .ok ⟨b, o + f.offset, none⟩ w := by
  simp [fieldPlace, Sem.run_bind, sizeOf, typeInfo, hi, hz, addr_add]
theorem sim_fa (h : Rel CR N g lam F H a w) {o : Oper} {d : Option Nat} (hd : ∀ t, d = some t → t < N) {t : TypeId} {fi : Nat} {x : Operand} {x' : Rd} {fs : Array Field} {f : Field} {i : TypeInfo} {off : Nat}
    (ho : o.op = .fieldAddr t x fi) (h1 : P.underlying t = some (.struct fs)) (h2 : fs[fi]? = some f) (h3 : f.offset = off) (h4 : P.info? f.type = some i) (h5 : i.size ≠ 0) (hx : rdB x x' = true)
    {v : V} {F' : Fr} {H' : Hp} (hs : stepV (.fa off x') d F H = some (v, F', H')) : Sim P CR N o d v F' H' g a w := by
  subst h3
  have hrun : ∀ {b o' : Nat}, a.eval x = .pointer (some ⟨b, o', none⟩) → (execOp a.eval o).run P w = .ok (.value (.pointer (some ⟨b, o' + f.offset, none⟩))) w := by
    intro b o' e
    simp [execOp, ho, Instr.fieldAt, Sem.run_bind, run_underlying h1, h2, Instr.sureAddr, e, fieldPlace_run h4 h5]
  have hsr := rd_srep h hx
  simp only [stepV] at hs
  split at hs
  · rename_i cs hg
    split at hs
    · rename_i hle
      cases hs
      rw [hg] at hsr
      generalize hu : a.eval x = u at hsr
      cases hsr with
      | cptr hsp hm =>
        rename_i ad
        obtain ⟨b, o', sp⟩ := ad
        simp only at hsp; subst hsp
        exact Sim.pure h hd (hrun hu) (.cptr rfl (hm.drop _ hle)) (fun _ => trivial)
    · cases hs
  · rename_i t' o' hg
    cases hs
    rw [hg] at hsr
    obtain ⟨blk, k1, k2⟩ := hsr
    refine ⟨_, w, g, lam, .inl (hrun k2), h.put d hd ⟨blk, k1, rfl⟩ (fun _ _ => trivial) (fun t2 o2 e => ?_), .refl g w⟩
    cases e
    exact rd_ptr h hx t' o' (by rw [hg]; rfl)
  · rename_i id o' hg
    cases hs
    rw [hg] at hsr
    generalize hu : a.eval x = u at hsr
    cases hsr with
    | gptr hm => exact Sim.pure h hd (hrun hu) (by rw [Nat.add_assoc]; exact .gptr hm) (fun _ => trivial)
  · rename_i sz id i' o' hg
    cases hs
    rw [hg] at hsr
    generalize hu : a.eval x = u at hsr
    cases hsr with
    | aptr hm => exact Sim.pure h hd (hrun hu) (by rw [Nat.add_assoc]; exact .aptr hm) (fun _ => trivial)
  · cases hs

theorem part_fld {t : TypeId} {ag : Option Nat} (ht : aggOf P t = some ag) {cs : List V} {us : Array Value} (hr : RepL g cs us.toList) {off : Nat} {v : V} (hp : part cs off ag = some v) :
    ∃ u, (Go.part t us off).run P w = .ok u w ∧ Rep g v u ∧ v.plain = true := by
  cases ag with
  | none =>
    simp only [part, Option.map_eq_some_iff] at hp
    obtain ⟨c, hc, rfl⟩ := hp
    obtain ⟨x, h1, h2⟩ := hr.get off c hc
    obtain ⟨d, k1, k2, k3⟩ := aggOf_none ht
    refine ⟨x, ?_, h2.clr, V.plain_clr c⟩
    have : (isAgg t).run P w = .ok false w := by
      rw [run_isAgg k1]; cases d <;> first | rfl | exact absurd rfl (k2 _) | exact absurd rfl (k3 _ _)
    simp only [Array.getElem?_toList] at h1
    simp [Go.part, Sem.run_bind, this, h1]
  | some n =>
    simp only [part] at hp
    split at hp
    · rename_i hle
      cases hp
      obtain ⟨d, i, k1, k2, k3, k4⟩ := aggOf_some ht
      have : (isAgg t).run P w = .ok true w := by
        rw [run_isAgg k1]; rcases k4 with ⟨fs, rfl⟩ | ⟨m, e, rfl⟩ <;> rfl
      refine ⟨.agg (us.extract off (off + n)), by simp [Go.part, Sem.run_bind, this, sizeOf, typeInfo, k2, k3], .agg ?_, rfl⟩
      have := ((hr.drop off).take n).clr
      simpa [Array.toList_extract, List.extract_eq_take_drop] using this
    · cases hp
theorem sim_fld (h : Rel CR N g lam F H a w) {o : Oper} {d : Option Nat} (hd : ∀ t, d = some t → t < N) {t : TypeId} {fi : Nat} {x : Operand} {x' : Rd} {fs : Array Field} {f : Field} {ag : Option Nat} {off : Nat}
    (ho : o.op = .field t x fi) (h1 : P.underlying t = some (.struct fs)) (h2 : fs[fi]? = some f) (h3 : f.offset = off) (h4 : aggOf P f.type = some ag) (hx : rdB x x' = true)
    {v : V} {F' : Fr} {H' : Hp} (hs : stepV (.fld off ag x') d F H = some (v, F', H')) : Sim P CR N o d v F' H' g a w := by
  subst h3
  simp only [stepV] at hs
  split at hs
  · rename_i cs hg
    simp only [Option.map_eq_some_iff, Prod.mk.injEq] at hs
    obtain ⟨v', hp, rfl, rfl, rfl⟩ := hs
    have hsr := rd_rep h hx hg (by intro t o e; cases e)
    generalize hu : a.eval x = u at hsr
    cases hsr with
    | agg hl =>
      obtain ⟨u, k1, k2, k3⟩ := part_fld (w := w) h4 hl hp
      exact Sim.pure h hd (by simp [execOp, ho, hu, Instr.field, Sem.run_bind, run_underlying h1, h2, asAgg, k1]) k2 (fun _ => SOwn.plain k3)
  · cases hs

theorem idx_some {v : V} {n : Nat} (h : idx v = some n) : ∃ k i, v = .i k i ∧ 0 ≤ i ∧ i.toNat = n := by
  cases v <;> simp [idx] at h
  rename_i k i
  exact ⟨k, i, rfl, h.1, h.2⟩
theorem rd_idx (h : Rel CR N g lam F H a w) {x : Operand} {x' : Rd} (hx : rdB x x' = true) {n : Nat} (hi : idx (x'.get F) = some n) : ∃ k i, a.eval x = .int k i ∧ 0 ≤ i ∧ i.toNat = n := by
  obtain ⟨k, i, e1, h1, h2⟩ := idx_some hi
  have := rd_rep h hx e1 (by intro t o e; cases e)
  generalize hu : a.eval x = u at this
  cases this
  exact ⟨k, i, rfl, h1, h2⟩

theorem sim_ia (h : Rel CR N g lam F H a w) {o : Oper} {d : Option Nat} (hd : ∀ t, d = some t → t < N) {t e : TypeId} {x y : Operand} {x' y' : Rd} {i : TypeInfo} {sz : Nat}
    (ho : o.op = .indexAddr t x y) (h1 : P.underlying t = some (.slice e)) (h2 : P.info? e = some i) (h3 : i.size = sz) (hx : rdB x x' = true) (hy : rdB y y' = true)
    {v : V} {F' : Fr} {H' : Hp} (hs : stepV (.ia sz x' y') d F H = some (v, F', H')) : Sim P CR N o d v F' H' g a w := by
  subst h3
  simp only [stepV, Option.bind_eq_some_iff] at hs
  obtain ⟨n, hi, hs⟩ := hs
  obtain ⟨k, ix, e1, hix, hn⟩ := rd_idx h hy hi
  have hrun : ∀ {b o' len cap : Nat}, a.eval x = .slice (some ⟨b, o', none⟩) len cap → n < len → (execOp a.eval o).run P w = .ok (.value (.pointer (some ⟨b, o' + n * i.size, none⟩))) w := by
    intro b o' len cap e hlt
    have : 0 ≤ ix ∧ ix < (len : Int) := ⟨hix, by omega⟩
    simp [execOp, ho, Instr.indexAt, Sem.run_bind, e1, e, asIntOf, run_underlying h1, this, sizeOf, typeInfo, h2, addr_add, hn]
  split at hs
  · rename_i sz' xs own hg
    split at hs
    · rename_i e; subst e
      simp only [Option.map_eq_some_iff, Prod.mk.injEq] at hs
      obtain ⟨c, hc, rfl, rfl, rfl⟩ := hs
      have hsr := rd_rep h hx hg (by intro t o e; cases e)
      generalize hu : a.eval x = u at hsr
      cases hsr with
      | nil => simp at hc
      | list hsp hle hcn hel =>
        rename_i ad cap
        obtain ⟨b, o', sp⟩ := ad
        have hsp := hsp (fun e => by subst e; simp at hc)
        simp only at hsp; subst hsp
        obtain ⟨hf, hm⟩ := hel.get n c hc
        exact Sim.pure h hd (hrun hu (List.getElem?_eq_some_iff.1 hc).1) (.cptr rfl hm) (fun _ => trivial)
    · cases hs
  · rename_i sz' id off len hg
    split at hs
    · rename_i e
      obtain ⟨rfl, hlt⟩ := e
      cases hs
      have hsr := rd_rep h hx hg (by intro t o e; cases e)
      generalize hu : a.eval x = u at hsr
      cases hsr with
      | hs hm hle =>
        exact Sim.pure h hd (hrun hu hlt) (by rw [Nat.add_assoc, ← Nat.add_mul]; exact .aptr (o := 0) hm) (fun _ => trivial)
    · cases hs
  · cases hs

theorem sim_ixs (h : Rel CR N g lam F H a w) {o : Oper} {d : Option Nat} (hd : ∀ t, d = some t → t < N) {t : TypeId} {x y : Operand} {x' y' : Rd}
    (ho : o.op = .index t x y) (h1 : P.underlying t = some .string) (hx : rdB x x' = true) (hy : rdB y y' = true)
    {v : V} {F' : Fr} {H' : Hp} (hs : stepV (.ixs x' y') d F H = some (v, F', H')) : Sim P CR N o d v F' H' g a w := by
  simp only [stepV, Option.bind_eq_some_iff] at hs
  obtain ⟨n, hi, hs⟩ := hs
  obtain ⟨k, ix, e1, hix, hn⟩ := rd_idx h hy hi
  split at hs
  · rename_i s hg
    simp only [Option.map_eq_some_iff, Prod.mk.injEq] at hs
    obtain ⟨c, hc, rfl, rfl, rfl⟩ := hs
    have hsr := rd_rep h hx hg (by intro t o e; cases e)
    generalize hu : a.eval x = u at hsr
    cases hsr
    exact Sim.pure h hd (u := .int .u8 c.toNat) (by simp [execOp, ho, Instr.index, Sem.run_bind, e1, hu, asIntOf, run_underlying h1, hix, hn, hc]) (.i _ _) (fun _ => trivial)
  · cases hs

theorem notPlain {c : V} (h : ¬ c.plain = true) (hn : ∀ ws, c ≠ .tuple ws) : ∃ sz xs, c = .list sz xs true ∧ xs ≠ [] := by
  cases c with
  | list sz xs own => cases own with
    | true => exact ⟨sz, xs, rfl, fun e => h (by simp [V.plain, e])⟩
    | false => exact absurd rfl h
  | tuple ws => exact absurd rfl (hn ws)
  | _ => exact absurd rfl h
theorem RepL.setJunk : ∀ {vs : List V} {us : List Value} (i : Nat), RepL g vs us → RepL g (vs.set i .junk) us
  | _, _, _, .nil => .nil
  | _, _, 0, .cons p q => .cons (.junk _) q
  | _, _, i + 1, .cons p q => .cons p (q.setJunk i)
def extTag (s i d : Nat) : Ow → Ow
  | .spare t j => if t = s ∧ j = i then .spare d 0 else if t = d then .gone else .spare t j
  | x => x
theorem extTag_fix (s i d : Nat) : FixB (extTag s i d) := ⟨rfl, fun _ => rfl, rfl, rfl, fun _ => rfl⟩
theorem sim_ext (h : Rel CR N g lam F H a w) {o : Oper} {d : Option Nat} (hd : ∀ t, d = some t → t < N) {x : Operand} {x' : Rd} {i : Nat}
    (ho : o.op = .extract x i) (hx : rdB x x' = true) {v : V} {F' : Fr} {H' : Hp} (hs : stepV (.ext x' i) d F H = some (v, F', H')) : Sim P CR N o d v F' H' g a w := by
  simp only [stepV] at hs
  split at hs
  · rename_i s
    split at hs
    · rename_i vs hg
      simp only [Option.bind_eq_some_iff] at hs
      obtain ⟨c, hc, hs⟩ := hs
      obtain ⟨hnt, hs⟩ : (∀ ws, c ≠ .tuple ws) ∧ some (c, { F with tm := upd F.tm s (.tuple (vs.set i .junk)) }, H) = some (v, F', H') := by
        split at hs
        · cases hs
        · rename_i hh; exact ⟨hh, hs⟩
      simp only [Option.some.injEq, Prod.mk.injEq] at hs
      obtain ⟨rfl, rfl, rfl⟩ := hs
      have hsr := rd_rep h hx (v := .tuple vs) (by simpa [Rd.get] using hg) (by intro t o e; cases e)
      have hxs : x = .tmp s := by
        cases x <;> simp [rdB] at hx
        subst hx; rfl
      subst hxs
      have hso := h.sown s
      have hsl := h.slot s
      rw [hg] at hso hsl
      simp only [Act.eval] at hsr
      generalize hu : a.tmps.getD s undef = u at hsr hso hsl
      cases hsr with
      | tuple hl =>
        rename_i us
        obtain ⟨y, k1, k2⟩ := hl.get i c hc
        have hrun : (execOp a.eval o).run P w = .ok (.value y) w := by
          simp only [Array.getElem?_toList] at k1
          simp [execOp, ho, Act.eval, hu, Instr.extract, k1]
        -- the tuple without the component
        have hilt : i < vs.length := (List.getElem?_eq_some_iff.1 hc).1
        have hset : RepL g (vs.set i .junk) us.toList := hl.setJunk i
        have h1 : Rel CR N g lam { F with tm := upd F.tm s (.tuple (vs.set i .junk)) } H a w := by
          refine ⟨h.base, h.sz, fun t => ?_, fun t => ?_, h.box, fun t t' o' e => ?_, h.dfr, h.dfrN⟩
          · by_cases ht : t = s
            · subst ht; simp only [upd, if_true]; rw [hu]; exact Rep.tuple hset
            · simpa [upd, ht] using h.slot t
          · by_cases ht : t = s
            · subst ht; simp only [upd, if_true]; rw [hu]
              intro j sz xs hj hne us' x' hu' hx'
              refine hso j sz xs ?_ hne us' x' hu' hx'
              rw [List.getElem?_set] at hj
              split at hj
              · rename_i e; subst e; simp [hilt] at hj
              · exact hj
            · simpa [upd, ht] using h.sown t
          · by_cases ht : t = s
            · subst ht; simp [upd] at e
            · simp only [upd, ht, if_false] at e; exact h.ptr t t' o' e
        cases d with
        | none => exact ⟨y, w, g, lam, .inl hrun, h1, .refl g w⟩
        | some d =>
          by_cases hpl : c.plain = true
          · exact ⟨y, w, g, lam, .inl hrun, h1.put (some d) hd k2.srep (fun _ _ => SOwn.plain hpl) (fun t o' e => absurd e (k2.notL t o')), .refl g w⟩
          · -- ownership goes along
            obtain ⟨sz, xs, rfl, hne⟩ : ∃ sz xs, c = .list sz xs true ∧ xs ≠ [] := by
              exact notPlain hpl hnt
            have h2 := (h1.junk d).retag (extTag_fix s i d) (fun t j hoj => by
                by_cases e1 : t = d
                · subst e1; simp [upd, owns] at hoj
                · by_cases e2 : t = s ∧ j = i
                  · obtain ⟨rfl, rfl⟩ := e2
                    exfalso
                    simp only [upd, e1, if_false, if_true, owns] at hoj
                    obtain ⟨sz', xs', hh, _⟩ := hoj
                    simp [hilt] at hh
                  · simp [extTag, e1, e2]) (fun t cs j sz xs _ _ _ => rfl)
            have hsp : Spare (g.retag (extTag s i d)) w (.spare d 0) sz y :=
              Spare.retag (hso i sz xs hc hne us y rfl (by simpa using k1)) (by simp [extTag])
            have h3 := h2.put (some d) (fun t e => hd t e) (v := .list sz xs true) (u := y) (k2.mono (g.retag_le _)).srep (fun t e => by cases e; exact fun _ => hsp) (fun t o e => by cases e)
            refine ⟨y, w, _, lam, .inl hrun, ?_, .retag g w (extTag_fix s i d)⟩
            have he : (({ ({ F with tm := upd F.tm s (.tuple (vs.set i .junk)) } : Fr) with tm := upd (upd F.tm s (.tuple (vs.set i .junk))) d .junk } : Fr).put (some d) (.list sz xs true)) = ({ F with tm := upd F.tm s (.tuple (vs.set i .junk)) } : Fr).put (some d) (.list sz xs true) := by
              simp only [Fr.put, Fr.mk.injEq, and_true]
              funext j
              simp only [upd]
              split <;> rfl
            rw [← he]; exact h3
    · cases hs
  · cases hs

theorem sim_len (h : Rel CR N g lam F H a w) {o : Oper} {d : Option Nat} (hd : ∀ t, d = some t → t < N) {t : TypeId} {x : Operand} {x' : Rd} {ts : Array TypeId} {str : Bool}
    (ho : o.op = .call { callee := .builtin .len, args := #[x], argTypes := ts }) (h0 : ts[0]? = some t) (h1 : (if str then P.underlying t = some .string else ∃ e, P.underlying t = some (.slice e))) (hx : rdB x x' = true)
    {v : V} {F' : Fr} {H' : Hp} (hs : stepV (.len str x') d F H = some (v, F', H')) : Sim P CR N o d v F' H' g a w := by
  have hrun : ∀ {u : Value}, (Builtin.len_ ts o.type #[a.eval x]).run P w = .ok u w → (execOp a.eval o).run P w = .ok (.value u) w := by
    intro u e
    simp [execOp, ho, resolve, Sem.run_bind, invoke, builtin, e]
  simp only [stepV] at hs
  split at hs
  · rename_i sz xs own hg
    cases hs
    obtain ⟨e, he⟩ := h1
    have hsr := rd_rep h hx hg (by intro t o e; cases e)
    generalize hu : a.eval x = u at hsr hrun
    cases hsr with
    | nil => exact Sim.pure h hd (u := goInt 0) (hrun (by simp [Builtin.len_, h0, Sem.run_bind, run_underlying he])) (.i _ _) (fun _ => trivial)
    | list => exact Sim.pure h hd (hrun (by simp [Builtin.len_, h0, Sem.run_bind, run_underlying he]; rfl)) (.i _ _) (fun _ => trivial)
  · rename_i s hg
    cases hs
    have hsr := rd_rep h hx hg (by intro t o e; cases e)
    generalize hu : a.eval x = u at hsr hrun
    cases hsr
    exact Sim.pure h hd (hrun (by simp [Builtin.len_, h0, Sem.run_bind, run_underlying h1]; rfl)) (.i _ _) (fun _ => trivial)
  · rename_i sz id off len hg
    cases hs
    obtain ⟨e, he⟩ := h1
    have hsr := rd_rep h hx hg (by intro t o e; cases e)
    generalize hu : a.eval x = u at hsr hrun
    cases hsr
    exact Sim.pure h hd (hrun (by simp [Builtin.len_, h0, Sem.run_bind, run_underlying he]; rfl)) (.i _ _) (fun _ => trivial)
  · cases hs

def oRd : Option Operand → Option Rd → Bool
  | none, none => true
  | some x, some y => rdB x y
  | _, _ => false
theorem oidx_run (h : Rel CR N g lam F H a w) {x : Option Operand} {y : Option Rd} (hr : oRd x y = true) {n d : Nat} (hi : oidx F d y = some n) :
    (x = none ∧ n = d) ∨ ∃ z k i, x = some z ∧ a.eval z = .int k i ∧ 0 ≤ i ∧ i.toNat = n := by
  cases x <;> cases y <;> simp [oRd] at hr
  · simp [oidx] at hi; exact .inl ⟨rfl, hi.symm⟩
  · rename_i z y
    obtain ⟨k, i, e1, e2, e3⟩ := rd_idx h hr (by simpa [oidx] using hi)
    exact .inr ⟨z, k, i, rfl, e1, e2, e3⟩
theorem run_bounds (h : Rel CR N g lam F H a w) {lo hi : Option Operand} {lo' hi' : Option Rd} (h1 : oRd lo lo' = true) (h2 : oRd hi hi' = true) {l h' len cap : Nat} (e1 : oidx F 0 lo' = some l) (e2 : oidx F len hi' = some h')
    (hl : l ≤ h') (hh : h' ≤ len) (hc : len ≤ cap) (b : Bool) : (Instr.sliceBounds b len cap (lo.map a.eval) (hi.map a.eval) none).run P w = .ok (l, h', cap) w := by
  rcases oidx_run h h1 e1 with ⟨rfl, rfl⟩ | ⟨z, k, i, rfl, z1, z2, z3⟩ <;> rcases oidx_run h h2 e2 with ⟨rfl, rfl⟩ | ⟨z', k', i', rfl, y1, y2, y3⟩
  · simp [Instr.sliceBounds, Sem.run_bind]
  · have hs := run_sliceBound (P := P) (w := w) k' i' cap (if b then .sliceAcap else .sliceAlen) y2 (by omega)
    simp [Instr.sliceBounds, Sem.run_bind, y1, hs, y3]
  · have hs := run_sliceBound (P := P) (w := w) k i h' .sliceB z2 (by omega)
    simp [Instr.sliceBounds, Sem.run_bind, z1, hs, z3]
  · have hs := run_sliceBound (P := P) (w := w) k' i' cap (if b then .sliceAcap else .sliceAlen) y2 (by omega)
    have hs2 := run_sliceBound (P := P) (w := w) k i h' .sliceB z2 (by omega)
    simp [Instr.sliceBounds, Sem.run_bind, y1, hs, y3, z1, hs2, z3]

theorem sim_slc (h : Rel CR N g lam F H a w) {o : Oper} {d : Option Nat} (hd : ∀ t, d = some t → t < N) {t e : TypeId} {x : Operand} {x' : Rd} {lo hi : Option Operand} {lo' hi' : Option Rd} {i : TypeInfo} {sz : Nat}
    (ho : o.op = .slice t x lo hi none) (h1 : P.underlying t = some (.slice e)) (h2 : P.info? e = some i) (h3 : i.size = sz) (hx : rdB x x' = true) (hlo : oRd lo lo' = true) (hhi : oRd hi hi' = true)
    {v : V} {F' : Fr} {H' : Hp} (hs : stepV (.slc (some sz) x' lo' hi') d F H = some (v, F', H')) : Sim P CR N o d v F' H' g a w := by
  subst h3
  have hrun : ∀ {ad : Option Addr} {len cap l h' : Nat}, a.eval x = .slice ad len cap → (Instr.sliceBounds true len cap (lo.map a.eval) (hi.map a.eval) none).run P w = .ok (l, h', cap) w →
      (execOp a.eval o).run P w = .ok (.value (.slice (if cap = l then ad else ad.map (·.add (l * i.size))) (h' - l) (cap - l))) w := by
    intro ad len cap l h' e1 e2
    simp [execOp, ho, Instr.sliceAt, Instr.slice, Sem.run_bind, run_underlying h1, e1, e2, sizeOf, typeInfo, h2]
  simp only [stepV] at hs
  split at hs
  · rename_i sz' xs own hk hg
    cases hk
    simp only [Option.bind_eq_some_iff] at hs
    obtain ⟨l, hl, h', hh, hs⟩ := hs
    split at hs
    · rename_i hc
      obtain ⟨rfl, hle, hle2⟩ := hc
      cases hs
      have hsr := rd_rep h hx hg (by intro t o e; cases e)
      generalize hu : a.eval x = u at hsr hrun
      cases hsr with
      | nil =>
        have hb := run_bounds (P := P) h hlo hhi hl hh hle hle2 (Nat.le_refl _) true
        simp only [List.length_nil] at hb hle2
        obtain rfl : h' = 0 := by omega
        obtain rfl : l = 0 := by omega
        exact Sim.pure h hd (hrun rfl hb) (by simpa using Rep.nil _ _) (fun _ => trivial)
      | list hsp hcap hcn hel =>
        rename_i ad cap
        obtain ⟨b, o', sp⟩ := ad
        have hb := run_bounds (P := P) h hlo hhi hl hh hle hle2 hcap true
        have hlen : ((xs.take h').drop l).length = h' - l := by simp; omega
        refine Sim.pure h hd (hrun rfl hb) ?_ (fun _ => trivial)
        have hE := (hel.take h').drop l
        by_cases hcl : cap = l
        · subst hcl
          have hnil : (xs.take h').drop cap = [] := List.eq_nil_of_length_eq_zero (by omega)
          have hz : h' - cap = 0 := by omega
          simp only [if_true, hnil, hz]
          exact Rep.list (xs := []) (fun h => absurd rfl h) (by simp) (by simp) .nil
        · by_cases hxe : xs = []
          · subst hxe
            simp only [hcl, if_false, Option.map_some]
            have h0 : h' - l = 0 := by simp at hle2; omega
            rw [h0]
            simp only [List.take_nil, List.drop_nil]
            exact Rep.list (fun h => absurd rfl h) (by simp) (by simp) .nil
          · have hsp := hsp hxe
            simp only at hsp; subst hsp
            simp only [hcl, if_false, Option.map_some, addr_add]
            rw [← hlen]
            exact Rep.list (fun _ => rfl) (by omega) (by simp) hE
    · cases hs
  · rename_i s hk hg; cases hk
  · rename_i sz' id off len hk hg
    cases hk
    simp only [Option.bind_eq_some_iff] at hs
    obtain ⟨l, hl, h', hh, hs⟩ := hs
    split at hs
    · rename_i hc
      obtain ⟨rfl, hle, hle2⟩ := hc
      cases hs
      have hsr := rd_rep h hx hg (by intro t o e; cases e)
      generalize hu : a.eval x = u at hsr hrun
      cases hsr with
      | hs hm hcap =>
        rename_i b base cap
        have hb := run_bounds (P := P) h hlo hhi hl hh (by omega) hle2 (show len ≤ cap - off by omega) true
        refine Sim.pure h hd (hrun rfl hb) ?_ (fun _ => trivial)
        have hcl : ¬ cap - off = l := by omega
        simp only [hcl, if_false, Option.map_some, addr_add]
        have := Rep.hs (g := g) (sz := i.size) (id := id) (off := off + l) (len := h' - l) hm (by omega)
        rw [show base + off * i.size + l * i.size = base + (off + l) * i.size by rw [Nat.add_mul]; omega, show cap - off - l = cap - (off + l) by omega]
        exact this
    · cases hs
  · cases hs
theorem sim_slcS (h : Rel CR N g lam F H a w) {o : Oper} {d : Option Nat} (hd : ∀ t, d = some t → t < N) {t : TypeId} {x : Operand} {x' : Rd} {lo hi : Option Operand} {lo' hi' : Option Rd}
    (ho : o.op = .slice t x lo hi none) (h1 : P.underlying t = some .string) (hx : rdB x x' = true) (hlo : oRd lo lo' = true) (hhi : oRd hi hi' = true)
    {v : V} {F' : Fr} {H' : Hp} (hs : stepV (.slc none x' lo' hi') d F H = some (v, F', H')) : Sim P CR N o d v F' H' g a w := by
  simp only [stepV] at hs
  split at hs
  · rename_i hk _; cases hk
  · rename_i s hk hg
    simp only [Option.bind_eq_some_iff] at hs
    obtain ⟨l, hl, h', hh, hs⟩ := hs
    split at hs
    · rename_i hc
      cases hs
      have hb := run_bounds (P := P) h hlo hhi hl hh hc.1 hc.2 (Nat.le_refl _) false
      have hsr := rd_rep h hx hg (by intro t o e; cases e)
      generalize hu : a.eval x = u at hsr
      cases hsr
      exact Sim.pure h hd (u := .string (s.extract l h')) (by simp [execOp, ho, Instr.sliceAt, Instr.slice, Sem.run_bind, run_underlying h1, hu, hb]) (.s _) (fun _ => trivial)
    · cases hs
  · rename_i hk _; cases hk
  · cases hs

theorem sim_minmax (h : Rel CR N g lam F H a w) {o : Oper} {d : Option Nat} (hd : ∀ t, d = some t → t < N) {x y : Operand} {x' y' : Rd} {ts : Array TypeId} {mx : Bool}
    (ho : o.op = .call { callee := .builtin (if mx then .max else .min), args := #[x, y], argTypes := ts }) (hx : rdB x x' = true) (hy : rdB y y' = true)
    {v : V} {F' : Fr} {H' : Hp} (hs : stepV (.minmax mx [x', y']) d F H = some (v, F', H')) : Sim P CR N o d v F' H' g a w := by
  simp only [stepV, List.map_cons, List.map_nil] at hs
  split at hs
  · rename_i k n k' n' hg
    simp only [List.cons.injEq, and_true] at hg
    obtain ⟨g1, g2⟩ := hg
    split at hs
    · rename_i e; subst e
      cases hs
      have r1 := rd_rep h hx g1 (by intro t o e; cases e)
      have r2 := rd_rep h hy g2 (by intro t o e; cases e)
      generalize hu : a.eval x = ux at r1
      generalize hv : a.eval y = uy at r2
      cases r1; cases r2
      cases mx
      · refine Sim.pure h hd (u := .int k (if n' < n then n' else n)) ?_ (by simpa using Rep.i _ _) (fun _ => trivial)
        simp only [execOp, ho, resolve, Sem.run_bind, Bool.false_eq_true, if_false, Sem.run_pure, Result.andThen, invoke, builtin, List.map_toArray, List.map_cons, List.map_nil, hu, hv, Builtin.min_, List.foldlM_cons, List.foldlM_nil, Builtin.min2]
      · refine Sim.pure h hd (u := .int k (if n < n' then n' else n)) ?_ (by simpa using Rep.i _ _) (fun _ => trivial)
        simp only [execOp, ho, resolve, Sem.run_bind, if_true, Sem.run_pure, Result.andThen, invoke, builtin, List.map_toArray, List.map_cons, List.map_nil, hu, hv, Builtin.max_, List.foldlM_cons, List.foldlM_nil, Builtin.max2]
    · cases hs
  · cases hs
end Go.Iv
