/- Single operations, fifth part: what makes memory: boxes, structs, slice literals, function values. No conditions. -/
import Derived.Test.YtpgojhgfhhgomaaIvOpc
namespace Go.Iv
set_option linter.unusedVariables false
set_option linter.unusedSimpArgs false
variable {P : Program} {CR : Nat → Code → IC → Prop} {N : Nat} {g g' : Gh} {lam : Nat → Option Nat} {F : Fr} {H : Hp} {a : Act} {w w' : World}

theorem foldSet (off : Nat) : ∀ (vs : List Value) (k : Nat) (cs : Array Value), off + k + vs.length ≤ cs.size →
    ((vs.zipIdx k).foldl (fun cs (x : Value × Nat) => cs.setIfInBounds (off + x.2) x.1) cs).toList = cs.toList.take (off + k) ++ vs ++ cs.toList.drop (off + k + vs.length)
  | [], k, cs, h => by simp
  | v :: vs, k, cs, h => by
    simp only [List.length_cons] at h
    rw [List.zipIdx_cons, List.foldl_cons, foldSet off vs (k + 1) _ (by simp; omega)]
    have hlt : off + k < cs.toList.length := by simp; omega
    simp only [Array.toList_setIfInBounds, List.length_cons]
    have e1 : (cs.toList.set (off + k) v).take (off + (k + 1)) = cs.toList.take (off + k) ++ [v] := by
      rw [show off + (k + 1) = (off + k) + 1 by omega, List.take_succ_eq_append_getElem (by simpa using hlt)]
      simp [List.take_set_of_le]
    have e2 : (cs.toList.set (off + k) v).drop (off + (k + 1) + vs.length) = cs.toList.drop (off + k + (vs.length + 1)) := by
      rw [List.drop_set_of_lt (by omega)]; congr 1; omega
    rw [e1, e2]; simp
theorem fill_one (cells : Array Value) (off : Nat) (v : Value) (h : off + v.cells.size ≤ cells.size) :
    (v.cells.zipIdx.foldl (fun cs (x : Value × Nat) => cs.setIfInBounds (off + x.2) x.1) cells).toList = cells.toList.take off ++ v.cells.toList ++ cells.toList.drop (off + v.cells.size) := by
  rw [← Array.foldl_toList, Array.toList_zipIdx]
  have := foldSet off v.cells.toList 0 cells (by simpa using h)
  simpa using this
theorem splice_rep {cs vs cs' : List V} {us xs : List Value} {o : Nat} (h : splice cs o vs = some cs') (hc : RepL g cs us) (hv : RepL g vs xs) : RepL g cs' (us.take o ++ xs ++ us.drop (o + xs.length)) ∧ o + xs.length ≤ us.length := by
  unfold splice at h
  split at h
  · rename_i hle
    cases h
    rw [← hv.length, ← hc.length]
    exact ⟨((hc.take o).append hv).append (hc.drop _), hle⟩
  · cases h
theorem build_fill (h : Rel CR N g lam F H a w) (pl : Nat → Option (Nat × Nat)) : ∀ (ps : List (Nat × Operand)) (qs : List (Nat × Nat × Rd)) (zs cs : List V) (cells : Array Value), ps.length = qs.length →
    (∀ (k i : Nat) (x : Operand) (o n : Nat) (y : Rd), ps[k]? = some (i, x) → qs[k]? = some (o, n, y) → pl i = some (o, n) ∧ rdB x y = true) → RepL g zs cells.toList → buildV F zs qs = some cs →
    ∃ cells', Instr.fill pl cells (ps.map fun (i, x) => (i, a.eval x)) = some cells' ∧ RepL g cs cells'.toList
  | [], [], zs, cs, cells, _, _, hz, hb => by simp only [buildV, Option.some.injEq] at hb; subst hb; exact ⟨cells, rfl, hz⟩
  | (i, x) :: ps, (o, n, y) :: qs, zs, cs, cells, hl, hm, hz, hb => by
    obtain ⟨h1, h2⟩ := hm 0 i x o n y rfl rfl
    simp only [buildV] at hb
    split at hb
    · rename_i hc
      simp only [Bool.and_eq_true] at hc
      simp only [Option.bind_eq_some_iff] at hb
      obtain ⟨zs', hs, hb⟩ := hb
      have hr := val_rep h h2 hc.1
      have hcl := hr.cells hc.1
      have hn := V.fits_len hc.2
      obtain ⟨k1, k2⟩ := splice_rep hs hz hcl
      have hsz : (a.eval x).cells.size = n := by rw [← hn, hcl.length]; simp
      have k2' : o + (a.eval x).cells.size ≤ cells.size := by simpa using k2
      have hf := fill_one cells o (a.eval x) k2'
      obtain ⟨cells', e1, e2⟩ := build_fill h pl ps qs zs' cs ((a.eval x).cells.zipIdx.foldl (fun cs (x : Value × Nat) => cs.setIfInBounds (o + x.2) x.1) cells) (by simpa using hl) (fun k => by simpa using hm (k + 1)) (by rw [hf]; simpa using k1) hb
      refine ⟨cells', ?_, e2⟩
      simp only [List.map_cons, Instr.fill, h1]
      rw [if_neg (by simp [hsz]; omega)]
      exact e1
    · cases hb

def partsB (pl : Nat → Option (Nat × Nat)) : List (Nat × Operand) → List (Nat × Nat × Rd) → Bool
  | [], [] => true
  | (i, x) :: ps, (o, n, y) :: qs => (pl i == some (o, n)) && rdB x y && partsB pl ps qs
  | _, _ => false
theorem partsB_len {pl : Nat → Option (Nat × Nat)} : ∀ {ps : List (Nat × Operand)} {qs : List (Nat × Nat × Rd)}, partsB pl ps qs = true → ps.length = qs.length
  | [], [], _ => rfl
  | (i, x) :: ps, (o, n, y) :: qs, h => by simp [partsB] at h; simp [partsB_len h.2]
  | [], _ :: _, h => by simp [partsB] at h
  | _ :: _, [], h => by simp [partsB] at h
theorem partsB_spec {pl : Nat → Option (Nat × Nat)} : ∀ {ps : List (Nat × Operand)} {qs : List (Nat × Nat × Rd)}, partsB pl ps qs = true → ∀ (k i : Nat) (x : Operand) (o n : Nat) (y : Rd), ps[k]? = some (i, x) → qs[k]? = some (o, n, y) → pl i = some (o, n) ∧ rdB x y = true
  | [], [], _, k, i, x, o, n, y, h1, h2 => by simp at h1
  | (i', x') :: ps, (o', n', y') :: qs, h, 0, i, x, o, n, y, h1, h2 => by simp [partsB] at h; simp at h1 h2; obtain ⟨rfl, rfl⟩ := h1; obtain ⟨rfl, rfl, rfl⟩ := h2; exact h.1
  | (i', x') :: ps, (o', n', y') :: qs, h, k + 1, i, x, o, n, y, h1, h2 => by simp [partsB] at h; exact partsB_spec h.2 k i x o n y (by simpa using h1) (by simpa using h2)
  | [], _ :: _, h, _, _, _, _, _, _, _, _ => by simp [partsB] at h
  | _ :: _, [], h, _, _, _, _, _, _, _, _ => by simp [partsB] at h

def placesOf (P : Program) (fs : Array Field) (i : Nat) : Option (Nat × Nat) := (fs[i]?).bind fun f => (P.info? f.type).map fun inf => (f.offset, inf.size)
theorem run_places (fs : Array Field) (h : ∀ f ∈ fs, (P.info? f.type).isSome = true) (w : World) : ∃ ps : Array (Nat × Nat), (fs.mapM (fun f => do pure (f.offset, ← sizeOf f.type)) : Sem (Array (Nat × Nat))).run P w = .ok ps w ∧ ∀ i, ps[i]? = placesOf P fs i := by
  have hone : ∀ f : Field, (P.info? f.type).isSome = true → (sizeOf f.type).run P w = .ok (P.cellsOf f.type) w := by
    intro f hf
    obtain ⟨inf, hi⟩ := Option.isSome_iff_exists.1 hf
    simp [sizeOf, Sem.run_bind, typeInfo, hi, Program.cellsOf]
  have key : ∀ (l : List Field), (∀ f ∈ l, (P.info? f.type).isSome = true) → (l.mapM (fun f => do pure (f.offset, ← sizeOf f.type)) : Sem (List (Nat × Nat))).run P w = .ok (l.map fun f => (f.offset, P.cellsOf f.type)) w := by
    intro l
    induction l with
    | nil => intro _; rfl
    | cons f l ih =>
      intro hl
      simp only [List.mapM_cons, Sem.run_bind, hone f (hl f (by simp)), Result.andThen, Sem.run_pure, ih (fun f hf => hl f (by simp [hf])), List.map_cons]
  refine ⟨(fs.toList.map fun f => (f.offset, P.cellsOf f.type)).toArray, ?_, fun i => ?_⟩
  · rw [Array.mapM_eq_mapM_toList]
    have hmap : ∀ (x : Sem (List (Nat × Nat))), (List.toArray <$> x) = (x >>= fun l => pure l.toArray) := fun x => rfl
    rw [hmap, Sem.run_bind, key fs.toList (fun f hf => h f (by simpa using hf))]
    rfl
  · simp only [List.getElem?_toArray, List.getElem?_map, Array.getElem?_toList, placesOf]
    cases hf : fs[i]? with
    | none => rfl
    | some f =>
      obtain ⟨inf, hi⟩ := Option.isSome_iff_exists.1 (h f (Array.mem_of_getElem? hf))
      simp [Program.cellsOf, hi]

def zeroB (P : Program) (t : TypeId) (zs : List V) : Bool := (P.info? t).any fun i => i.zero.any fun z => scsB z.cells.toList zs
theorem scsB_one : ∀ {us : List Value} {cs : List V}, scsB us cs = true → cs.all V.one = true
  | [], [], _ => rfl
  | u :: us, c :: cs, h => by
    simp only [scsB, Bool.and_eq_true] at h
    simp only [List.all_cons, Bool.and_eq_true]
    refine ⟨?_, scsB_one h.2⟩
    have h1 := h.1
    unfold scB at h1
    split at h1 <;> first | rfl | cases h1
theorem scsB_nil : ∀ {us : List Value} {cs : List V}, scsB us cs = true → ∀ c ∈ cs, ∀ sz xs, c = .list sz xs true → xs = []
  | [], [], _ => by simp
  | u :: us, c :: cs, h => by
    simp only [scsB, Bool.and_eq_true] at h
    intro c' hc sz xs e
    rcases List.mem_cons.1 hc with rfl | hc
    · subst e
      have h1 := h.1
      unfold scB at h1
      split at h1 <;> simp_all
    · exact scsB_nil h.2 c' hc sz xs e
theorem zeroB_spec {t : TypeId} {zs : List V} (h : zeroB P t zs = true) : ∃ i z, P.info? t = some i ∧ i.zero = some z ∧ (∀ g : Gh, RepL g zs z.cells.toList) ∧ (∀ w : World, (zeroValue t).run P w = .ok z w) ∧ (∀ c ∈ zs, ∀ sz xs, c = .list sz xs true → xs = []) ∧ zs.all V.one = true := by
  unfold zeroB at h
  cases hi : P.info? t with
  | none => simp [hi] at h
  | some i =>
    cases hz : i.zero with
    | none => simp [hi, hz] at h
    | some z =>
      simp only [hi, hz, Option.any_some] at h
      refine ⟨i, z, rfl, hz, fun g => scsB_rep h, fun w => by simp [zeroValue, Sem.run_bind, typeInfo, hi, hz], scsB_nil h, scsB_one h⟩

theorem sim_build (h : Rel CR N g lam F H a w) {o : Oper} {d : Option Nat} (hd : ∀ t, d = some t → t < N) {t : TypeId} {ps : Array (Nat × Operand)} {qs : List (Nat × Nat × Rd)} {zs : List V} {fs : Array Field}
    (ho : o.op = .build t ps) (h1 : P.underlying t = some (.struct fs)) (h2 : fs.toList.all (fun f => (P.info? f.type).isSome) = true) (hz : zeroB P t zs = true) (hp : partsB (placesOf P fs) ps.toList qs = true)
    {v : V} {F' : Fr} {H' : Hp} (hs : stepV (.build zs qs) d F H = some (v, F', H')) : Sim P CR N o d v F' H' g a w := by
  simp only [stepV, Option.map_eq_some_iff, Prod.mk.injEq] at hs
  obtain ⟨cs, hb, rfl, rfl, rfl⟩ := hs
  obtain ⟨i, z, k1, k2, k3, k4, k5, k6⟩ := zeroB_spec hz
  obtain ⟨pls, p1, p2⟩ := run_places (P := P) fs (fun f hf => by simpa using (List.all_eq_true.1 h2) f (by simpa using hf)) w
  obtain ⟨cells', e1, e2⟩ := build_fill h (placesOf P fs) ps.toList qs zs cs z.cells (partsB_len hp) (partsB_spec hp) (k3 g) hb
  refine Sim.pure h hd (u := .agg cells') ?_ (.agg e2) (fun _ => trivial)
  have hfun : (fun i => pls[i]?) = placesOf P fs := funext p2
  simp only [execOp, ho, Instr.build, Sem.run_bind, k4, Result.andThen, run_underlying h1, p1]
  have : (Array.map (fun x : Nat × Operand => (x.1, a.eval x.2)) ps).toList = ps.toList.map fun (i, x) => (i, a.eval x) := by simp
  simp only [this, hfun, e1]
  rfl
/-- arrays -/
theorem sim_buildA (h : Rel CR N g lam F H a w) {o : Oper} {d : Option Nat} (hd : ∀ t, d = some t → t < N) {t e : TypeId} {n : Nat} {ps : Array (Nat × Operand)} {qs : List (Nat × Nat × Rd)} {zs : List V} {i : TypeInfo}
    (ho : o.op = .build t ps) (h1 : P.underlying t = some (.array n e)) (h2 : P.info? e = some i) (hz : zeroB P t zs = true) (hp : partsB (fun j => some (j * i.size, i.size)) ps.toList qs = true)
    {v : V} {F' : Fr} {H' : Hp} (hs : stepV (.build zs qs) d F H = some (v, F', H')) : Sim P CR N o d v F' H' g a w := by
  simp only [stepV, Option.map_eq_some_iff, Prod.mk.injEq] at hs
  obtain ⟨cs, hb, rfl, rfl, rfl⟩ := hs
  obtain ⟨i', z, k1, k2, k3, k4, k5, k6⟩ := zeroB_spec hz
  obtain ⟨cells', e1, e2⟩ := build_fill h (fun j => some (j * i.size, i.size)) ps.toList qs zs cs z.cells (partsB_len hp) (partsB_spec hp) (k3 g) hb
  refine Sim.pure h hd (u := .agg cells') ?_ (.agg e2) (fun _ => trivial)
  have : (Array.map (fun x : Nat × Operand => (x.1, a.eval x.2)) ps).toList = ps.toList.map fun (i, x) => (i, a.eval x) := by simp
  simp only [execOp, ho, Instr.build, Sem.run_bind, k4, Result.andThen, run_underlying h1, sizeOf, typeInfo, run_program, h2, Sem.run_pure, this, e1]
def hasZero (P : Program) (t : TypeId) : Bool := (P.info? t).any fun i => i.zero.any fun z => z.cells.size == i.size
theorem hasZero_spec {t : TypeId} (h : hasZero P t = true) : ∃ i z, P.info? t = some i ∧ i.zero = some z ∧ z.cells.size = i.size ∧ (∀ w : World, (zeroValue t).run P w = .ok z w) := by
  unfold hasZero at h
  cases hi : P.info? t with
  | none => simp [hi] at h
  | some i =>
    cases hz : i.zero with
    | none => simp [hi, hz] at h
    | some z =>
      simp only [hi, hz, Option.any_some, beq_iff_eq] at h
      exact ⟨i, z, rfl, hz, h, fun w => by simp [zeroValue, Sem.run_bind, typeInfo, hi, hz]⟩
end Go.Iv
