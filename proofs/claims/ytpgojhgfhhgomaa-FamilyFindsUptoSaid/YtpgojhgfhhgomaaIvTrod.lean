/- A reading of data, as values of the machine. No conditions. -/
import Derived.Test.YtpgojhgfhhgomaaIvRow
import GoSem.ClaimChange
namespace Go.Iv
set_option linter.unusedVariables false
set_option linter.unusedSimpArgs false
variable {P : Program} {W W' : World} {H : Type}

def isStructT (P : Program) (t : TypeId) : Bool := match P.underlying t with | some (.struct _) => true | _ => false
/-- an element of a slice, of these cells -/
def elemV (P : Program) (t : TypeId) (cs : List V) : V := if isStructT P t then .agg cs else elemOf cs
/-- the cells of a datum, by its type -/
def toV (P : Program) : Nat → TypeId → DataW H → List V
  | 0, _, _ => []
  | n + 1, t, d =>
    match P.underlying t, d with
    | some .bool, .lit (.bool b) => [.b b]
    | some (.int k), .lit (.int _ m) => [.i k m]
    | some .string, .lit (.string l) => [.s ⟨l.toArray⟩]
    | some (.slice e), .slice elems _ => [.list (P.cellsOf e) (elems.map fun x => elemV P e (toV P n e x)) false]
    | some (.slice e), _ => [.list (P.cellsOf e) [] false]
    | some (.struct fs), .agg parts => (fs.toList.zip parts).flatMap fun x => toV P n x.1.type x.2
    | _, _ => []
/-- fields that lie one behind the other -/
def rowB (P : Program) : Nat → List Field → Nat → Bool
  | o, [], n => o == n
  | o, f :: fs, n => f.offset == o && rowB P (o + P.cellsOf f.type) fs n
/-- a set of types that is closed -/
def closedB (P : Program) (S : List TypeId) : Bool := S.all fun t => match P.underlying t with
  | some .bool | some (.int _) | some .string => P.cellsOf t == 1
  | some (.slice e) => P.cellsOf t == 1 && S.contains e && P.cellsOf e != 0 && (isStructT P e || P.cellsOf e == 1)
  | some (.struct fs) => rowB P 0 fs.toList (P.cellsOf t) && fs.toList.all fun f => S.contains f.type
  | _ => false

theorem cells_get {a : Addr} {n base : Nat} {cs : List Value} (h : W.cells? base a n = some cs) : cs.length = n ∧ ∀ (j : Nat) (u : Value), cs[j]? = some u → W.cell? (a.add j) = some u := by
  unfold World.cells? at h
  split at h
  · have key : ∀ (l : List Nat) (cs : List Value), l.mapM (fun i => W.cell? (a.add i)) = some cs → cs.length = l.length ∧ ∀ (j : Nat) (u : Value), cs[j]? = some u → ∃ i, l[j]? = some i ∧ W.cell? (a.add i) = some u := by
      intro l
      induction l with
      | nil => intro cs h; simp at h; subst h; exact ⟨rfl, fun j u hj => by simp at hj⟩
      | cons i l ih =>
        intro cs h
        simp only [List.mapM_cons, Option.bind_eq_bind, Option.bind_eq_some_iff, Option.pure_def, Option.some.injEq] at h
        obtain ⟨u, h1, us, h2, rfl⟩ := h
        obtain ⟨k1, k2⟩ := ih us h2
        refine ⟨by simp [k1], fun j u' hj => ?_⟩
        cases j with
        | zero => simp at hj; subst hj; exact ⟨i, rfl, h1⟩
        | succ j => simpa using k2 j u' (by simpa using hj)
    obtain ⟨k1, k2⟩ := key _ _ h
    refine ⟨by simpa using k1, fun j u hj => ?_⟩
    obtain ⟨i, h1, h2⟩ := k2 j u hj
    have hlt : j < n := by have := (List.getElem?_eq_some_iff.1 hj).1; rw [k1] at this; simpa using this
    rw [List.getElem?_range hlt] at h1
    cases h1; exact h2
  · cases h
theorem mapM_get {α β : Type} {f : α → Option β} : ∀ {l : List α} {r : List β}, l.mapM f = some r → r.length = l.length ∧ ∀ (j : Nat) (x : β), r[j]? = some x → ∃ i, l[j]? = some i ∧ f i = some x
  | [], r, h => by simp at h; subst h; exact ⟨rfl, fun j u hj => by simp at hj⟩
  | i :: l, r, h => by
    simp only [List.mapM_cons, Option.bind_eq_bind, Option.bind_eq_some_iff, Option.pure_def, Option.some.injEq] at h
    obtain ⟨u, h1, us, h2, rfl⟩ := h
    obtain ⟨k1, k2⟩ := mapM_get h2
    refine ⟨by simp [k1], fun j u' hj => ?_⟩
    cases j with
    | zero => simp at hj; subst hj; exact ⟨i, rfl, h1⟩
    | succ j => simpa using k2 j u' (by simpa using hj)
theorem elemV_cells {e : TypeId} {cs : List V} {sz : Nat} (hl : cs.length = sz) (h1 : cs.all V.one = true) : (elemV P e cs).cells = cs ∧ (elemV P e cs).fits sz = true := by
  unfold elemV
  split
  · simp [V.cells, V.fits, hl]
  · unfold elemOf
    split
    · rename_i z
      simp at h1 hl
      cases z <;> simp [V.one] at h1 <;> simp [V.cells, V.fits, ← hl]
    · simp [V.cells, V.fits, hl]
theorem trod_scalar {enc : TypeId × Value → H} {base : Nat} {sp : Nat → Bool} {held : Bool} {n : Nat} {t : TypeId} {cs : List Value} {d : DataW H} {ps : List MemPlace}
    (hu : P.underlying t = some .bool ∨ (∃ k, P.underlying t = some (.int k)) ∨ P.underlying t = some .string) (h : DataW.trod enc P W base sp held (n + 1) t cs = some (d, ps)) :
    RepL (Gh.start W) (toV P (n + 1) t d) cs ∧ (toV P (n + 1) t d).all V.one = true ∧ cs.length = 1 := by
  unfold DataW.trod at h
  rcases hu with hu | ⟨k, hu⟩ | hu
  · rw [hu] at h
    match cs, h with
    | [.bool b], h =>
      simp only [Option.some.injEq, Prod.mk.injEq] at h
      obtain ⟨rfl, _⟩ := h
      simp only [toV, hu]
      exact ⟨.cons (.b _) .nil, rfl, rfl⟩
  · rw [hu] at h
    match cs, h with
    | [.int k' m], h =>
      simp only at h
      split at h
      · rename_i hk
        simp only [Option.some.injEq, Prod.mk.injEq] at h
        obtain ⟨rfl, _⟩ := h
        obtain ⟨rfl, _⟩ := hk
        simp only [toV, hu]
        exact ⟨.cons (.i _ _) .nil, rfl, rfl⟩
      · cases h
  · rw [hu] at h
    match cs, h with
    | [.string b], h =>
      simp only at h
      split at h
      · simp only [Option.some.injEq, Prod.mk.injEq] at h
        obtain ⟨rfl, _⟩ := h
        simp only [toV, hu]
        exact ⟨.cons (.s _) .nil, rfl, rfl⟩
      · cases h
theorem fields_rep {S : List TypeId} {enc : TypeId × Value → H} {base : Nat} {sp : Nat → Bool} {held : Bool} {n : Nat} {cs : List Value}
    (ih : ∀ (t : TypeId) (cs : List Value) (d : DataW H) (ps : List MemPlace), t ∈ S → DataW.trod enc P W base sp held n t cs = some (d, ps) → RepL (Gh.start W) (toV P n t d) cs ∧ (toV P n t d).all V.one = true ∧ cs.length = P.cellsOf t) :
    ∀ (fs : List Field) (o : Nat) (xs : List (DataW H × List MemPlace)), rowB P o fs cs.length = true → (∀ f ∈ fs, f.type ∈ S) → fs.mapM (fun f => DataW.trod enc P W base sp held n f.type ((cs.drop f.offset).take (P.cellsOf f.type))) = some xs →
      RepL (Gh.start W) ((fs.zip (xs.map (·.1))).flatMap fun x => toV P n x.1.type x.2) (cs.drop o) ∧ ((fs.zip (xs.map (·.1))).flatMap fun x => toV P n x.1.type x.2).all V.one = true
  | [], o, xs, hr, _, h => by
    simp only [rowB, beq_iff_eq] at hr
    simp only [List.zip_nil_left, List.flatMap_nil, List.all_nil, and_true]
    rw [List.drop_eq_nil_of_le (by omega)]
    exact .nil
  | f :: fs, o, xs, hr, hS, h => by
    simp only [rowB, Bool.and_eq_true, beq_iff_eq] at hr
    obtain ⟨ho, hr⟩ := hr
    simp only [List.mapM_cons, Option.bind_eq_bind, Option.bind_eq_some_iff, Option.pure_def, Option.some.injEq] at h
    obtain ⟨⟨d, ps⟩, h1, us, h2, rfl⟩ := h
    obtain ⟨k1, k2, k3⟩ := ih _ _ _ _ (hS f (by simp)) h1
    obtain ⟨j1, j2⟩ := fields_rep ih fs (o + P.cellsOf f.type) us hr (fun f' hf => hS f' (by simp [hf])) h2
    simp only [List.map_cons, List.zip_cons_cons, List.flatMap_cons, List.all_append, Bool.and_eq_true]
    refine ⟨?_, k2, j2⟩
    have := k1.append j1
    rw [ho, ← List.drop_drop, List.take_append_drop] at this
    exact this
theorem trod_slice {S : List TypeId} {enc : TypeId × Value → H} {base : Nat} {sp : Nat → Bool} {held : Bool} {n : Nat} {t e : TypeId} {cs : List Value} {d : DataW H} {ps : List MemPlace}
    (ih : ∀ (t : TypeId) (cs : List Value) (d : DataW H) (ps : List MemPlace), t ∈ S → DataW.trod enc P W base sp held n t cs = some (d, ps) → RepL (Gh.start W) (toV P n t d) cs ∧ (toV P n t d).all V.one = true ∧ cs.length = P.cellsOf t)
    (hu : P.underlying t = some (.slice e)) (he : e ∈ S) (hz : P.cellsOf e ≠ 0) (h : DataW.trod enc P W base sp held (n + 1) t cs = some (d, ps)) :
    RepL (Gh.start W) (toV P (n + 1) t d) cs ∧ (toV P (n + 1) t d).all V.one = true ∧ cs.length = 1 := by
  unfold DataW.trod at h
  rw [hu] at h
  match cs, h with
  | [.slice none 0 0], h =>
    simp only [Option.some.injEq, Prod.mk.injEq] at h
    obtain ⟨rfl, _⟩ := h
    simp only [toV, hu]
    exact ⟨.cons (.nil _ _) .nil, rfl, rfl⟩
  | [.slice (some a) len cap], h =>
    simp only at h
    split at h
    case isFalse => cases h
    rename_i hc
    obtain ⟨hb, hlc, hm⟩ := hc
    simp only [Option.bind_eq_some_iff, Option.map_eq_some_iff, Prod.mk.injEq] at h
    obtain ⟨elems, h1, rest, h2, rfl, _⟩ := h
    obtain ⟨q1, q2⟩ := mapM_get h1
    simp only [List.length_range] at q1
    have hel : ∀ (i : Nat) (x : DataW H × List MemPlace), elems[i]? = some x → ∃ ci, W.cells? base (a.add (i * P.cellsOf e)) (P.cellsOf e) = some ci ∧ RepL (Gh.start W) (toV P n e x.1) ci ∧ (toV P n e x.1).all V.one = true ∧ ci.length = P.cellsOf e := by
      intro i x hi
      obtain ⟨i', k1, k2⟩ := q2 i x hi
      have hlt : i < len := by rw [← q1]; exact (List.getElem?_eq_some_iff.1 hi).1
      rw [List.getElem?_range hlt] at k1
      cases k1
      obtain ⟨ci, c1, c2⟩ := Option.bind_eq_some_iff.1 k2
      exact ⟨ci, c1, ih e ci x.1 x.2 he c2⟩
    have hspot : elems ≠ [] → a.spot = none := by
      intro hne
      obtain ⟨x, hx⟩ : ∃ x, elems[0]? = some x := by
        cases elems with
        | nil => exact absurd rfl hne
        | cons x _ => exact ⟨x, rfl⟩
      obtain ⟨ci, c1, _, _, c4⟩ := hel 0 x hx
      obtain ⟨u, hu0⟩ : ∃ u, ci[0]? = some u := ⟨ci[0]'(by omega), by simp⟩
      have := (cells_get c1).2 0 u hu0
      cases hs : a.spot with
      | none => rfl
      | some s =>
        exfalso
        simp only [World.cell?, Addr.add] at this
        split at this
        · simp [hs] at this
        · cases this
    simp only [toV, hu]
    have hxl : ((elems.map (·.1)).map fun x => elemV P e (toV P n e x)).length = len := by simp [q1]
    have hrep := Rep.list (g := Gh.start W) (sz := P.cellsOf e) (xs := (elems.map (·.1)).map fun x => elemV P e (toV P n e x)) (o := false) (a := a) (cap := cap)
      (fun hne => hspot (fun e => hne (by rw [e]; rfl))) (by rw [hxl]; exact hlc) (by simp) (RepE.of _ _ (fun x hx => ?_) (fun i x hi j c hj => ?_))
    · rw [hxl] at hrep
      exact ⟨.cons hrep .nil, rfl, rfl⟩
    · simp only [List.map_map, List.mem_map] at hx
      obtain ⟨y, hy, rfl⟩ := hx
      obtain ⟨i, hi⟩ := List.getElem?_of_mem hy
      obtain ⟨ci, c1, c2, c3, c4⟩ := hel i y hi
      exact (elemV_cells (P := P) (e := e) (by rw [c2.length, c4]) c3).2
    · simp only [List.map_map, List.getElem?_map, Option.map_eq_some_iff] at hi
      obtain ⟨y, hy, rfl⟩ := hi
      obtain ⟨ci, c1, c2, c3, c4⟩ := hel i y hy
      have he2 := (elemV_cells (P := P) (e := e) (by rw [c2.length, c4]) c3).1
      simp only [Function.comp] at hj
      rw [he2] at hj
      obtain ⟨u, u1, u2⟩ := c2.get j c hj
      refine ⟨u, ?_, u2, List.all_eq_true.1 c3 c (List.mem_of_getElem? hj)⟩
      have := (cells_get c1).2 j u u1
      have hs := hspot (fun e => by rw [e] at hy; simp at hy)
      show ce W a.block (a.off + i * P.cellsOf e + j) = some u
      obtain ⟨ab, ao, asp⟩ := a
      simp only at hs; subst hs
      rw [addr_add, addr_add] at this
      exact this
theorem trod_rep {S : List TypeId} (hS : closedB P S = true) {enc : TypeId × Value → H} {base : Nat} {sp : Nat → Bool} {held : Bool} : ∀ (n : Nat) (t : TypeId) (cs : List Value) (d : DataW H) (ps : List MemPlace), t ∈ S → DataW.trod enc P W base sp held n t cs = some (d, ps) →
    RepL (Gh.start W) (toV P n t d) cs ∧ (toV P n t d).all V.one = true ∧ cs.length = P.cellsOf t
  | 0, t, cs, d, ps, ht, h => by simp [DataW.trod] at h
  | n + 1, t, cs, d, ps, ht, h => by
    have ih := trod_rep hS (enc := enc) (base := base) (sp := sp) (held := held) n
    have hc := List.all_eq_true.1 hS t ht
    split at hc
    · rename_i hu
      obtain ⟨k1, k2, k3⟩ := trod_scalar (.inl hu) h
      exact ⟨k1, k2, by rw [k3]; exact (beq_iff_eq.1 hc).symm⟩
    · rename_i k hu
      obtain ⟨k1, k2, k3⟩ := trod_scalar (.inr (.inl ⟨_, hu⟩)) h
      exact ⟨k1, k2, by rw [k3]; exact (beq_iff_eq.1 hc).symm⟩
    · rename_i hu
      obtain ⟨k1, k2, k3⟩ := trod_scalar (.inr (.inr hu)) h
      exact ⟨k1, k2, by rw [k3]; exact (beq_iff_eq.1 hc).symm⟩
    · rename_i e hu
      simp only [Bool.and_eq_true, beq_iff_eq, bne_iff_ne, List.contains_iff_mem] at hc
      obtain ⟨k1, k2, k3⟩ := trod_slice ih hu hc.1.1.2 hc.1.2 h
      exact ⟨k1, k2, by rw [k3, hc.1.1.1]⟩
    · rename_i fs hu
      simp only [Bool.and_eq_true, List.all_eq_true, List.contains_iff_mem] at hc
      unfold DataW.trod at h
      rw [hu] at h
      simp only at h
      split at h
      · rename_i hl
        simp only [Option.map_eq_some_iff, Prod.mk.injEq] at h
        obtain ⟨xs, h1, rfl, _⟩ := h
        obtain ⟨k1, k2⟩ := fields_rep ih fs.toList 0 xs (by rw [hl]; exact hc.1) hc.2 h1
        simp only [toV, hu]
        exact ⟨by simpa using k1, k2, hl⟩
      · cases h
    · cases hc
end Go.Iv
