/- A reading of data is of the shape that its type says. No conditions. -/
import Derived.Test.YtpgojhgfhhgomaaIvTrod
namespace Go.Iv
set_option linter.unusedVariables false
set_option linter.unusedSimpArgs false
variable {P : Program} {W W' : World} {H : Type}
def elemsOf : DataW H → List (DataW H)
  | .slice elems _ => elems
  | _ => []
def wt (P : Program) : Nat → TypeId → DataW H → Prop
  | 0, _, _ => False
  | n + 1, t, d => match P.underlying t with
    | some .bool => ∃ b, d = .lit (.bool b)
    | some (.int k) => ∃ m, d = .lit (.int k m)
    | some .string => ∃ l, d = .lit (.string l)
    | some (.slice e) => ∀ x ∈ elemsOf d, wt P n e x
    | some (.struct fs) => ∃ parts, d = .agg parts ∧ parts.length = fs.toList.length ∧ ∀ x ∈ fs.toList.zip parts, wt P n x.1.type x.2
    | _ => False
theorem toV_slice {n : Nat} {t e : TypeId} {d : DataW H} (hu : P.underlying t = some (.slice e)) : toV P (n + 1) t d = [.list (P.cellsOf e) ((elemsOf d).map fun x => elemV P e (toV P n e x)) false] := by
  simp only [toV, hu]
  cases d <;> simp [elemsOf]
theorem trod_wt {S : List TypeId} (hS : closedB P S = true) {enc : TypeId × Value → H} {base : Nat} {sp : Nat → Bool} {held : Bool} : ∀ (n : Nat) (t : TypeId) (cs : List Value) (d : DataW H) (ps : List MemPlace), t ∈ S → DataW.trod enc P W base sp held n t cs = some (d, ps) → wt P n t d
  | 0, t, cs, d, ps, ht, h => by simp [DataW.trod] at h
  | n + 1, t, cs, d, ps, ht, h => by
    have ih := trod_wt hS (enc := enc) (base := base) (sp := sp) (held := held) n
    have hc := List.all_eq_true.1 hS t ht
    split at hc
    · rename_i hu
      unfold DataW.trod at h
      rw [hu] at h
      match cs, h with
      | [.bool b], h =>
        simp only [Option.some.injEq, Prod.mk.injEq] at h
        obtain ⟨rfl, _⟩ := h
        simp only [wt, hu]; exact ⟨_, rfl⟩
    · rename_i k hu
      unfold DataW.trod at h
      rw [hu] at h
      match cs, h with
      | [.int k' m], h =>
        simp only at h
        split at h
        · rename_i hk
          simp only [Option.some.injEq, Prod.mk.injEq] at h
          obtain ⟨rfl, _⟩ := h
          obtain ⟨rfl, _⟩ := hk
          simp only [wt, hu]; exact ⟨_, rfl⟩
        · cases h
    · rename_i hu
      unfold DataW.trod at h
      rw [hu] at h
      match cs, h with
      | [.string b], h =>
        simp only at h
        split at h
        · simp only [Option.some.injEq, Prod.mk.injEq] at h
          obtain ⟨rfl, _⟩ := h
          simp only [wt, hu]; exact ⟨_, rfl⟩
        · cases h
    · rename_i e hu
      simp only [Bool.and_eq_true, beq_iff_eq, bne_iff_ne, List.contains_iff_mem] at hc
      have he := hc.1.1.2
      unfold DataW.trod at h
      rw [hu] at h
      match cs, h with
      | [.slice none 0 0], h =>
        simp only [Option.some.injEq, Prod.mk.injEq] at h
        obtain ⟨rfl, _⟩ := h
        simp only [wt, hu]
        intro x hx; simp [elemsOf] at hx
      | [.slice (some a) len cap], h =>
        simp only at h
        split at h
        case isFalse => cases h
        simp only [Option.bind_eq_some_iff, Option.map_eq_some_iff, Prod.mk.injEq] at h
        obtain ⟨elems, h1, rest, h2, rfl, _⟩ := h
        simp only [wt, hu]
        intro x hx
        simp only [elemsOf, List.mem_map] at hx
        obtain ⟨y, hy, rfl⟩ := hx
        obtain ⟨q1, q2⟩ := mapM_get h1
        obtain ⟨i, hi⟩ := List.getElem?_of_mem hy
        obtain ⟨i', k1, k2⟩ := q2 i y hi
        obtain ⟨ci, c1, c2⟩ := Option.bind_eq_some_iff.1 k2
        exact ih e ci y.1 y.2 he c2
    · rename_i fs hu
      simp only [Bool.and_eq_true, List.all_eq_true, List.contains_iff_mem] at hc
      unfold DataW.trod at h
      rw [hu] at h
      simp only at h
      split at h
      · rename_i hl
        simp only [Option.map_eq_some_iff, Prod.mk.injEq] at h
        obtain ⟨xs, h1, rfl, _⟩ := h
        obtain ⟨q1, q2⟩ := mapM_get h1
        simp only [wt, hu]
        refine ⟨_, rfl, by simp [q1], fun x hx => ?_⟩
        obtain ⟨i, hi⟩ := List.getElem?_of_mem hx
        rw [List.getElem?_zip_eq_some] at hi
        obtain ⟨hi1, hi2⟩ := hi
        simp only [List.getElem?_map, Option.map_eq_some_iff] at hi2
        obtain ⟨y, hy, hy2⟩ := hi2
        obtain ⟨f, k1, k2⟩ := q2 i y hy
        rw [hi1] at k1
        cases k1
        rw [← hy2]
        exact ih _ _ _ _ (hc.2 x.1 (List.mem_of_getElem? hi1)) k2
      · cases h
    · cases hc
/-- what has grown holds what it held -/
theorem grown_same (h : RowKit.Grown W W') {p : MemPlace} (hp : p.block < W.heap.size) : W.sameAt W' p := by
  have key : ∀ i, i < W.heap.size → W'.heap[i]? = W.heap[i]? := by
    intro i hi
    have := h.1.2.2 i hi
    split at this
    · rename_i c t fr c' t' fr' e1 e2
      obtain ⟨rfl, rfl, hs, hj⟩ := this
      rw [e1, e2]
      have : c' = c := by
        apply Array.ext_getElem?
        intro j
        exact hj j (fun f => f)
      rw [this]
    · rename_i es clock es' clock' e1 e2
      rcases this with f | ⟨rfl, rfl⟩
      · exact f.elim
      · rw [e1, e2]
    · exact this
  cases p with
  | cell b o => exact World.cell?_of_block (w := W) (key b hp)
  | map b => exact key b hp
end Go.Iv
