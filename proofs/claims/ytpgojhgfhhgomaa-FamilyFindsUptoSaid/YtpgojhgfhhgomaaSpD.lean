/- What the search for a name returns. No conditions. -/
import Derived.Test.YtpgojhgfhhgomaaSpC
namespace Go.Iv.Ir
open Go.Iv
set_option maxRecDepth 100000
set_option linter.unusedVariables false
set_option linter.unusedSimpArgs false
attribute [local irreducible] limit
variable {K : List Kt} {F : Fr} {H : Hp} {Q : QQ} {ops : List Ins} {keep : List Nat} {dr : Bool} {dd : Option Nat}
theorem wrap_succ' (j n : Nat) (h : j < n) (hn : n < 2000000000) : IntKind.i64.wrap ((j : Int) + 1) = ((j + 1 : Nat) : Int) := by
  rw [IntKind.wrap_i64]; omega
theorem t76 (xs : List ByteArray) (hl : xs.length < 2000000000) (b : ByteArray) : ∃ v, Ret T 76 [.list 1 (List.map V.s xs) false, .s b] v ∧ IsB v := by
  refine ret_of rfl rfl (by simp) ?_
  simp [fr0]
  have hlen := hl
  refine wk_loop (fun (j : Nat) => [(5, .i .i64 j)]) (fun _ => []) (fun j => xs.length - j) 0 (by rfl) (by rfl) ?_
  intro j hl
  simp
  intro hj
  have hc := hl (j + 1) (by omega)
  have hw := wrap_succ' j _ hj hlen
  simp at hc hw
  simp [get_some hj, hw, hc]
open Classical in
noncomputable def g76 (xs : List ByteArray) (b : ByteArray) : Bool := if h : ∃ e, Ret T 76 [.list 1 (List.map V.s xs) false, .s b] (.b e) then h.choose else true
@[simp] theorem c76 (xs : List ByteArray) (hl : xs.length < 2000000000) (b : ByteArray) : WC T (.fn 76) [.list 1 (List.map V.s xs) false, .s b] dd ops keep dr K F H Q ↔ WO T ops keep dr K (F.put dd (.b (g76 xs b))) H Q := by
  apply wc_ret
  have h := ex_b (t76 xs hl b)
  unfold g76; rw [dif_pos h]; exact h.choose_spec
def IsNs (l : List ByteArray) (v : V) : Prop := v = .list 1 (List.map V.s l) false
@[simp] theorem isNs_l (l : List ByteArray) (xs : List V) (b : Bool) : IsNs l (.list 1 xs b) ↔ xs = List.map V.s l ∧ b = false := by simp [IsNs]
theorem kinds (k : Int) : k = 0 ∨ k = 1 ∨ k = 2 ∨ k = 3 ∨ k = 4 ∨ (k ≠ 0 ∧ k ≠ 1 ∧ k ≠ 2 ∧ k ≠ 3 ∧ k ≠ 4) := by omega
theorem lim_le {a : Nat} (h : a ≤ 2000000000) : a ≤ limit := by unfold limit; omega
theorem take_snoc {α β : Type} (f : α → β) {l : List α} {j : Nat} (h : j < l.length) : (l.take (j + 1)).map f = (l.take j).map f ++ [f l[j]] := by
  rw [List.take_add_one, get_some h]; simp only [Option.toList, List.map_append, List.map_cons, List.map_nil]
theorem t75 (d : Decl) : ∃ v, Ret T 75 [encD d] v ∧ IsNs (namesD d) v := by
  have hcl := d.ctors_len
  have hfl := d.funs_len
  have hnl := d.name_len
  rcases kinds d.kind with h | h | h | h | h | ⟨h0, h1, h2, h3, h4⟩
  · refine ret_of rfl rfl (by simp) ?_
    simp [fr0, h, namesD]
  · refine ret_of rfl rfl (by simp) ?_
    simp [fr0, h, namesD]
  · refine ret_of rfl rfl (by simp) ?_
    simp [fr0, h, namesD]
  · refine ret_of rfl rfl (by simp) ?_
    simp [fr0, h]
    refine wk_loop (α := {p : Nat × List ByteArray // p.1 ≤ d.ctors.length ∧ p.2 = (d.ctors.take p.1).map Ctor.name}) (fun p => [(4, .i .i64 p.1.1), (3, .list 1 (V.s d.name :: List.map V.s p.1.2) true)]) (fun _ => []) (fun p => d.ctors.length - p.1.1) ⟨(0, []), by simp⟩ (by rfl) (by rfl) ?_
    rintro ⟨⟨j, xs⟩, hle, hxs⟩ hl
    dsimp only at hxs hle
    have hxl : xs.length ≤ d.ctors.length := by rw [hxs]; simp; omega
    simp
    constructor
    · intro hj
      have hc := hl ⟨(j + 1, xs ++ [d.ctors[j].name]), hj, by rw [take_snoc _ hj, ← hxs]⟩ (by simp; omega)
      have hw := wrap_succ j _ hj (by simp)
      simp at hc hw
      simp [get_some hj, hw, hc]
      apply lim_le; omega
    · intro hj
      have ht : d.ctors.take j = d.ctors := List.take_of_length_le (by omega)
      simp only [ht] at hxs
      subst hxs
      simp [namesD, h, dotRec]
      exact ⟨lim_le (show d.name.size + 4 ≤ _ by omega), lim_le (by omega)⟩
  · refine ret_of rfl rfl (by simp) ?_
    simp [fr0, h]
    refine wk_loop (α := {p : Nat × List ByteArray // p.1 ≤ d.funs.length ∧ p.2 = (d.funs.take p.1).map Fun.name}) (fun p => [(6, .i .i64 p.1.1), (5, .list 1 (List.map V.s p.1.2) true)]) (fun _ => []) (fun p => d.funs.length - p.1.1) ⟨(0, []), by simp⟩ (by rfl) (by rfl) ?_
    rintro ⟨⟨j, xs⟩, hle, hxs⟩ hl
    dsimp only at hxs hle
    have hxl : xs.length ≤ d.funs.length := by rw [hxs]; simp; omega
    simp
    constructor
    · intro hj
      have hc := hl ⟨(j + 1, xs ++ [d.funs[j].name]), hj, by rw [take_snoc _ hj, ← hxs]⟩ (by simp; omega)
      have hw := wrap_succ j _ hj (by simp)
      simp at hc hw
      simp [get_some hj, hw, hc]
      apply lim_le; omega
    · intro hj
      have ht : d.funs.take j = d.funs := List.take_of_length_le (by omega)
      simp only [ht] at hxs
      subst hxs
      simp [namesD, h]
  · refine ret_of rfl rfl (by simp) ?_
    simp [fr0, h0, h1, h2, h3, h4, namesD]
@[simp] theorem c75 (d : Decl) : WC T (.fn 75) [encD d] dd ops keep dr K F H Q ↔ WO T ops keep dr K (F.put dd (.list 1 (List.map V.s (namesD d)) false)) H Q := by
  obtain ⟨v, h, rfl⟩ := t75 d
  exact wc_ret h
theorem namesD_len (d : Decl) : (namesD d).length < 1073741826 := by
  have hcl := d.ctors_len
  have hfl := d.funs_len
  unfold namesD
  split
  · simp
  · split
    · simp; omega
    · split
      · simp; omega
      · simp
/-- taking apart: a name with a suffix -/
theorem suffix_iff (n a b : ByteArray) : (n.size = a.size + b.size ∧ n.extract 0 a.size = a ∧ n.extract a.size n.size = b) ↔ n = a ++ b := by
  constructor
  · rintro ⟨h, h1, h2⟩
    rw [← h1, ← h2]
    apply ByteArray.ext
    simp [ByteArray.data_append, ByteArray.data_extract]
  · rintro rfl
    refine ⟨by simp, ?_, ?_⟩
    · apply ByteArray.ext
      simp [ByteArray.data_append, ByteArray.data_extract]
    · apply ByteArray.ext
      simp [ByteArray.data_append, ByteArray.data_extract]
      have e1 : a.data.extract a.size (a.size + b.size) = #[] := by
        apply Array.eq_empty_of_size_eq_zero
        have : a.data.size = a.size := rfl
        simp [this]
      have e2 : b.data.extract 0 b.size = b.data := by
        have : b.data.size = b.size := rfl
        rw [← this]; simp
      rw [e1, e2]; simp
theorem t68 (d : Decl) (n : ByteArray) : ∃ v, Ret T 68 [encD d, .s n] v ∧ Eqv (.b (entryOf d 0 n).isSome) v := by
  have hcl := d.ctors_len
  have hfl := d.funs_len
  have hnl := d.name_len
  rcases kinds d.kind with h | h | h | h | h | ⟨h0, h1, h2, h3, h4⟩
  · refine ret_of rfl rfl (by simp) ?_
    simp [fr0, h, entryOf]
    split <;> simp_all
  · refine ret_of rfl rfl (by simp) ?_
    simp [fr0, h, entryOf]
    split <;> simp_all
  · refine ret_of rfl rfl (by simp) ?_
    simp [fr0, h, entryOf]
    split <;> simp_all
  · refine ret_of rfl rfl (by simp) ?_
    simp [fr0, h]
    refine wk_loop (α := {j : Nat // NB Ctor.name n d.ctors j}) (fun j => [(5, .i .i64 j.1)]) (fun _ => []) (fun j => d.ctors.length - j.1) ⟨0, nb_zero⟩ (by rfl) (by rfl) ?_
    rintro ⟨j, hnb⟩ hl
    simp
    constructor
    · intro hj
      have hw := wrap_succ j _ hj (by simp)
      simp at hw
      by_cases hx : d.ctors[j].name = n
      · simp [get_some hj, hx]
        have := first_hit (k := 0) hnb (get_some hj) hx
        unfold entryOf
        simp [h, this]
        split <;> simp
      · have hc := hl ⟨j + 1, nb_succ hnb (get_some hj) hx⟩ (by simp; omega)
        simp at hc
        simp [get_some hj, hw, hc, hx]
    · intro hj
      have hf := first_none (k := 0) hnb hj
      have hs := suffix_iff n d.name dotRec
      have h4 : dotRec.size = 4 := rfl
      have hE : ¬ n = d.name → entryOf d 0 n = if n = d.name ++ dotRec then some ⟨5, 0, 0, d.recur.params, d.recur.type⟩ else none := by
        intro e; simp [entryOf, h, hf, e]
      have hw4 : IntKind.i64.wrap ((d.name.size : Int) + 4) = ((d.name.size + 4 : Nat) : Int) := by rw [IntKind.wrap_i64]; omega
      rw [hw4]
      refine ⟨fun e => by simp [entryOf, h, e], fun e => ⟨fun hz => ?_, fun hz => ?_⟩⟩
      · have hz : n.size = d.name.size + 4 := by omega
        refine ⟨by omega, fun e1 => ⟨by omega, ?_⟩, fun e1 => ?_⟩
        · rw [hE e]
          by_cases e2 : n = d.name ++ dotRec
          · have := (hs.2 e2).2.2
            rw [if_pos e2, this]; simp [dotRec]
          · rw [if_neg e2]
            have : ¬ n.extract d.name.size n.size = ⟨#[46, 114, 101, 99]⟩ := fun c => e2 (hs.1 ⟨by omega, e1, c⟩)
            simp [this]
        · rw [hE e, if_neg]
          intro e2; exact e1 (hs.2 e2).2.1
      · rw [hE e, if_neg]
        intro e2; exact hz (by have := (hs.2 e2).1; omega)
  · refine ret_of rfl rfl (by simp) ?_
    simp [fr0, h]
    refine wk_loop (α := {j : Nat // NB Fun.name n d.funs j}) (fun j => [(7, .i .i64 j.1)]) (fun _ => []) (fun j => d.funs.length - j.1) ⟨0, nb_zero⟩ (by rfl) (by rfl) ?_
    rintro ⟨j, hnb⟩ hl
    simp
    constructor
    · intro hj
      have hw := wrap_succ j _ hj (by simp)
      simp at hw
      by_cases hx : d.funs[j].name = n
      · simp [get_some hj, hx]
        have := first_hit (k := 0) hnb (get_some hj) hx
        unfold entryOf
        simp [h, this]
      · have hc := hl ⟨j + 1, nb_succ hnb (get_some hj) hx⟩ (by simp; omega)
        simp at hc
        simp [get_some hj, hw, hc, hx]
    · intro hj
      have hf := first_none (k := 0) hnb hj
      simp [entryOf, h, hf]
  · refine ret_of rfl rfl (by simp) ?_
    simp [fr0, h0, h1, h2, h3, h4, entryOf]
@[simp] theorem c68 (d : Decl) (n : ByteArray) : WC T (.fn 68) [encD d, .s n] dd ops keep dr K F H Q ↔ WO T ops keep dr K (F.put dd (.b (entryOf d 0 n).isSome)) H Q := by
  obtain ⟨v, h, rfl⟩ := t68 d n
  exact wc_ret h
/-- an entry, and the right one if the name is declared -/
def IsEn (d : Decl) (a : Int) (n : ByteArray) (v : V) : Prop := ∃ e, v = encE e ∧ ∀ e', entryOf d a n = some e' → e = e'
theorem t69 (d : Decl) (a : Int) (n : ByteArray) : ∃ v, Ret T 69 [encD d, .i .i64 a, .s n] v ∧ IsEn d a n v := by
  have hcl := d.ctors_len
  have hfl := d.funs_len
  rcases kinds d.kind with h | h | h | h | h | ⟨h0, h1, h2, h3, h4⟩
  · refine ret_of rfl rfl (by simp) ?_
    simp [fr0, h]
    exact ⟨⟨0, a, 0, d.params, d.type⟩, rfl, fun e' he => by simp [entryOf, h] at he; exact he.2⟩
  · refine ret_of rfl rfl (by simp) ?_
    simp [fr0, h]
    exact ⟨⟨1, a, 0, d.params, d.type⟩, rfl, fun e' he => by simp [entryOf, h] at he; exact he.2⟩
  · refine ret_of rfl rfl (by simp) ?_
    simp [fr0, h]
    exact ⟨⟨2, a, 0, d.params, d.type⟩, rfl, fun e' he => by simp [entryOf, h] at he; exact he.2⟩
  · refine ret_of rfl rfl (by simp) ?_
    by_cases hn : n = d.name
    · simp [fr0, h, hn]
      exact ⟨⟨3, a, 0, d.params, d.type⟩, rfl, fun e' he => by simp [entryOf, h, hn] at he; exact he⟩
    · simp [fr0, h, hn]
      refine wk_loop (α := {j : Nat // NB Ctor.name n d.ctors j}) (fun j => [(8, .i .i64 j.1)]) (fun _ => []) (fun j => d.ctors.length - j.1) ⟨0, nb_zero⟩ (by rfl) (by rfl) ?_
      rintro ⟨j, hnb⟩ hl
      simp
      constructor
      · intro hj
        have hw := wrap_succ j _ hj (by simp)
        simp at hw
        by_cases hx : d.ctors[j].name = n
        · simp [get_some hj, hx]
          have := first_hit (k := 0) hnb (get_some hj) hx
          exact ⟨⟨4, a, j, d.params, d.ctors[j].type⟩, rfl, fun e' he => by simp [entryOf, h, hn, this] at he; exact he⟩
        · have hc := hl ⟨j + 1, nb_succ hnb (get_some hj) hx⟩ (by simp; omega)
          simp at hc
          simp [get_some hj, hw, hc, hx]
      · intro hj
        have hf := first_none (k := 0) hnb hj
        exact ⟨⟨5, a, 0, d.recur.params, d.recur.type⟩, rfl, fun e' he => by simp [entryOf, h, hn, hf] at he; exact he.2⟩
  · refine ret_of rfl rfl (by simp) ?_
    simp [fr0, h]
    refine wk_loop (α := {j : Nat // NB Fun.name n d.funs j}) (fun j => [(9, .i .i64 j.1)]) (fun _ => []) (fun j => d.funs.length - j.1) ⟨0, nb_zero⟩ (by rfl) (by rfl) ?_
    rintro ⟨j, hnb⟩ hl
    simp
    constructor
    · intro hj
      have hw := wrap_succ j _ hj (by simp)
      simp at hw
      by_cases hx : d.funs[j].name = n
      · simp [get_some hj, hx]
        have := first_hit (k := 0) hnb (get_some hj) hx
        exact ⟨⟨6, a, j, d.params, d.funs[j].type⟩, rfl, fun e' he => by simp [entryOf, h, this] at he; exact he⟩
      · have hc := hl ⟨j + 1, nb_succ hnb (get_some hj) hx⟩ (by simp; omega)
        simp at hc
        simp [get_some hj, hw, hc, hx]
    · intro hj
      have hf := first_none (k := 0) hnb hj
      exact ⟨⟨0, a, 0, d.params, d.type⟩, rfl, fun e' he => by simp [entryOf, h, hf] at he⟩
  · refine ret_of rfl rfl (by simp) ?_
    simp [fr0, h0, h1, h2, h3, h4]
    refine wk_loop (fun (j : Nat) => [(9, .i .i64 j)]) (fun _ => []) (fun j => d.funs.length - j) 0 (by rfl) (by rfl) ?_
    intro j hl
    simp
    constructor
    · intro hj
      have hc := hl (j + 1) (by omega)
      have hw := wrap_succ j _ hj (by simp)
      simp at hc hw
      simp [get_some hj, hw, hc]
      intro hx
      exact ⟨⟨6, a, j, d.params, d.funs[j].type⟩, rfl, fun e' he => by simp [entryOf, h0, h1, h2, h3, h4] at he⟩
    · intro hj
      exact ⟨⟨0, a, 0, d.params, d.type⟩, rfl, fun e' he => by simp [entryOf, h0, h1, h2, h3, h4] at he⟩
noncomputable def g69 (d : Decl) (a : Int) (n : ByteArray) : Entry := (t69 d a n).choose_spec.2.choose
theorem r69 (d : Decl) (a : Int) (n : ByteArray) : Ret T 69 [encD d, .i .i64 a, .s n] (encE (g69 d a n)) := by
  have h := (t69 d a n).choose_spec
  have h2 := h.2.choose_spec.1
  have h1 := h.1
  rw [h2] at h1; exact h1
theorem g69_eq {d : Decl} {a : Int} {n : ByteArray} {e : Entry} (h : entryOf d a n = some e) : g69 d a n = e := (t69 d a n).choose_spec.2.choose_spec.2 e h
@[simp] theorem c69 (d : Decl) (a : Int) (n : ByteArray) : WC T (.fn 69) [encD d, .i .i64 a, .s n] dd ops keep dr K F H Q ↔ WO T ops keep dr K (F.put dd (encE (g69 d a n))) H Q := wc_ret (r69 d a n)
def IsFd (env : List Decl) (n : ByteArray) (v : V) : Prop := v = .tuple [encE (findR env n).1, .i .i64 (findR env n).2]
theorem t50 (env : List Decl) (hl : env.length < 1073741824) (n : ByteArray) : ∃ v, Ret T 50 [.list 23 (List.map encD env) false, .s n] v ∧ IsFd env n v := by
  have hlen := hl
  refine ret_of rfl rfl (by simp) ?_
  simp [fr0]
  refine wk_loop (α := {j : Nat // NF n env j}) (fun j => [(6, .i .i64 j.1)]) (fun _ => []) (fun j => env.length - j.1) ⟨0, nf_zero⟩ (by rfl) (by rfl) ?_
  rintro ⟨j, hnf⟩ hl
  simp
  constructor
  · intro hj
    have hw := wrap_succ j _ hj hlen
    simp at hw
    cases hx : (entryOf env[j] 0 n).isSome with
    | true =>
      simp [get_some hj, hx]
      have h2 : (entryOf env[j] j n).isSome = true := by rw [entryOf_some _ j 0]; exact hx
      obtain ⟨e, he⟩ := Option.isSome_iff_exists.1 h2
      have hf := findE_hit (k := 0) hnf (get_some hj) (by simpa using he)
      simp [IsFd, findR, hf, g69_eq he]
    | false =>
      have hc := hl ⟨j + 1, nf_succ hnf (get_some hj) hx⟩ (by simp; omega)
      simp at hc
      simp [get_some hj, hw, hc, hx]
  · intro hj
    have hf := findE_none (k := 0) hnf hj
    simp [IsFd, findR, hf, encE_zero]
theorem r50 (env : List Decl) (hl : env.length < 1073741824) (n : ByteArray) : Ret T 50 [.list 23 (List.map encD env) false, .s n] (.tuple [encE (findR env n).1, .i .i64 (findR env n).2]) := by
  obtain ⟨v, h, rfl⟩ := t50 env hl n
  exact h
@[simp] theorem c50 (env : List Decl) (hl : env.length < 1073741824) (n : ByteArray) : WC T (.fn 50) [.list 23 (List.map encD env) false, .s n] dd ops keep dr K F H Q ↔ WO T ops keep dr K (F.put dd (.tuple [encE (findR env n).1, .i .i64 (findR env n).2])) H Q := wc_ret (r50 env hl n)
end Go.Iv.Ir
