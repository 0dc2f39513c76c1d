/- The law's arguments, as read, are declarations and a term of the Lean types, if their bulk is small. No conditions. -/
import Derived.Test.YtpgojhgfhhgomaaRows
import Derived.Test.YtpgojhgfhhgomaaIvWt
import Derived.Test.YtpgojhgfhhgomaaIvTy
namespace Go.Iv
open Go.Proofs Go.Proofs.Ytpgojhgfhhgomaa.Rows
set_option linter.unusedVariables false
set_option linter.unusedSimpArgs false
variable {H : Type}
theorem bulk_pos (d : DataW H) : 1 ≤ uptoBulk d := by
  cases d with
  | lit l => cases l <;> simp [uptoBulk]
  | _ => simp [uptoBulk]
theorem bulk_all (l : List (DataW H)) : uptoBulkAll l = (l.map uptoBulk).sum := by
  induction l with
  | nil => rfl
  | cons x l ih => simp [uptoBulkAll, ih]
theorem bulk_elems (d : DataW H) : uptoBulkAll (elemsOf d) + 1 ≤ uptoBulk d := by
  cases d with
  | slice e s => simp [elemsOf, uptoBulk]
  | lit l => simpa [elemsOf, uptoBulkAll] using bulk_pos (.lit l)
  | _ => simp [elemsOf, uptoBulkAll, uptoBulk]
theorem bulk_mem {l : List (DataW H)} {x : DataW H} (h : x ∈ l) : uptoBulk x ≤ uptoBulkAll l := by
  rw [bulk_all]; exact sum_ge (List.mem_map_of_mem h)
/-- a list, element by element, with a measure -/
theorem dec_list {α : Type} {f : DataW H → V} {enc : α → V} {m : α → Nat} : ∀ (l : List (DataW H)), (∀ x ∈ l, ∃ y, f x = enc y ∧ m y ≤ uptoBulk x) → ∃ ys : List α, l.map f = ys.map enc ∧ ys.length ≤ uptoBulkAll l ∧ (ys.map m).sum ≤ uptoBulkAll l
  | [], h => ⟨[], rfl, by simp, by simp⟩
  | x :: l, h => by
    obtain ⟨y, h1, h2⟩ := h x (by simp)
    obtain ⟨ys, k1, k2, k3⟩ := dec_list l fun x hx => h x (by simp [hx])
    have := bulk_pos x
    refine ⟨y :: ys, by simp [h1, k1], ?_, ?_⟩
    · simp [uptoBulkAll]; omega
    · simp [uptoBulkAll]; omega
theorem dec_i {n : Nat} {d : DataW H} (h : wt Try.prog n 3 d) : ∃ m, toV Try.prog n 3 d = [.i .i64 m] := by
  cases n with
  | zero => exact h.elim
  | succ n =>
    simp only [wt, Try.underlying3] at h
    obtain ⟨m, rfl⟩ := h
    exact ⟨m, by simp [toV, Try.underlying3]⟩
theorem dec_b {n : Nat} {d : DataW H} (h : wt Try.prog n 4 d) : ∃ m, toV Try.prog n 4 d = [.b m] := by
  cases n with
  | zero => exact h.elim
  | succ n =>
    simp only [wt, Try.underlying4] at h
    obtain ⟨m, rfl⟩ := h
    exact ⟨m, by simp [toV, Try.underlying4]⟩
theorem dec_s {n : Nat} {d : DataW H} (h : wt Try.prog n 9 d) : ∃ m, toV Try.prog n 9 d = [.s m] ∧ m.size ≤ uptoBulk d := by
  cases n with
  | zero => exact h.elim
  | succ n =>
    simp only [wt, Try.underlying9] at h
    obtain ⟨l, rfl⟩ := h
    refine ⟨⟨l.toArray⟩, by simp [toV, Try.underlying9], ?_⟩
    show l.toArray.size ≤ _
    simp [uptoBulk]
theorem dec_lv {n : Nat} {d : DataW H} (h : wt Try.prog n 101 d) : ∃ y : LV, toV Try.prog n 101 d = (encLV y).cells := by
  cases n with
  | zero => exact h.elim
  | succ n =>
    simp only [wt, Try.underlying101] at h
    obtain ⟨parts, rfl, hl, hz⟩ := h
    match parts, hl with
    | [a, b], _ =>
      simp at hz
      obtain ⟨i, hi⟩ := dec_i hz.1
      obtain ⟨p, hp⟩ := dec_i hz.2
      exact ⟨⟨i, p⟩, by simp [toV, Try.underlying101, hi, hp]⟩
theorem isS {t : TypeId} {fs : Array Field} (h : Try.prog.underlying t = some (.struct fs)) : isStructT Try.prog t = true := by simp [isStructT, h]
theorem agg_cells {v : V} {cs : List V} (h : v = .agg cs) : V.agg v.cells = v := by subst h; rfl
theorem dec_slice {α : Type} {n : Nat} {t e : TypeId} {fs : Array Field} {enc : α → V} {m : α → Nat} {d : DataW H} (hu : Try.prog.underlying t = some (.slice e)) (he : Try.prog.underlying e = some (.struct fs)) (henc : ∀ y, ∃ cs, enc y = .agg cs)
    (h : wt Try.prog n t d) (hd : ∀ k x, n = k + 1 → x ∈ elemsOf d → wt Try.prog k e x → ∃ y, toV Try.prog k e x = (enc y).cells ∧ m y ≤ uptoBulk x) :
    ∃ ys : List α, toV Try.prog n t d = [.list (Try.prog.cellsOf e) (ys.map enc) false] ∧ ys.length + 1 ≤ uptoBulk d ∧ (ys.map m).sum + 1 ≤ uptoBulk d := by
  cases n with
  | zero => exact h.elim
  | succ n =>
    simp only [wt, hu] at h
    obtain ⟨ys, k1, k2, k3⟩ := dec_list (f := fun x => elemV Try.prog e (toV Try.prog n e x)) (enc := enc) (m := m) (elemsOf d) fun x hx => by
      obtain ⟨y, h1, h2⟩ := hd n x rfl hx (h x hx)
      refine ⟨y, ?_, h2⟩
      obtain ⟨cs, hc⟩ := henc y
      simp only [elemV, isS he, if_true, h1]
      exact agg_cells hc
    have hb := bulk_elems d
    refine ⟨ys, ?_, by omega, by omega⟩
    rw [toV_slice hu, k1]
theorem dec_l {n : Nat} {d : DataW H} (h : wt Try.prog n 92 d) (hb : uptoBulk d < 1073741824) : ∃ y : Level, toV Try.prog n 92 d = (encL y).cells := by
  cases n with
  | zero => exact h.elim
  | succ n =>
    simp only [wt, Try.underlying92] at h
    obtain ⟨parts, rfl, hl, hz⟩ := h
    match parts, hl with
    | [a, b], _ =>
      simp at hz
      simp [uptoBulk, uptoBulkAll] at hb
      obtain ⟨i, hi⟩ := dec_i hz.1
      obtain ⟨ys, k1, k2, _⟩ := dec_slice (m := fun _ => 1) (enc := encLV) Try.underlying90 Try.underlying101 (fun y => ⟨_, rfl⟩) hz.2 (fun k x _ _ hx => by
        obtain ⟨y, hy⟩ := dec_lv hx
        exact ⟨y, hy, bulk_pos x⟩)
      have hc : Try.prog.cellsOf 101 = 2 := by kernel_rfl
      rw [hc] at k1
      exact ⟨⟨i, ⟨ys, by omega⟩⟩, by simp [toV, Try.underlying92, hi, k1, Level.vars]⟩
theorem ofFn_get {α β : Type} (g : α → β) (ys : List α) : (List.ofFn fun j : Fin ys.length => g ys[j]) = ys.map g := by
  apply List.ext_getElem
  · simp
  · intro i h1 h2; simp
theorem dec_t : ∀ (n : Nat) (d : DataW H), wt Try.prog n 26 d → uptoBulk d < 1073741824 → ∃ y : Term, toV Try.prog n 26 d = (encR y).cells ∧ y.sz ≤ uptoBulk d := by
  intro n
  induction n using Nat.strongRecOn with
  | ind n ih =>
    intro d h hb
    cases n with
    | zero => exact h.elim
    | succ n =>
      simp only [wt, Try.underlying26] at h
      obtain ⟨parts, rfl, hl, hz⟩ := h
      match parts, hl with
      | [a, b, c, e, f], _ =>
        simp at hz
        obtain ⟨ha, hb', hc', he, hf⟩ := hz
        simp [uptoBulk, uptoBulkAll] at hb
        obtain ⟨k, hk⟩ := dec_i ha
        obtain ⟨i, hi⟩ := dec_i hb'
        obtain ⟨s, hs, _⟩ := dec_s hc'
        obtain ⟨lv, l1, l2, _⟩ := dec_slice (m := fun _ => 1) (enc := encL) Try.underlying23 Try.underlying92 (fun y => ⟨_, rfl⟩) he (fun k x _ hx hw => by
          obtain ⟨y, hy⟩ := dec_l hw (by have := bulk_mem hx; have := bulk_elems e; omega)
          exact ⟨y, hy, bulk_pos x⟩)
        obtain ⟨ys, k1, k2, k3⟩ := dec_slice (m := Term.sz) (enc := encR) Try.underlying24 Try.underlying26 (fun y => by cases y; exact ⟨_, rfl⟩) hf (fun k x hk hx hw =>
          ih k (by omega) x hw (by have := bulk_mem hx; have := bulk_elems f; omega))
        have hc2 : Try.prog.cellsOf 92 = 2 := by kernel_rfl
        have hc5 : Try.prog.cellsOf 26 = 5 := by kernel_rfl
        rw [hc2] at l1
        rw [hc5] at k1
        refine ⟨.mk k i s ⟨lv, by omega⟩ ys.length (fun j => ys[j]), ?_, ?_⟩
        · simp [toV, Try.underlying26, hk, hi, hs, l1, k1, encR]
          exact (ofFn_get encR ys).symm
        · have := congrArg List.sum (ofFn_get Term.sz ys)
          simp only [Term.sz, uptoBulk, uptoBulkAll]
          simp at this ⊢
          omega
theorem dec_tm {n : Nat} {d : DataW H} (h : wt Try.prog n 26 d) (hb : uptoBulk d < 1073741824) : ∃ y : Tm, toV Try.prog n 26 d = (encT y).cells := by
  obtain ⟨y, h1, h2⟩ := dec_t n d h hb
  exact ⟨⟨y, by omega⟩, h1⟩
theorem dec_c {n : Nat} {d : DataW H} (h : wt Try.prog n 75 d) (hb : uptoBulk d < 1073741824) : ∃ y : Ctor, toV Try.prog n 75 d = (encC y).cells := by
  cases n with
  | zero => exact h.elim
  | succ n =>
    simp only [wt, Try.underlying75] at h
    obtain ⟨parts, rfl, hl, hz⟩ := h
    match parts, hl with
    | [a, b], _ =>
      simp at hz
      simp [uptoBulk, uptoBulkAll] at hb
      obtain ⟨s, hs, _⟩ := dec_s hz.1
      obtain ⟨t, ht⟩ := dec_tm hz.2 (by omega)
      exact ⟨⟨s, t⟩, by simp [toV, Try.underlying75, hs, ht]⟩
theorem dec_ts {n : Nat} {d : DataW H} (h : wt Try.prog n 24 d) (hb : uptoBulk d < 1073741824) : ∃ ys : List Tm, toV Try.prog n 24 d = [.list 5 (ys.map encT) false] ∧ ys.length < 1073741824 := by
  obtain ⟨ys, k1, k2, _⟩ := dec_slice (m := fun _ => 1) (enc := encT) Try.underlying24 Try.underlying26 (fun y => ⟨_, encT_def y⟩) h (fun k x _ hx hw => by
    obtain ⟨y, hy⟩ := dec_tm hw (by have := bulk_mem hx; have := bulk_elems d; omega)
    exact ⟨y, hy, bulk_pos x⟩)
  have hc5 : Try.prog.cellsOf 26 = 5 := by kernel_rfl
  rw [hc5] at k1
  exact ⟨ys, k1, by omega⟩
theorem dec_rec {n : Nat} {d : DataW H} (h : wt Try.prog n 32 d) (hb : uptoBulk d < 1073741824) : ∃ y : Recur, toV Try.prog n 32 d = (encRec y).cells := by
  cases n with
  | zero => exact h.elim
  | succ n =>
    simp only [wt, Try.underlying32] at h
    obtain ⟨parts, rfl, hl, hz⟩ := h
    match parts, hl with
    | [a, b, c], _ =>
      simp at hz
      simp [uptoBulk, uptoBulkAll] at hb
      obtain ⟨s, hs⟩ := dec_i hz.1
      obtain ⟨t, ht⟩ := dec_tm hz.2.1 (by omega)
      obtain ⟨ys, k1, k2⟩ := dec_ts hz.2.2 (by omega)
      exact ⟨⟨s, t, ⟨ys, k2⟩⟩, by simp [toV, Try.underlying32, hs, ht, k1, Recur.rules]⟩
theorem dec_tr : ∀ (n : Nat) (d : DataW H), wt Try.prog n 78 d → uptoBulk d < 1073741824 → ∃ y : Tree, toV Try.prog n 78 d = encQ y ∧ y.sz ≤ uptoBulk d := by
  intro n
  induction n using Nat.strongRecOn with
  | ind n ih =>
    intro d h hb
    cases n with
    | zero => exact h.elim
    | succ n =>
      simp only [wt, Try.underlying78] at h
      obtain ⟨parts, rfl, hl, hz⟩ := h
      match parts, hl with
      | [a, b, c, f], _ =>
        simp at hz
        obtain ⟨ha, hb', hc', hf⟩ := hz
        simp [uptoBulk, uptoBulkAll] at hb
        obtain ⟨k, hk⟩ := dec_i ha
        obtain ⟨t, ht⟩ := dec_tm hb' (by omega)
        obtain ⟨v, hv⟩ := dec_i hc'
        obtain ⟨ys, k1, k2, k3⟩ := dec_slice (α := (ByteArray × Bool) × Tree) (m := fun p => p.2.sz) (enc := fun p => .agg (.s p.1.1 :: .b p.1.2 :: encQ p.2)) Try.underlying76 Try.underlying111 (fun y => ⟨_, rfl⟩) hf (fun k x hk hx hw => by
          have hbx := bulk_mem hx
          have hbf := bulk_elems f
          cases k with
          | zero => exact hw.elim
          | succ k =>
            simp only [wt, Try.underlying111] at hw
            obtain ⟨parts, rfl, hl, hz⟩ := hw
            match parts, hl with
            | [p, q, r], _ =>
              simp at hz
              simp [uptoBulk, uptoBulkAll] at hbx
              obtain ⟨s, hs, _⟩ := dec_s hz.1
              obtain ⟨w, hw⟩ := dec_b hz.2.1
              obtain ⟨y, h1, h2⟩ := ih k (by omega) r hz.2.2 (by omega)
              refine ⟨((s, w), y), by simp [toV, Try.underlying111, hs, hw, h1], ?_⟩
              simp [uptoBulk, uptoBulkAll]; omega)
        have hc10 : Try.prog.cellsOf 111 = 10 := by kernel_rfl
        rw [hc10] at k1
        refine ⟨.mk k t v ys.length (fun j => ys[j].1) (fun j => ys[j].2), ?_, ?_⟩
        · simp [toV, Try.underlying78, hk, ht, hv, k1, encQ]
          exact (ofFn_get (fun p : (ByteArray × Bool) × Tree => V.agg (.s p.1.1 :: .b p.1.2 :: encQ p.2)) ys).symm
        · have := congrArg List.sum (ofFn_get (fun p : (ByteArray × Bool) × Tree => p.2.sz) ys)
          simp only [Tree.sz, uptoBulk, uptoBulkAll]
          simp at this ⊢
          omega
theorem dec_f {n : Nat} {d : DataW H} (h : wt Try.prog n 80 d) (hb : uptoBulk d < 1073741824) : ∃ y : Fun, toV Try.prog n 80 d = (encF y).cells := by
  cases n with
  | zero => exact h.elim
  | succ n =>
    simp only [wt, Try.underlying80] at h
    obtain ⟨parts, rfl, hl, hz⟩ := h
    match parts, hl with
    | [a, b, c, e], _ =>
      simp at hz
      simp [uptoBulk, uptoBulkAll] at hb
      obtain ⟨s, hs, _⟩ := dec_s hz.1
      obtain ⟨t, ht⟩ := dec_tm hz.2.1 (by omega)
      obtain ⟨m, hm⟩ := dec_i hz.2.2.1
      obtain ⟨y, h1, h2⟩ := dec_tr _ _ hz.2.2.2 (by omega)
      have hq : encQ y = (encTr ⟨y, by omega⟩).cells := rfl
      refine ⟨⟨s, t, m, ⟨y, by omega⟩⟩, ?_⟩
      simp [toV, Try.underlying80, hs, ht, hm, h1, hq]
theorem dec_d {n : Nat} {d : DataW H} (h : wt Try.prog n 35 d) (hb : uptoBulk d < 1073741824) : ∃ y : Decl, toV Try.prog n 35 d = (encD y).cells := by
  cases n with
  | zero => exact h.elim
  | succ n =>
    simp only [wt, Try.underlying35] at h
    obtain ⟨parts, rfl, hl, hz⟩ := h
    match parts, hl with
    | [a, b, c, e, f, g, i, j, k], _ =>
      simp at hz
      simp [uptoBulk, uptoBulkAll] at hb
      obtain ⟨q1, q2, q3, q4, q5, q6, q7, q8, q9⟩ := hz
      obtain ⟨v1, h1⟩ := dec_i q1
      obtain ⟨v2, h2, b2⟩ := dec_s q2
      obtain ⟨v3, h3⟩ := dec_i q3
      obtain ⟨v4, h4⟩ := dec_tm q4 (by omega)
      obtain ⟨v5, h5⟩ := dec_tm q5 (by omega)
      obtain ⟨v6, h6⟩ := dec_i q6
      obtain ⟨v7, h7, b7, _⟩ := dec_slice (m := fun _ => 1) (enc := encC) Try.underlying30 Try.underlying75 (fun y => ⟨_, rfl⟩) q7 (fun k x _ hx hw => by
        obtain ⟨y, hy⟩ := dec_c hw (by have := bulk_mem hx; have := bulk_elems i; omega)
        exact ⟨y, hy, bulk_pos x⟩)
      obtain ⟨v8, h8⟩ := dec_rec q8 (by omega)
      obtain ⟨v9, h9, b9, _⟩ := dec_slice (m := fun _ => 1) (enc := encF) Try.underlying33 Try.underlying80 (fun y => ⟨_, rfl⟩) q9 (fun n x _ hx hw => by
        obtain ⟨y, hy⟩ := dec_f hw (by have := bulk_mem hx; have := bulk_elems k; omega)
        exact ⟨y, hy, bulk_pos x⟩)
      have hc6 : Try.prog.cellsOf 75 = 6 := by kernel_rfl
      have hc15 : Try.prog.cellsOf 80 = 15 := by kernel_rfl
      rw [hc6] at h7
      rw [hc15] at h9
      refine ⟨⟨v1, ⟨v2, by omega⟩, v3, v4, v5, v6, ⟨v7, by omega⟩, v8, ⟨v9, by omega⟩⟩, ?_⟩
      simp [toV, Try.underlying35, h1, h2, h3, h4, h5, h6, h7, h8, h9, Decl.name, Decl.ctors, Decl.funs]
theorem dec_ds {n : Nat} {d : DataW H} (h : wt Try.prog n 22 d) (hb : uptoBulk d < 1073741824) : ∃ ys : List Decl, toV Try.prog n 22 d = [.list 23 (ys.map encD) false] ∧ ys.length < 1073741824 := by
  obtain ⟨ys, k1, k2, _⟩ := dec_slice (m := fun _ => 1) (enc := encD) Try.underlying22 Try.underlying35 (fun y => ⟨_, rfl⟩) h (fun k x _ hx hw => by
    obtain ⟨y, hy⟩ := dec_d hw (by have := bulk_mem hx; have := bulk_elems d; omega)
    exact ⟨y, hy, bulk_pos x⟩)
  have hc : Try.prog.cellsOf 35 = 23 := by kernel_rfl
  rw [hc] at k1
  exact ⟨ys, k1, by omega⟩
end Go.Iv
