/- An array that is handed out becomes immutable. No conditions. -/
import Derived.Test.YtpgojhgfhhgomaaIvSound2
namespace Go.Iv
set_option linter.unusedVariables false
set_option linter.unusedSimpArgs false
variable {P : Program} {CR : Nat → Code → IC → Prop} {N : Nat} {g g' : Gh} {lam : Nat → Option Nat} {F : Fr} {H : Hp} {a : Act} {w w' : World}

def Gh.meltR (g : Gh) (w : World) (b s n k : Nat) (tag : Ow) : Gh :=
  { g with m := fun b' o => if b' = b ∧ s ≤ o ∧ o < s + n then ce w b' o else g.m b' o, own := fun b' o => if b' = b ∧ s ≤ o ∧ o < s + n then .imm else if b' = b ∧ s + n ≤ o ∧ o < s + n + k then tag else g.own b' o }
theorem RepE.of {g2 : Gh} {sz b : Nat} : ∀ (xs : List V) (o : Nat), (∀ x ∈ xs, x.fits sz = true) → (∀ (i : Nat) (x : V), xs[i]? = some x → ∀ (j : Nat) (c : V), x.cells[j]? = some c → ∃ u, g2.m b (o + i * sz + j) = some u ∧ Rep g2 c u ∧ c.one = true) → RepE g2 sz xs b o
  | [], o, _, _ => .nil
  | x :: xs, o, hf, h => by
    have hM : ∀ (cs : List V) (o : Nat), (∀ (j : Nat) (c : V), cs[j]? = some c → ∃ u, g2.m b (o + j) = some u ∧ Rep g2 c u ∧ c.one = true) → RepM g2 cs b o := by
      intro cs
      induction cs with
      | nil => exact fun _ _ => .nil
      | cons c cs ih =>
        intro o h
        obtain ⟨u, h1, h2, h3⟩ := h 0 c rfl
        exact .cons h3 h1 h2 (ih (o + 1) (fun j c' hj => by
          obtain ⟨u', k1, k2⟩ := h (j + 1) c' (by simpa using hj)
          exact ⟨u', by rw [← k1]; congr 1; omega, k2⟩))
    refine .cons (hf x (by simp)) (hM x.cells o (fun j c hj => by simpa using h 0 x rfl j c hj)) (RepE.of xs (o + sz) (fun y hy => hf y (by simp [hy])) (fun i y hi j c hj => ?_))
    obtain ⟨u, k1, k2⟩ := h (i + 1) y (by simpa using hi) j c hj
    exact ⟨u, by rw [← k1]; congr 1; rw [Nat.succ_mul]; omega, k2⟩
theorem Rel.melt (h : Rel CR N g lam F H a w) {t sz id off len : Nat} {xs : List V} (ht : F.tm t = .hs sz id off len) (ho : H.ob id = some (.arr sz xs)) (hl : off + len ≤ xs.length) :
    ∃ g2, Rel CR N g2 lam F (H.put id none) a w ∧ Ext g w g2 w ∧ Tr (fun x => x ≠ .heap id) g w g2 w ∧ Rep g2 (.list sz ((xs.drop off).take len) (off + len == xs.length && decide (0 < len))) (a.tmps.getD t undef) ∧ Spare g2 w (.spare t 0) sz (a.tmps.getD t undef) := by
  have hs := h.slot t
  rw [ht] at hs
  have hs : Rep g (.hs sz id off len) (a.tmps.getD t undef) := hs
  obtain ⟨b, base, cap, hmu, hok⟩ := h.base.heap id _ ho
  obtain ⟨hcap, hcell, hall⟩ := hok
  generalize hu : a.tmps.getD t undef = u at hs
  cases hs with
  | hs hm hlc =>
  rename_i b' base' cap'
  rw [hmu] at hm; cases hm
  have hrng : ∀ o, base + off * sz ≤ o → o < base + off * sz + len * sz + (cap - (off + len)) * sz → (ce w b o).isSome = true ∧ fz w b o = false ∧ g.own b o = .heap id := by
    intro o h1 h2
    have e1 : off * sz + len * sz + (cap - (off + len)) * sz = cap * sz := by rw [← Nat.add_mul, ← Nat.add_mul]; congr 1; omega
    have := hall (o - base) (by omega)
    rwa [show base + (o - base) = o by omega] at this
  obtain ⟨g2, hg2⟩ : ∃ g2, g2 = g.meltR w b (base + off * sz) (len * sz) ((cap - (off + len)) * sz) (.spare t 0) := ⟨_, rfl⟩
  have hm2 : ∀ b' o, g2.m b' o = if b' = b ∧ base + off * sz ≤ o ∧ o < base + off * sz + len * sz then ce w b' o else g.m b' o := fun b' o => by rw [hg2]; rfl
  have ho2 : ∀ b' o, g2.own b' o = if b' = b ∧ base + off * sz ≤ o ∧ o < base + off * sz + len * sz then .imm else if b' = b ∧ base + off * sz + len * sz ≤ o ∧ o < base + off * sz + len * sz + (cap - (off + len)) * sz then .spare t 0 else g.own b' o := fun b' o => by rw [hg2]; rfl
  have hmu2 : g2.mu = g.mu := by rw [hg2]; rfl
  have hkeep : ∀ b' o, g.own b' o ≠ .heap id → g2.own b' o = g.own b' o := by
    intro b' o hn
    rw [ho2]
    split
    · rename_i hc; obtain ⟨rfl, h1, h2⟩ := hc; exact absurd (hrng o h1 (by omega)).2.2 hn
    · split
      · rename_i hc; obtain ⟨rfl, h1, h2⟩ := hc; exact absurd (hrng o (by omega) h2).2.2 hn
      · rfl
  have hle : g.le g2 := ⟨fun b' o v e => by
    rw [hm2]
    split
    · rename_i hc; obtain ⟨rfl, h1, h2⟩ := hc
      have := (h.base.mem _ _ _ e).2
      rw [(hrng o h1 (by omega)).2.2] at this; cases this
    · exact e, fun _ _ e => by rw [hmu2]; exact e⟩
  have T : Tr (fun x => x ≠ .heap id) g w g2 w := ⟨hle, fun b' o hlv _ => ⟨hkeep b' o hlv, rfl, rfl⟩, fun b' ob e hn hlv => ⟨e, hkeep b' 0 hlv⟩⟩
  refine ⟨g2, ⟨h.base.tr T (fun b' o v e => ?_) (fun id' hid => by rw [hmu2]; exact h.base.fresh id' hid) (fun id' ob' e => ?_), h.sz, fun s => (h.slot s).tr T.le, fun s => (h.sown s).tr T (fun _ _ => by simp), fun t' cs2 hb' => ?_, h.ptr, fun d e => ?_, h.dfrN⟩, ⟨hle, Nat.le_refl _, fun b' o _ ho' => ⟨by rw [hkeep b' o (by rw [ho']; simp)]; exact ho', rfl⟩, fun b c e f hc => ⟨c, hc, rfl⟩, fun b ob hb' _ _ => hb', fun b r hb' => ⟨r, hb'⟩, ⟨rfl, rfl, fun _ => rfl⟩⟩, T, ?_, ?_⟩
  · rw [hm2] at e
    rw [ho2]
    split at e
    · rename_i hc; rw [if_pos hc]; exact ⟨e, rfl⟩
    · rename_i hc
      rw [if_neg hc]
      have := h.base.mem b' o v e
      split
      · rename_i hc2; obtain ⟨rfl, h1, h2⟩ := hc2
        rw [(hrng o (by omega) h2).2.2] at this
        cases this.2
      · exact this
  · by_cases hi : id' = id
    · subst hi; simp [Hp.put, upd] at e
    · simp only [Hp.put, upd, hi, if_false] at e
      exact .inl ⟨e, by simp [hi]⟩
  · obtain ⟨blk2, e1, e2⟩ := h.box t' cs2 hb'
    exact ⟨blk2, e1, e2.tr T (by simp) (fun _ => by simp)⟩
  · obtain ⟨r, e1, e2, e3⟩ := h.dfr d e
    obtain ⟨t1, t2⟩ := T.objs r _ e2 rfl (by rw [e3]; simp)
    exact ⟨r, e1, t1, t2.trans e3⟩
  · have hlen : ((xs.drop off).take len).length = len := by simp; omega
    have := Rep.list (g := g2) (sz := sz) (xs := (xs.drop off).take len) (o := off + len == xs.length && decide (0 < len)) (a := ⟨b, base + off * sz, none⟩) (cap := cap - off) (fun _ => rfl) (by rw [hlen]; omega)
      (fun h1 h2 => by
        simp only [Bool.and_eq_true, decide_eq_true_eq] at h1
        have : len = 0 := by rw [← hlen, h2]; rfl
        omega)
      (RepE.of _ _ (fun x hx => ?_) (fun i x hi j c hj => ?_))
    · rw [hlen] at this; exact this
    · obtain ⟨i, hi⟩ := List.getElem?_of_mem (List.mem_of_mem_drop (List.mem_of_mem_take hx))
      exact (hcell i x hi).1
    · rw [List.getElem?_take] at hi
      split at hi
      · rename_i hlt
        rw [List.getElem?_drop] at hi
        obtain ⟨f1, f2⟩ := hcell (off + i) x hi
        obtain ⟨u, k1, k2, k3⟩ := f2 j c hj
        have hjl : j < sz := by rw [← V.fits_len f1]; exact (List.getElem?_eq_some_iff.1 hj).1
        have e1 : base + (off + i) * sz + j = base + off * sz + i * sz + j := by rw [Nat.add_mul]; omega
        have hb1 : i * sz + j < len * sz := by
          have : (i + 1) * sz ≤ len * sz := Nat.mul_le_mul_right _ hlt
          rw [Nat.add_mul] at this; omega
        refine ⟨u, ?_, k2.mono hle, k3⟩
        rw [hm2, if_pos ⟨rfl, by simp only; omega, by simp only; omega⟩]
        rw [← k1, e1]
      · cases hi
  · intro ad ln cp hu'
    cases hu'
    refine ⟨rfl, by omega, fun k hk => ?_⟩
    simp only
    have hk' : k < (cap - (off + len)) * sz := by rwa [show cap - off - len = cap - (off + len) by omega] at hk
    obtain ⟨k1, k2, k3⟩ := hrng (base + off * sz + len * sz + k) (by omega) (by omega)
    refine ⟨?_, k1, k2⟩
    rw [ho2, if_neg (fun hc => by omega), if_pos ⟨rfl, by omega, by omega⟩]
end Go.Iv
