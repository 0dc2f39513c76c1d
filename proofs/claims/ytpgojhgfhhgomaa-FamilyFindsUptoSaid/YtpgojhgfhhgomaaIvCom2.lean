/- Footprints of operations; two operations that do not meet may change places. No conditions. -/
import Derived.Test.YtpgojhgfhhgomaaIvCom
namespace Go.Iv
set_option linter.unusedVariables false
set_option linter.unusedSimpArgs false

structure Fp where
  rs : List Nat
  ws : List Nat
  bs : List Nat
  bw : List Nat
  h : Nat
def slotsOf (xs : List Rd) : List Nat := xs.flatMap slotOf
def gSlot : Option (Nat × Bool) → List Nat
  | some (j, _) => [j]
  | none => []
def fpOf (o : Ins) : Option Fp :=
  let rs := gSlot o.g ++ slotsOf o.op.rds
  let d := oList o.dst
  if o.op.pure then some ⟨rs, d, [], [], 0⟩ else
  match o.op with
  | .mv (.t s) true => some ⟨rs, s :: d, [], [], 0⟩
  | .ext (.t s) _ => some ⟨rs, s :: d, [], [], 0⟩
  | .app _ false (.t s) _ => some ⟨rs, s :: d, [], [], 0⟩
  | .load _ _ tk (.L t) => some ⟨rs, d, [t], if tk then [t] else [], 0⟩
  | .load _ _ _ .C => some ⟨rs, d, [], [], 0⟩
  | .load _ _ _ .G => some ⟨rs, d, [], [], 1⟩
  | .store _ _ v tk (.L t) => some ⟨rs, (if tk then slotOf v else []) ++ d, [t], [t], 0⟩
  | .store _ _ v tk .G => some ⟨rs, (if tk then slotOf v else []) ++ d, [], [], 2⟩
  | .boxL _ => some ⟨rs, d, d, d, 0⟩
  | .allocL _ => some ⟨rs, d, d, d, 0⟩
  | .boxG _ => some ⟨rs, d, [], [], 2⟩
  | .allocG _ => some ⟨rs, d, [], [], 2⟩
  | .callF _ _ => some ⟨rs, d, [], [], 2⟩
  | .callV _ _ => some ⟨rs, d, [], [], 2⟩
  | .mkf _ _ [] => some ⟨rs, d, [], [], 0⟩
  | _ => none

/-- what an operation does, it does from its footprint alone -/
structure Loc (call : CallF) (o : Ins) (fp : Fp) (F1 : Fr) (H1 : Hp) (F1' : Fr) (H1' : Hp) : Prop where
  tm : ∀ t, t ∉ fp.ws → F1'.tm t = F1.tm t
  bx : ∀ t, t ∉ fp.bw → F1'.bx t = F1.bx t
  hp : fp.h ≠ 2 → H1' = H1
  again : ∀ F2 H2, (∀ t ∈ fp.rs, F2.tm t = F1.tm t) → (∀ t ∈ fp.bs, F2.bx t = F1.bx t) → (fp.h ≠ 0 → H2 = H1) →
    ∃ (F2' : Fr) (H2' : Hp), stepO call o F2 H2 = some (.normal, F2', H2') ∧ (∀ t, t ∈ fp.ws → F2'.tm t = F1'.tm t) ∧ (∀ t, t ∉ fp.ws → F2'.tm t = F2.tm t) ∧ (∀ t, t ∈ fp.bw → F2'.bx t = F1'.bx t) ∧ (∀ t, t ∉ fp.bw → F2'.bx t = F2.bx t) ∧
      (fp.h = 2 → H2' = H1') ∧ (fp.h ≠ 2 → H2' = H2)

theorem get_agree {F1 F2 : Fr} {xs : List Rd} (h : ∀ t ∈ slotsOf xs, F2.tm t = F1.tm t) : ∀ x ∈ xs, x.get F2 = x.get F1 := by
  intro x hx
  cases x with
  | t n => exact h n (List.mem_flatMap.2 ⟨_, hx, by simp [slotOf]⟩)
  | c v => rfl
theorem put_tm (F : Fr) (d : Option Nat) (v : V) (t : Nat) : (F.put d v).tm t = if t ∈ oList d then v else F.tm t := by
  cases d with
  | none => simp [Fr.put, oList]
  | some d => by_cases h : t = d <;> simp [Fr.put, oList, upd, h]
theorem put_bx (F : Fr) (d : Option Nat) (v : V) : (F.put d v).bx = F.bx := by cases d <;> rfl

/-- the step behind the guard -/
theorem stepO_go {call : CallF} {o : Ins} {F : Fr} {H : Hp} {x : Option (Ex × Fr × Hp)} (hw : wants F o.g = some true)
    (hx : (match o.op with
      | .pan x => match x.out F with | .iface t v => some (Ex.panic (.iface t v), F, H) | _ => none
      | .callF k xs => match argsV F xs with | some args => calls call o.dst (.fn k) args F H | none => none
      | .callV x xs => match argsV F xs, x.get F with
        | some args, .fn (.func k) first cap => calls call o.dst (.fn k) (first ++ args ++ cap) F H
        | some args, .yld id => calls call o.dst (.yld id) args F H
        | _, _ => none
      | op => match stepV op o.dst F H with
        | some (v, F', H') => some (.normal, F'.put o.dst v, H')
        | none => none) = x) : stepO call o F H = x := by
  unfold stepO; rw [hw]; exact hx

theorem stepO_V {call : CallF} {o : Ins} {F F' : Fr} {H H' : Hp} {v : V} (hw : wants F o.g = some true) (hs : stepV o.op o.dst F H = some (v, F', H')) : stepO call o F H = some (.normal, F'.put o.dst v, H') := by
  unfold stepO; rw [hw]
  cases ho : o.op <;> simp only [ho] at hs ⊢ <;> first | (rw [hs]; done) | (simp [stepV] at hs; done) | skip
theorem stepO_inv {call : CallF} {o : Ins} {F F' : Fr} {H H' : Hp} (h : stepO call o F H = some (.normal, F', H')) :
    (wants F o.g = some false ∧ F' = F.put o.dst (.tuple []) ∧ H' = H) ∨ (wants F o.g = some true ∧ ((∃ v F1, stepV o.op o.dst F H = some (v, F1, H') ∧ F' = F1.put o.dst v) ∨
      ∃ tg args v, ((∃ k xs, o.op = .callF k xs ∧ tg = .fn k ∧ argsV F xs = some args) ∨ (∃ x xs as k first cap, o.op = .callV x xs ∧ tg = .fn k ∧ argsV F xs = some as ∧ x.get F = .fn (.func k) first cap ∧ args = first ++ as ++ cap) ∨
        (∃ x xs id, o.op = .callV x xs ∧ tg = .yld id ∧ argsV F xs = some args ∧ x.get F = .yld id)) ∧ call tg args H = some (.ret v, H') ∧ F' = F.put o.dst v)) := by
  unfold stepO at h
  split at h
  · cases h
  · rename_i hw; cases h; exact .inl ⟨hw, rfl, rfl⟩
  · rename_i hw
    right
    refine ⟨hw, ?_⟩
    have hcalls : ∀ {tg args}, calls call o.dst tg args F H = some (.normal, F', H') → ∃ v, call tg args H = some (.ret v, H') ∧ F' = F.put o.dst v := by
      intro tg args hc
      unfold calls at hc
      split at hc
      · rename_i v H2 e; cases hc; exact ⟨v, e, rfl⟩
      · cases hc
      · cases hc
    split at h
    · split at h <;> cases h
    · rename_i k xs ho
      split at h
      · rename_i args ha
        obtain ⟨v, e1, e2⟩ := hcalls h
        exact .inr ⟨_, args, v, .inl ⟨k, xs, ho, rfl, ha⟩, e1, e2⟩
      · cases h
    · rename_i x xs ho
      split at h
      · rename_i args k first cap ha hg
        obtain ⟨v, e1, e2⟩ := hcalls h
        exact .inr ⟨_, _, v, .inr (.inl ⟨x, xs, args, k, first, cap, ho, rfl, ha, hg, rfl⟩), e1, e2⟩
      · rename_i args id ha hg
        obtain ⟨v, e1, e2⟩ := hcalls h
        exact .inr ⟨_, _, v, .inr (.inr ⟨x, xs, id, ho, rfl, ha, hg⟩), e1, e2⟩
      · cases h
    · split at h
      · rename_i v F1 H1 e; cases h; exact .inl ⟨v, F1, e, rfl⟩
      · cases h

theorem wants_agree {F1 F2 : Fr} {g : Option (Nat × Bool)} (h : ∀ t ∈ gSlot g, F2.tm t = F1.tm t) : wants F2 g = wants F1 g := by
  cases g with
  | none => rfl
  | some p => obtain ⟨j, b⟩ := p; simp only [wants, h j (by simp [gSlot])]

/-- an operation whose value is put, from what it leaves of the frame -/
theorem Loc.mk' {call : CallF} {o : Ins} {fp : Fp} {F1 F1a : Fr} {H1 H1' : Hp} {v : V} (hw : wants F1 o.g = some true) (hg : ∀ t ∈ gSlot o.g, t ∈ fp.rs) (hd : ∀ t ∈ oList o.dst, t ∈ fp.ws)
    (h1 : ∀ t, t ∉ fp.ws → F1a.tm t = F1.tm t) (h2 : ∀ t, t ∉ fp.bw → F1a.bx t = F1.bx t) (h3 : fp.h ≠ 2 → H1' = H1)
    (h4 : ∀ F2 H2, (∀ t ∈ fp.rs, F2.tm t = F1.tm t) → (∀ t ∈ fp.bs, F2.bx t = F1.bx t) → (fp.h ≠ 0 → H2 = H1) →
      ∃ (F2a : Fr) (H2' : Hp), stepO call o F2 H2 = some (.normal, F2a.put o.dst v, H2') ∧ (∀ t, t ∈ fp.ws → t ∉ oList o.dst → F2a.tm t = F1a.tm t) ∧ (∀ t, t ∉ fp.ws → F2a.tm t = F2.tm t) ∧ (∀ t, t ∈ fp.bw → F2a.bx t = F1a.bx t) ∧ (∀ t, t ∉ fp.bw → F2a.bx t = F2.bx t) ∧
        (fp.h = 2 → H2' = H1') ∧ (fp.h ≠ 2 → H2' = H2)) : Loc call o fp F1 H1 (F1a.put o.dst v) H1' where
  tm t ht := by rw [put_tm, if_neg (fun h => ht (hd t h)), h1 t ht]
  bx t ht := by rw [put_bx]; exact h2 t ht
  hp := h3
  again F2 H2 a1 a2 a3 := by
    obtain ⟨F2a, H2', k1, k2, k3, k4, k5, k6, k7⟩ := h4 F2 H2 a1 a2 a3
    refine ⟨_, _, k1, fun t ht => ?_, fun t ht => ?_, fun t ht => ?_, fun t ht => ?_, k6, k7⟩
    · rw [put_tm, put_tm]
      by_cases hdt : t ∈ oList o.dst
      · simp [hdt]
      · simp only [hdt, if_false]; exact k2 t ht hdt
    · rw [put_tm, if_neg (fun h => ht (hd t h))]; exact k3 t ht
    · rw [put_bx, put_bx]; exact k4 t ht
    · rw [put_bx]; exact k5 t ht

theorem stFr_bx (F : Fr) (v : Rd) (tk : Bool) : (stFr F v tk).bx = F.bx := by cases v <;> cases tk <;> rfl
theorem stFr_out {F : Fr} {v : Rd} {tk : Bool} {t : Nat} (h : t ∉ (if tk then slotOf v else [])) : (stFr F v tk).tm t = F.tm t := by
  cases v <;> cases tk <;> simp [slotOf] at h <;> first | rfl | exact upd_ne _ _ h
theorem stFr_in {F : Fr} {v : Rd} {tk : Bool} {t : Nat} (h : t ∈ (if tk then slotOf v else [])) : (stFr F v tk).tm t = .junk := by
  cases v <;> cases tk <;> simp [slotOf] at h
  subst h; simp [stFr, upd]
theorem stVal_congr {F1 F2 : Fr} {v : Rd} {tk : Bool} (h : v.get F2 = v.get F1) : stVal F2 v tk = stVal F1 v tk := by
  cases v <;> cases tk <;> first | rfl | (simp only [Rd.get] at h; simp only [stVal, h])
theorem bsOk_L {t : Nat} {p : V} (h : bsOk (.L t) p = true) : (∃ o, p = .lptr t o) ∨ ∃ cs, p = .cptr cs := by
  cases p <;> simp [bsOk] at h
  · subst h; exact .inl ⟨_, rfl⟩
  · exact .inr ⟨_, rfl⟩
theorem bsOk_C {p : V} (h : bsOk .C p = true) : ∃ cs, p = .cptr cs := by
  cases p <;> simp [bsOk] at h
  exact ⟨_, rfl⟩
theorem bsOk_G {p : V} (h : bsOk .G p = true) : (∃ id o, p = .gptr id o) ∨ (∃ sz id i o, p = .aptr sz id i o) ∨ ∃ cs, p = .cptr cs := by
  cases p <;> simp [bsOk] at h
  · exact .inl ⟨_, _, rfl⟩
  · exact .inr (.inl ⟨_, _, _, _, rfl⟩)
  · exact .inr (.inr ⟨_, rfl⟩)

theorem fp_common {o : Ins} {fp : Fp} (hf : fpOf o = some fp) : (∀ t ∈ gSlot o.g, t ∈ fp.rs) ∧ (∀ t ∈ slotsOf o.op.rds, t ∈ fp.rs) ∧ (∀ t ∈ oList o.dst, t ∈ fp.ws) ∧ (∀ t ∈ fp.ws, t ∈ fp.rs ∨ t ∈ oList o.dst) ∧ (∀ t ∈ fp.bw, t ∈ fp.bs) := by
  unfold fpOf at hf
  simp only at hf
  split at hf
  · cases hf; exact ⟨fun t h => by simp [h], fun t h => by simp [h], fun t h => h, fun t h => .inr h, by simp⟩
  · split at hf <;> cases hf
    all_goals rename_i ho
    all_goals refine ⟨fun t h => by simp [h], fun t h => by simp [h], fun t h => by simp [h], ?_, ?_⟩
    all_goals first
      | (intro t h; exact .inr h)
      | (intro t h; simp only [List.mem_cons] at h; rcases h with rfl | h; exact .inl (by simp [ho, IOp.rds, slotsOf, slotOf]); exact .inr h)
      | (intro t h; rw [List.mem_append] at h; rcases h with h | h
         · split at h
           · exact .inl (by simp [ho, IOp.rds, slotsOf, h])
           · cases h
         · exact .inr h)
      | (intro t h; split at h <;> simp_all)
      | (intro t h; simp_all)

theorem local_of {call : CallF} {o : Ins} {fp : Fp} {F1 F1' : Fr} {H1 H1' : Hp} (hf : fpOf o = some fp) (hs : stepO call o F1 H1 = some (.normal, F1', H1')) : Loc call o fp F1 H1 F1' H1' := by
  obtain ⟨c1, c2, c3, c4, c5⟩ := fp_common hf
  rcases stepO_inv hs with ⟨hw, rfl, rfl⟩ | ⟨hw, hk⟩
  · -- not wanted
    refine ⟨fun t ht => by rw [put_tm, if_neg (fun h => ht (c3 t h))], fun t _ => by rw [put_bx], fun _ => rfl, fun F2 H2 a1 a2 a3 => ?_⟩
    have hw2 : wants F2 o.g = some false := by rw [wants_agree (fun t ht => a1 t (c1 t ht))]; exact hw
    refine ⟨F2.put o.dst (.tuple []), H2, by unfold stepO; rw [hw2], fun t ht => ?_, fun t ht => by rw [put_tm, if_neg (fun h => ht (c3 t h))], fun t ht => by rw [put_bx, put_bx]; exact a2 t (c5 t ht), fun t _ => by rw [put_bx], fun h => a3 (by rw [h]; simp), fun _ => rfl⟩
    rw [put_tm, put_tm]
    by_cases hd : t ∈ oList o.dst
    · simp [hd]
    · simp only [hd, if_false]
      rcases c4 t ht with h | h
      · exact a1 t h
      · exact absurd h hd
  have hget : ∀ {F2 : Fr}, (∀ t ∈ fp.rs, F2.tm t = F1.tm t) → wants F2 o.g = some true ∧ ∀ x ∈ o.op.rds, x.get F2 = x.get F1 := fun a1 =>
    ⟨by rw [wants_agree (fun t ht => a1 t (c1 t ht))]; exact hw, get_agree (fun t ht => a1 t (c2 t ht))⟩
  rcases hk with ⟨v, F1a, hv, rfl⟩ | ⟨tg, args, v, hcall, hcv, rfl⟩
  · by_cases hp : o.op.pure = true
    · obtain ⟨e1, e2, _⟩ := pure_local (F2 := F1) (H2 := H1) hp (fun x hx => rfl) hv
      subst e1; subst e2
      have hfp : fp.ws = oList o.dst ∧ fp.bw = [] ∧ fp.h = 0 := by unfold fpOf at hf; simp only [hp, if_true, Option.some.injEq] at hf; subst hf; exact ⟨rfl, rfl, rfl⟩
      refine Loc.mk' hw c1 c3 (fun _ _ => rfl) (fun _ _ => rfl) (fun _ => rfl) (fun F2 H2 a1 a2 a3 => ?_)
      obtain ⟨hw2, hg2⟩ := hget a1
      obtain ⟨_, _, e3⟩ := pure_local (F2 := F2) (H2 := H2) hp hg2 hv
      exact ⟨F2, H2, stepO_V hw2 e3, fun t ht hd => absurd (hfp.1 ▸ ht) hd, fun _ _ => rfl, fun t ht => (by rw [hfp.2.1] at ht; cases ht), fun _ _ => rfl, fun h => (by rw [hfp.2.2] at h; cases h), fun _ => rfl⟩
    · unfold fpOf at hf
      simp only [hp, Bool.false_eq_true, if_false] at hf
      split at hf <;> cases hf <;> rename_i ho
      -- mv
      · rw [ho] at hv
        rename_i s
        simp only [stepV, Option.some.injEq, Prod.mk.injEq] at hv
        obtain ⟨rfl, rfl, rfl⟩ := hv
        refine Loc.mk' hw c1 c3 (fun t ht => ?_) (fun _ _ => rfl) (fun _ => rfl) (fun F2 H2 a1 a2 a3 => ?_)
        · simp only [List.mem_cons, not_or] at ht; exact upd_ne _ _ ht.1
        · obtain ⟨hw2, hg2⟩ := hget a1
          have e : F2.tm s = F1.tm s := hg2 (.t s) (by simp [ho, IOp.rds])
          refine ⟨{ F2 with tm := upd F2.tm s .junk }, H2, ?_, fun t ht hd => ?_, fun t ht => ?_, by simp, fun _ _ => rfl, by simp, fun _ => rfl⟩
          · rw [← e]; exact stepO_V hw2 (by rw [ho]; rfl)
          · simp only [List.mem_cons] at ht
            rcases ht with rfl | ht
            · simp [upd]
            · exact absurd ht hd
          · simp only [List.mem_cons, not_or] at ht; exact upd_ne _ _ ht.1
      -- ext
      · rw [ho] at hv
        rename_i s i
        simp only [stepV] at hv
        split at hv
        · rename_i vs hg
          simp only [Option.bind_eq_some_iff] at hv
          obtain ⟨c, hc, hv⟩ := hv
          have hv2 : (∀ ws, c ≠ .tuple ws) ∧ c = v ∧ F1a = { F1 with tm := upd F1.tm s (.tuple (vs.set i .junk)) } ∧ H1' = H1 := by
            split at hv
            · cases hv
            · rename_i hn; cases hv; exact ⟨hn, rfl, rfl, rfl⟩
          obtain ⟨hn, rfl, rfl, rfl⟩ := hv2
          refine Loc.mk' hw c1 c3 (fun t ht => ?_) (fun _ _ => rfl) (fun _ => rfl) (fun F2 H2 a1 a2 a3 => ?_)
          · simp only [List.mem_cons, not_or] at ht; exact upd_ne _ _ ht.1
          · obtain ⟨hw2, hg2⟩ := hget a1
            have e : F2.tm s = F1.tm s := hg2 (.t s) (by simp [ho, IOp.rds])
            refine ⟨{ F2 with tm := upd F2.tm s (.tuple (vs.set i .junk)) }, H2, stepO_V hw2 ?_, fun t ht hd => ?_, fun t ht => ?_, by simp, fun _ _ => rfl, by simp, fun _ => rfl⟩
            · rw [ho]; simp only [stepV, e, hg, hc, Option.bind_some]
              first | done | (cases c <;> first | rfl | exact absurd rfl (hn _))
            · simp only [List.mem_cons] at ht
              rcases ht with rfl | ht
              · simp [upd]
              · exact absurd ht hd
            · simp only [List.mem_cons, not_or] at ht; exact upd_ne _ _ ht.1
        · cases hv
      -- app
      · rw [ho] at hv
        rename_i sz s y
        simp only [stepV] at hv
        split at hv
        · rename_i s1 xs s2 ys oy hgx hgy
          split at hv
          · rename_i hc
            simp only [Bool.false_eq_true, if_false, Option.some.injEq, Prod.mk.injEq] at hv
            obtain ⟨rfl, rfl, rfl⟩ := hv
            refine Loc.mk' hw c1 c3 (fun t ht => ?_) (fun _ _ => rfl) (fun _ => rfl) (fun F2 H2 a1 a2 a3 => ?_)
            · simp only [List.mem_cons, not_or] at ht; exact upd_ne _ _ ht.1
            · obtain ⟨hw2, hg2⟩ := hget a1
              have e : F2.tm s = F1.tm s := hg2 (.t s) (by simp [ho, IOp.rds])
              have e2 : y.get F2 = y.get F1 := hg2 y (by simp [ho, IOp.rds])
              refine ⟨{ F2 with tm := upd F2.tm s .junk }, H2, stepO_V hw2 ?_, fun t ht hd => ?_, fun t ht => ?_, by simp, fun _ _ => rfl, by simp, fun _ => rfl⟩
              · rw [ho]; simp only [stepV, e, e2, hgx, hgy, hc, and_self, if_true, Bool.false_eq_true, if_false]
              · simp only [List.mem_cons] at ht
                rcases ht with rfl | ht
                · simp [upd]
                · exact absurd ht hd
              · simp only [List.mem_cons, not_or] at ht; exact upd_ne _ _ ht.1
          · cases hv
        · split at hv
          · split at hv
            · rename_i hc; simp at hc
            · cases hv
          · cases hv
        · cases hv
      -- load L
      · rw [ho] at hv
        rename_i ag x tk t0
        have hx : ∀ {F2 : Fr}, (∀ t ∈ gSlot o.g ++ slotsOf o.op.rds, F2.tm t = F1.tm t) → wants F2 o.g = some true ∧ x.get F2 = x.get F1 := fun a1 =>
          ⟨(hget a1).1, (hget a1).2 x (by simp [ho, IOp.rds])⟩
        simp only [stepV] at hv
        split at hv
        case isFalse => cases hv
        rename_i hbs
        rcases bsOk_L hbs with ⟨o0, hp⟩ | ⟨cs, hp⟩
        · simp only [hp, Option.bind_eq_some_iff] at hv
          obtain ⟨cs, hb, hv⟩ := hv
          by_cases hag : ag = none ∧ tk = true
          · obtain ⟨rfl, rfl⟩ := hag
            simp only [Option.map_eq_some_iff, Prod.mk.injEq] at hv
            obtain ⟨c, hc, rfl, rfl, rfl⟩ := hv
            refine Loc.mk' hw c1 c3 (fun t ht => rfl) (fun t ht => ?_) (fun _ => rfl) (fun F2 H2 a1 a2 a3 => ?_)
            · simp only [if_true, List.mem_singleton] at ht; simp [Fr.box, upd, ht]
            · obtain ⟨hw2, e⟩ := hx a1
              have e2 : F2.bx t0 = F1.bx t0 := a2 t0 (by simp)
              refine ⟨F2.box t0 (some (cs.set o0 c.clr)), H2, stepO_V hw2 ?_, fun t ht hd => absurd ht hd, fun _ _ => rfl, fun t ht => ?_, fun t ht => ?_, by simp, fun _ => rfl⟩
              · rw [ho]; rw [← e] at hp; simp [stepV, hp, bsOk, e2, hb, hc]
              · simp only [if_true, List.mem_singleton] at ht; subst ht; simp [Fr.box, upd]
              · simp only [if_true, List.mem_singleton] at ht; simp [Fr.box, upd, ht]
          · have hv2 : (part cs o0 ag).map (fun v => (v, F1, H1)) = some (v, F1a, H1') := by
              cases ag <;> cases tk <;> first | exact hv | simp at hag
            simp only [Option.map_eq_some_iff, Prod.mk.injEq] at hv2
            obtain ⟨c, hc, rfl, rfl, rfl⟩ := hv2
            refine Loc.mk' hw c1 c3 (fun t ht => rfl) (fun t ht => rfl) (fun _ => rfl) (fun F2 H2 a1 a2 a3 => ?_)
            obtain ⟨hw2, e⟩ := hx a1
            have e2 : F2.bx t0 = F1.bx t0 := a2 t0 (by simp)
            refine ⟨F2, H2, stepO_V hw2 ?_, fun t ht hd => absurd ht hd, fun _ _ => rfl, fun t ht => ?_, fun t ht => rfl, by simp, fun _ => rfl⟩
            · rw [ho]; rw [← e] at hp
              cases ag <;> cases tk <;> first | (simp [stepV, hp, bsOk, e2, hb, hc]; done) | simp at hag
            · split at ht
              · simp only [List.mem_singleton] at ht; subst ht; exact e2
              · cases ht
        · simp only [hp, Option.map_eq_some_iff, Prod.mk.injEq] at hv
          obtain ⟨c, hc, rfl, rfl, rfl⟩ := hv
          refine Loc.mk' hw c1 c3 (fun t ht => rfl) (fun t ht => rfl) (fun _ => rfl) (fun F2 H2 a1 a2 a3 => ?_)
          obtain ⟨hw2, e⟩ := hx a1
          refine ⟨F2, H2, stepO_V hw2 ?_, fun t ht hd => absurd ht hd, fun _ _ => rfl, fun t ht => ?_, fun t ht => rfl, by simp, fun _ => rfl⟩
          · rw [ho]; rw [← e] at hp; simp [stepV, hp, bsOk, hc]
          · split at ht
            · simp only [List.mem_singleton] at ht; subst ht; exact a2 _ (by simp)
            · cases ht
      -- load C
      · rw [ho] at hv
        rename_i ag x tk
        simp only [stepV] at hv
        split at hv
        case isFalse => cases hv
        rename_i hbs
        obtain ⟨cs, hp⟩ := bsOk_C hbs
        simp only [hp, Option.map_eq_some_iff, Prod.mk.injEq] at hv
        obtain ⟨c, hc, rfl, rfl, rfl⟩ := hv
        refine Loc.mk' hw c1 c3 (fun t ht => rfl) (fun t ht => rfl) (fun _ => rfl) (fun F2 H2 a1 a2 a3 => ?_)
        obtain ⟨hw2, hg2⟩ := hget a1
        have e := hg2 x (by simp [ho, IOp.rds])
        refine ⟨F2, H2, stepO_V hw2 ?_, fun t ht hd => absurd ht hd, fun _ _ => rfl, by simp, fun t ht => rfl, by simp, fun _ => rfl⟩
        rw [ho]; rw [← e] at hp; simp [stepV, hp, bsOk, hc]
      -- load G
      · rw [ho] at hv
        rename_i ag x tk
        simp only [stepV] at hv
        split at hv
        case isFalse => cases hv
        rename_i hbs
        rcases bsOk_G hbs with ⟨id, o0, hp⟩ | ⟨sz, id, i, o0, hp⟩ | ⟨cs, hp⟩
        · simp only [hp] at hv
          split at hv
          · rename_i cs hob
            simp only [Option.map_eq_some_iff, Prod.mk.injEq] at hv
            obtain ⟨c, hc, rfl, rfl, rfl⟩ := hv
            refine Loc.mk' hw c1 c3 (fun t ht => rfl) (fun t ht => rfl) (fun _ => rfl) (fun F2 H2 a1 a2 a3 => ?_)
            obtain ⟨hw2, hg2⟩ := hget a1
            have e := hg2 x (by simp [ho, IOp.rds])
            have e3 : H2 = H1 := a3 (by simp)
            subst e3
            refine ⟨F2, _, stepO_V hw2 ?_, fun t ht hd => absurd ht hd, fun _ _ => rfl, by simp, fun t ht => rfl, by simp, fun _ => rfl⟩
            rw [ho]; rw [← e] at hp; simp [stepV, hp, bsOk, hob, hc]
          · cases hv
        · simp only [hp] at hv
          split at hv
          · rename_i sz' xs hob
            split at hv
            · rename_i hsz
              simp only [Option.bind_eq_some_iff, Option.map_eq_some_iff, Prod.mk.injEq] at hv
              obtain ⟨y, hy, c, hc, rfl, rfl, rfl⟩ := hv
              refine Loc.mk' hw c1 c3 (fun t ht => rfl) (fun t ht => rfl) (fun _ => rfl) (fun F2 H2 a1 a2 a3 => ?_)
              obtain ⟨hw2, hg2⟩ := hget a1
              have e := hg2 x (by simp [ho, IOp.rds])
              have e3 : H2 = H1 := a3 (by simp)
              subst e3
              refine ⟨F2, _, stepO_V hw2 ?_, fun t ht hd => absurd ht hd, fun _ _ => rfl, by simp, fun t ht => rfl, by simp, fun _ => rfl⟩
              rw [ho]; rw [← e] at hp; simp [stepV, hp, bsOk, hob, hsz, hy, hc]
            · cases hv
          · cases hv
        · simp only [hp, Option.map_eq_some_iff, Prod.mk.injEq] at hv
          obtain ⟨c, hc, rfl, rfl, rfl⟩ := hv
          refine Loc.mk' hw c1 c3 (fun t ht => rfl) (fun t ht => rfl) (fun _ => rfl) (fun F2 H2 a1 a2 a3 => ?_)
          obtain ⟨hw2, hg2⟩ := hget a1
          have e := hg2 x (by simp [ho, IOp.rds])
          refine ⟨F2, H2, stepO_V hw2 ?_, fun t ht hd => absurd ht hd, fun _ _ => rfl, by simp, fun t ht => rfl, by simp, fun _ => rfl⟩
          rw [ho]; rw [← e] at hp; simp [stepV, hp, bsOk, hc]
      -- store L
      · rw [ho] at hv
        rename_i n x y tk t0
        simp only [stepV] at hv
        split at hv
        case isFalse => cases hv
        rename_i hbs
        have hbs' := hbs
        simp only [Bool.and_eq_true] at hbs
        rcases bsOk_L hbs.1 with ⟨o0, hp⟩ | ⟨cs, hp⟩
        case inr => simp only [hp] at hv; cases hv
        simp only [hp, Option.bind_eq_some_iff, Option.map_eq_some_iff, Prod.mk.injEq] at hv
        obtain ⟨cs, hb, cs', hsp, rfl, rfl, rfl⟩ := hv
        refine Loc.mk' hw c1 c3 (fun t ht => ?_) (fun t ht => ?_) (fun _ => rfl) (fun F2 H2 a1 a2 a3 => ?_)
        · simp only [List.mem_append, not_or] at ht
          exact stFr_out ht.1
        · simp only [List.mem_singleton] at ht
          simp [Fr.box, upd, ht, stFr_bx]
        · obtain ⟨hw2, hg2⟩ := hget a1
          have e := hg2 x (by simp [ho, IOp.rds])
          have ey := stVal_congr (tk := tk) (hg2 y (by simp [ho, IOp.rds]))
          have e2 : F2.bx t0 = F1.bx t0 := a2 t0 (by simp)
          refine ⟨(stFr F2 y tk).box t0 (some cs'), H2, stepO_V hw2 ?_, fun t ht hd => ?_, fun t ht => ?_, fun t ht => ?_, fun t ht => ?_, by simp, fun _ => rfl⟩
          · rw [ho]
            simp only [stepV, e, ey]
            rw [if_pos hbs']
            simp only [hp, e2, hb, Option.bind_some, hsp, Option.map_some]
          · simp only [List.mem_append] at ht
            rcases ht with ht | ht
            · exact (stFr_in ht).trans (stFr_in ht).symm
            · exact absurd ht hd
          · simp only [List.mem_append, not_or] at ht
            exact stFr_out ht.1
          · simp only [List.mem_singleton] at ht; subst ht
            simp [Fr.box, upd]
          · simp only [List.mem_singleton] at ht
            simp [Fr.box, upd, ht, stFr_bx]
      -- store G
      · rw [ho] at hv
        rename_i n x y tk
        have hdone : ∀ {F2 : Fr} {H2 : Hp}, (∀ t ∈ gSlot o.g ++ slotsOf o.op.rds, F2.tm t = F1.tm t) → H2 = H1 → stepO call o F2 H2 = some (.normal, (stFr F2 y tk).put o.dst v, H1') ∧ F1a = stFr F1 y tk := by
          intro F2 H2 a1 eH
          subst eH
          obtain ⟨hw2, hg2⟩ := hget a1
          have e := hg2 x (by simp [ho, IOp.rds])
          have ey := stVal_congr (tk := tk) (hg2 y (by simp [ho, IOp.rds]))
          simp only [stepV] at hv
          split at hv
          case isFalse => cases hv
          rename_i hbs
          have hbs' := hbs
          simp only [Bool.and_eq_true] at hbs
          rcases bsOk_G hbs.1 with ⟨id, o0, hp⟩ | ⟨sz, id, i, o0, hp⟩ | ⟨cs, hp⟩
          · simp only [hp] at hv
            split at hv
            · rename_i cs hob
              simp only [Option.map_eq_some_iff, Prod.mk.injEq] at hv
              obtain ⟨cs', hsp, rfl, rfl, rfl⟩ := hv
              refine ⟨stepO_V hw2 ?_, rfl⟩
              rw [ho]
              simp only [stepV, e, ey]
              rw [if_pos hbs']
              simp only [hp, hob, hsp, Option.map_some]
            · cases hv
          · simp only [hp] at hv
            split at hv
            · rename_i sz' xs hob
              split at hv
              · rename_i hsz
                simp only [Option.bind_eq_some_iff, Option.map_eq_some_iff, Prod.mk.injEq] at hv
                obtain ⟨z, hz, cs', hsp, rfl, rfl, rfl⟩ := hv
                refine ⟨stepO_V hw2 ?_, rfl⟩
                rw [ho]
                simp only [stepV, e, ey]
                rw [if_pos hbs']
                simp only [hp, hob, hsz, if_true, hz, Option.bind_some, hsp, Option.map_some]
              · cases hv
            · cases hv
          · simp only [hp] at hv; cases hv
        obtain ⟨_, hF1⟩ := hdone (F2 := F1) (H2 := H1) (fun _ _ => rfl) rfl
        clear hs
        subst hF1
        refine Loc.mk' hw c1 c3 (fun t ht => ?_) (fun t ht => ?_) (fun h => absurd rfl h) (fun F2 H2 a1 a2 a3 => ?_)
        · simp only [List.mem_append, not_or] at ht; exact stFr_out ht.1
        · rw [stFr_bx]
        · obtain ⟨k1, _⟩ := hdone a1 (a3 (by simp))
          refine ⟨_, H1', k1, fun t ht hd => ?_, fun t ht => ?_, by simp, fun t ht => by rw [stFr_bx], fun _ => rfl, fun h => absurd rfl h⟩
          · simp only [List.mem_append] at ht
            rcases ht with ht | ht
            · exact (stFr_in ht).trans (stFr_in ht).symm
            · exact absurd ht hd
          · simp only [List.mem_append, not_or] at ht; exact stFr_out ht.1
      -- boxL
      · rw [ho] at hv
        rename_i x
        simp only [stepV] at hv
        split at hv
        case h_2 => cases hv
        rename_i t0 hdst
        split at hv
        case h_2 => cases hv
        rename_i hb
        split at hv
        case isFalse => cases hv
        rename_i hf
        simp only [Option.some.injEq, Prod.mk.injEq] at hv
        obtain ⟨rfl, rfl, rfl⟩ := hv
        refine Loc.mk' hw c1 c3 (fun t ht => rfl) (fun t ht => ?_) (fun _ => rfl) (fun F2 H2 a1 a2 a3 => ?_)
        · rw [hdst] at ht; simp only [oList, List.mem_singleton] at ht; simp [Fr.box, upd, ht]
        · obtain ⟨hw2, hg2⟩ := hget a1
          have e := hg2 x (by simp [ho, IOp.rds])
          have e2 : F2.bx t0 = F1.bx t0 := a2 t0 (by rw [hdst]; simp [oList])
          refine ⟨F2.box t0 (some ((x.val F1).cells.map V.clr)), H2, stepO_V hw2 ?_, fun t ht hd => absurd ht hd, fun t ht => rfl, fun t ht => ?_, fun t ht => ?_, by simp, fun _ => rfl⟩
          · rw [ho, hdst]
            simp only [stepV, e2, hb, Rd.val, e]
            simp only [Rd.val] at hf
            rw [if_pos hf]
          · rw [hdst] at ht; simp only [oList, List.mem_singleton] at ht; subst ht; simp [Fr.box, upd]
          · rw [hdst] at ht; simp only [oList, List.mem_singleton] at ht; simp [Fr.box, upd, ht]
      -- allocL
      · rw [ho] at hv
        rename_i zs
        simp only [stepV] at hv
        split at hv
        case h_2 => cases hv
        rename_i t0 hdst
        split at hv
        case h_2 => cases hv
        rename_i hb
        simp only [Option.some.injEq, Prod.mk.injEq] at hv
        obtain ⟨rfl, rfl, rfl⟩ := hv
        refine Loc.mk' hw c1 c3 (fun t ht => rfl) (fun t ht => ?_) (fun _ => rfl) (fun F2 H2 a1 a2 a3 => ?_)
        · rw [hdst] at ht; simp only [oList, List.mem_singleton] at ht; simp [Fr.box, upd, ht]
        · obtain ⟨hw2, hg2⟩ := hget a1
          have e2 : F2.bx t0 = F1.bx t0 := a2 t0 (by rw [hdst]; simp [oList])
          refine ⟨F2.box t0 (some zs), H2, stepO_V hw2 ?_, fun t ht hd => absurd ht hd, fun t ht => rfl, fun t ht => ?_, fun t ht => ?_, by simp, fun _ => rfl⟩
          · rw [ho, hdst]
            simp only [stepV, e2, hb]
          · rw [hdst] at ht; simp only [oList, List.mem_singleton] at ht; subst ht; simp [Fr.box, upd]
          · rw [hdst] at ht; simp only [oList, List.mem_singleton] at ht; simp [Fr.box, upd, ht]
      -- boxG
      · rw [ho] at hv
        rename_i x
        simp only [stepV] at hv
        split at hv
        case isFalse => cases hv
        rename_i hf
        simp only [Option.some.injEq, Prod.mk.injEq] at hv
        obtain ⟨rfl, rfl, rfl⟩ := hv
        refine Loc.mk' hw c1 c3 (fun t ht => rfl) (fun t ht => rfl) (fun h => absurd rfl h) (fun F2 H2 a1 a2 a3 => ?_)
        obtain ⟨hw2, hg2⟩ := hget a1
        have e := hg2 x (by simp [ho, IOp.rds])
        have eH : H2 = H1 := a3 (by simp)
        subst eH
        refine ⟨F2, _, stepO_V hw2 ?_, fun t ht hd => absurd ht hd, fun t ht => rfl, by simp, fun t ht => rfl, fun _ => rfl, fun h => absurd rfl h⟩
        rw [ho]
        simp only [Rd.val] at hf
        simp only [stepV, Rd.val, e]
        rw [if_pos hf]
      -- allocG
      · rw [ho] at hv
        rename_i zs
        simp only [stepV, Option.some.injEq, Prod.mk.injEq] at hv
        obtain ⟨rfl, rfl, rfl⟩ := hv
        refine Loc.mk' hw c1 c3 (fun t ht => rfl) (fun t ht => rfl) (fun h => absurd rfl h) (fun F2 H2 a1 a2 a3 => ?_)
        obtain ⟨hw2, hg2⟩ := hget a1
        have eH : H2 = H1 := a3 (by simp)
        subst eH
        exact ⟨F2, _, stepO_V hw2 (by rw [ho]; rfl), fun t ht hd => absurd ht hd, fun t ht => rfl, by simp, fun t ht => rfl, fun _ => rfl, fun h => absurd rfl h⟩
      -- calls are no such operations
      · rw [ho] at hv; simp [stepV] at hv
      · rw [ho] at hv; simp [stepV] at hv
      -- mkf
      · rw [ho] at hv
        rename_i fn fs
        simp only [stepV, capsV, Option.bind_eq_some_iff, Option.map_some, Option.some.injEq, Prod.mk.injEq] at hv
        obtain ⟨as, ha, rfl, rfl, rfl⟩ := hv
        refine Loc.mk' hw c1 c3 (fun t ht => rfl) (fun t ht => rfl) (fun _ => rfl) (fun F2 H2 a1 a2 a3 => ?_)
        obtain ⟨hw2, hg2⟩ := hget a1
        have e := argsV_congr (F1 := F1) (F2 := F2) fs (fun q hq => hg2 q (by simp [ho, IOp.rds, hq]))
        refine ⟨F2, H2, stepO_V hw2 ?_, fun t ht hd => absurd ht hd, fun t ht => rfl, by simp, fun t ht => rfl, by simp, fun _ => rfl⟩
        rw [ho]
        simp only [stepV, capsV, e, ha, Option.bind_some, Option.map_some]
  · -- calls
    have hfp : fp.ws = oList o.dst ∧ fp.bw = [] ∧ fp.h = 2 := by
      rcases hcall with ⟨k, xs, ho, _⟩ | ⟨x, xs, as, k, first, cap, ho, _⟩ | ⟨x, xs, id, ho, _⟩ <;>
      · unfold fpOf at hf
        simp only [ho, IOp.pure, Bool.false_eq_true, if_false, Option.some.injEq] at hf
        subst hf; exact ⟨rfl, rfl, rfl⟩
    refine Loc.mk' hw c1 c3 (fun t ht => rfl) (fun t ht => rfl) (fun h => absurd hfp.2.2 h) (fun F2 H2 a1 a2 a3 => ?_)
    obtain ⟨hw2, hg2⟩ := hget a1
    have eH : H2 = H1 := a3 (by rw [hfp.2.2]; simp)
    subst eH
    refine ⟨F2, H1', ?_, fun t ht hd => absurd (hfp.1 ▸ ht) hd, fun t ht => rfl, fun t ht => (by rw [hfp.2.1] at ht; cases ht), fun t ht => rfl, fun _ => rfl, fun h => absurd hfp.2.2 h⟩
    refine stepO_go hw2 ?_
    rcases hcall with ⟨k, xs, ho, rfl, ha⟩ | ⟨x, xs, as, k, first, cap, ho, rfl, ha, hg, rfl⟩ | ⟨x, xs, id, ho, rfl, ha, hg⟩
    · have e := argsV_congr (F1 := F1) (F2 := F2) xs (fun q hq => hg2 q (by simp [ho, IOp.rds, hq]))
      simp only [ho, e, ha, calls, hcv]
    · have e := argsV_congr (F1 := F1) (F2 := F2) xs (fun q hq => hg2 q (by simp [ho, IOp.rds, hq]))
      have e2 := hg2 x (by simp [ho, IOp.rds])
      simp only [ho, e, ha, e2, hg, calls, hcv]
    · have e := argsV_congr (F1 := F1) (F2 := F2) xs (fun q hq => hg2 q (by simp [ho, IOp.rds, hq]))
      have e2 := hg2 x (by simp [ho, IOp.rds])
      simp only [ho, e, ha, e2, hg, calls, hcv]
end Go.Iv
