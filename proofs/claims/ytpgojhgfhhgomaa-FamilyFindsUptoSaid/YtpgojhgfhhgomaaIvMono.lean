/- More fuel, the same answer. No conditions. -/
import Derived.Test.YtpgojhgfhhgomaaIv
namespace Go.Iv
set_option linter.unusedVariables false
set_option linter.unusedSimpArgs false

def CLe (c c' : CallF) : Prop := ∀ tg args H r, c tg args H = some r → c' tg args H = some r
variable {c c' : CallF}
theorem calls_mono (h : CLe c c') {d : Option Nat} {tg : Tg} {args : List V} {F : Fr} {H : Hp} {x : Ex × Fr × Hp} (hs : calls c d tg args F H = some x) : calls c' d tg args F H = some x := by
  unfold calls at hs ⊢
  cases hc : c tg args H with
  | none => rw [hc] at hs; cases hs
  | some r => rw [hc] at hs; rw [h _ _ _ _ hc]; exact hs
theorem stepO_mono (h : CLe c c') {o : Ins} {F : Fr} {H : Hp} {x : Ex × Fr × Hp} (hs : stepO c o F H = some x) : stepO c' o F H = some x := by
  unfold stepO at hs ⊢
  split at hs
  · cases hs
  · exact hs
  · split at hs
    · exact hs
    · split at hs
      · exact calls_mono h hs
      · cases hs
    · split at hs
      · exact calls_mono h hs
      · exact calls_mono h hs
      · cases hs
    · exact hs
theorem execOps_mono (h : CLe c c') : ∀ {ios : List Ins} {F : Fr} {H : Hp} {x : Ex × Fr × Hp}, execOps c ios F H = some x → execOps c' ios F H = some x
  | [], F, H, x, hs => hs
  | o :: r, F, H, x, hs => by
    simp only [execOps] at hs ⊢
    split at hs
    · rename_i F1 H1 e1
      rw [stepO_mono h e1]
      exact execOps_mono h hs
    · rename_i hne
      have := stepO_mono h hs
      rw [this]
      split
      · rename_i e; cases e; exact absurd hs (hne _ _)
      · rfl
theorem loopN_mono {b b' : Fr → Hp → Option (Ex × Fr × Hp)} (hb : ∀ F H x, b F H = some x → b' F H = some x) : ∀ {n n' : Nat} {F : Fr} {H : Hp} {x : Ex × Fr × Hp}, n ≤ n' → loopN b n F H = some x → loopN b' n' F H = some x
  | 0, n', F, H, x, hn, hs => by simp [loopN] at hs
  | n + 1, 0, F, H, x, hn, hs => by omega
  | n + 1, n' + 1, F, H, x, hn, hs => by
    simp only [loopN] at hs ⊢
    split at hs
    · rename_i F1 H1 e1
      rw [hb _ _ _ e1]
      exact loopN_mono hb (by omega) hs
    · rename_i hne
      rw [hb _ _ _ hs]
      split
      · rename_i e; cases e; exact absurd hs (hne _ _)
      · rfl
theorem exec_mono (h : CLe c c') {n n' : Nat} (hn : n ≤ n') : ∀ {ic : IC} {F : Fr} {H : Hp} {x : Ex × Fr × Hp}, exec c n ic F H = some x → exec c' n' ic F H = some x
  | .skip, F, H, x, hs => hs
  | .exit id, F, H, x, hs => hs
  | .ret, F, H, x, hs => hs
  | .scope a, F, H, x, hs => by simp only [exec] at hs ⊢; exact exec_mono h hn hs
  | .reg ops keep dr, F, H, x, hs => by
    simp only [exec] at hs ⊢
    cases he : execOps c ops F H with
    | none => rw [he] at hs; cases hs
    | some r => rw [he] at hs; rw [execOps_mono h he]; exact hs
  | .seq a b, F, H, x, hs => by
    simp only [exec] at hs ⊢
    split at hs
    · rename_i F1 H1 e1
      rw [exec_mono h hn e1]
      exact exec_mono h hn hs
    · rename_i hne
      rw [exec_mono h hn hs]
      split
      · rename_i e; cases e; exact absurd hs (hne _ _)
      · rfl
  | .cond k a b, F, H, x, hs => by
    simp only [exec] at hs ⊢
    split at hs
    · exact exec_mono h hn hs
    · exact exec_mono h hn hs
    · cases hs
  | .block id a, F, H, x, hs => by
    simp only [exec] at hs ⊢
    cases he : exec c n a F H with
    | none => rw [he] at hs; cases hs
    | some r => rw [he] at hs; rw [exec_mono h hn he]; exact hs
  | .loop a, F, H, x, hs => by
    simp only [exec] at hs ⊢
    exact loopN_mono (fun F H x hx => exec_mono h hn hx) hn hs
  | .rf f ps ks a b, F, H, x, hs => by
    simp only [exec] at hs ⊢
    split at hs
    · rename_i k first cap e
      split at hs
      · rename_i v H2 e2
        rw [h _ _ _ _ e2]
        exact hs
      · cases hs
    · cases hs
theorem run_mono1 {T : Nat → Option IFn} : ∀ (n : Nat), CLe (run T n) (run T (n + 1))
  | 0 => fun tg args H r hs => by simp [run] at hs
  | n + 1 => by
    have ih := run_mono1 (T := T) n
    intro tg args H r hs
    have hex : ∀ {ic : IC} {F : Fr} {H : Hp} {x : Ex × Fr × Hp}, exec (run T n) n ic F H = some x → exec (run T (n + 1)) (n + 1) ic F H = some x := fun hx => exec_mono ih (by omega) hx
    have hfn : ∀ {fi : IFn} {args : List V} {H : Hp} {r : RV × Hp}, runFn (exec (run T n) n) fi args H = some r → runFn (exec (run T (n + 1)) (n + 1)) fi args H = some r := by
      intro fi args H r hr
      unfold runFn at hr ⊢
      split at hr
      · rename_i hl
        rw [if_pos hl]
        cases he : exec (run T n) n fi.code { tm := fun t => ((args[t]?).getD .junk).clr, bx := fun _ => none } H with
        | none => rw [he] at hr; cases hr
        | some q => rw [he] at hr; rw [hex he]; exact hr
      · cases hr
    cases tg with
    | fn k =>
      rw [run] at hs ⊢
      split at hs
      · rename_i fi hfi
        split at hs
        · rename_i hp
          rw [if_pos hp]
          split at hs
          · rename_i hna
            rw [if_pos hna]
            cases hq : runFn (exec (run T n) n) fi args .empty with
            | none => rw [hq] at hs; cases hs
            | some q => rw [hq] at hs; rw [hfn hq]; exact hs
          · cases hs
        · rename_i hp
          rw [if_neg hp]
          exact hfn hs
      · cases hs
    | yld id =>
      rw [run] at hs ⊢
      split at hs
      · rename_i L hL
        split at hs
        · rename_i hc
          rw [if_pos hc]
          split at hs
          · rename_i F1 H1 e1
            rw [hex e1]
            simp only
            split at hs
            · rename_i L1 hL1
              try (rw [hL1]; simp only)
              split at hs
              · rename_i hc1
                rw [if_pos hc1]
                split at hs
                · rename_i e F2 H2 e2
                  rw [hex e2]
                  exact hs
                · cases hs
              · cases hs
            · cases hs
          · cases hs
        · cases hs
      · cases hs
theorem run_mono {T : Nat → Option IFn} {n m : Nat} (h : n ≤ m) : CLe (run T n) (run T m) := by
  induction h with
  | refl => exact fun _ _ _ _ h => h
  | step _ ih => exact fun tg args H r hs => run_mono1 _ tg args H r (ih tg args H r hs)
end Go.Iv
