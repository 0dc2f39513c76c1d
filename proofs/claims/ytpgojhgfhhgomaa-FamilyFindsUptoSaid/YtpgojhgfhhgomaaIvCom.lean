/- Operations that may go in either order do. No conditions. -/
import Derived.Test.YtpgojhgfhhgomaaIvStep
namespace Go.Iv
set_option linter.unusedVariables false
set_option linter.unusedSimpArgs false

def oList {α : Type} : Option α → List α
  | some x => [x]
  | none => []
/-- the operands -/
def IOp.rds : IOp → List Rd
  | .mv x _ => [x]
  | .pick c x y => [c, x, y]
  | .boxL x | .boxG x => [x]
  | .allocL _ | .allocG _ => []
  | .build _ ps => ps.map fun p => p.2.2
  | .blist _ xs => xs
  | .load _ x _ _ => [x]
  | .store _ x v _ _ => [x, v]
  | .bin _ _ x y => [x, y]
  | .un _ x => [x]
  | .conv _ x => [x]
  | .ifc _ x => [x]
  | .mkf _ fs cs => fs ++ cs
  | .fa _ x => [x]
  | .fld _ _ x => [x]
  | .ia _ x i => [x, i]
  | .ixs x i => [x, i]
  | .slc _ x lo hi => x :: (oList lo ++ oList hi)
  | .idS x => [x]
  | .ext x _ => [x]
  | .len _ x => [x]
  | .app _ _ x y => [x, y]
  | .mks _ _ n => [n]
  | .minmax _ xs => xs
  | .pan x => [x]
  | .callF _ xs => xs
  | .callV x xs => x :: xs
def slotOf : Rd → List Nat
  | .t n => [n]
  | .c _ => []
/-- what computes from its operands alone -/
def IOp.pure : IOp → Bool
  | .mv x tk => !tk || (slotOf x).isEmpty
  | .pick _ _ _ | .build _ _ | .blist _ _ | .bin _ _ _ _ | .un _ _ | .conv _ _ | .ifc _ _ | .fa _ _ | .fld _ _ _ | .ia _ _ _ | .ixs _ _ | .slc _ _ _ _ | .idS _ | .len _ _ | .minmax _ _ => true
  | _ => false

theorem buildV_congr {F1 F2 : Fr} : ∀ (qs : List (Nat × Nat × Rd)) (zs : List V), (∀ q ∈ qs, q.2.2.get F2 = q.2.2.get F1) → buildV F2 zs qs = buildV F1 zs qs
  | [], zs, _ => rfl
  | (o, n, x) :: r, zs, h => by
    have hx : x.get F2 = x.get F1 := h (o, n, x) (by simp)
    have ih := fun zs => buildV_congr (F1 := F1) (F2 := F2) r zs (fun q hq => h q (by simp [hq]))
    simp only [buildV, Rd.val, hx, ih]; rfl
theorem valsV_congr {F1 F2 : Fr} {sz : Nat} : ∀ (qs : List Rd), (∀ q ∈ qs, q.get F2 = q.get F1) → valsV F2 sz qs = valsV F1 sz qs
  | [], _ => rfl
  | x :: r, h => by
    have hx : x.get F2 = x.get F1 := h x (by simp)
    have ih := valsV_congr (F1 := F1) (F2 := F2) (sz := sz) r (fun q hq => h q (by simp [hq]))
    simp only [valsV, Rd.out, Rd.val, hx, ih]; rfl
theorem argsV_congr {F1 F2 : Fr} : ∀ (qs : List Rd), (∀ q ∈ qs, q.get F2 = q.get F1) → argsV F2 qs = argsV F1 qs
  | [], _ => rfl
  | x :: r, h => by
    have hx : x.get F2 = x.get F1 := h x (by simp)
    have ih := argsV_congr (F1 := F1) (F2 := F2) r (fun q hq => h q (by simp [hq]))
    simp only [argsV, Rd.out, Rd.val, hx, ih]; rfl
theorem oidx_congr {F1 F2 : Fr} {d : Nat} {x : Option Rd} (h : ∀ y ∈ oList x, y.get F2 = y.get F1) : oidx F2 d x = oidx F1 d x := by
  cases x with
  | none => rfl
  | some y => simp only [oidx, h y (by simp [oList])]

theorem pure_local {op : IOp} {d : Option Nat} {F1 F2 : Fr} {H1 H2 : Hp} (hp : op.pure = true) (ha : ∀ x ∈ op.rds, x.get F2 = x.get F1) {v : V} {F' : Fr} {H' : Hp} (hs : stepV op d F1 H1 = some (v, F', H')) :
    F' = F1 ∧ H' = H1 ∧ stepV op d F2 H2 = some (v, F2, H2) := by
  cases op with
  | mv x tk =>
    have hx := ha x (by simp [IOp.rds])
    cases x with
    | t s => cases tk with
      | true => simp [IOp.pure, slotOf] at hp
      | false =>
        simp only [stepV, Option.some.injEq, Prod.mk.injEq] at hs
        simp only [Rd.get] at hx
        obtain ⟨rfl, rfl, rfl⟩ := hs
        exact ⟨rfl, rfl, by simp [stepV, hx]⟩
    | c c =>
      simp only [stepV, Option.some.injEq, Prod.mk.injEq] at hs
      obtain ⟨rfl, rfl, rfl⟩ := hs
      exact ⟨rfl, rfl, by simp [stepV]⟩
  | pick c x y =>
    have h1 := ha c (by simp [IOp.rds]); have h2 := ha x (by simp [IOp.rds]); have h3 := ha y (by simp [IOp.rds])
    simp only [stepV] at hs
    split at hs
    · rename_i t e
      cases hs
      refine ⟨rfl, rfl, ?_⟩
      simp only [stepV, h1, e]
      cases t <;> simp [Rd.val, h2, h3]
    · cases hs
  | build zs qs =>
    have hb := buildV_congr (F1 := F1) (F2 := F2) qs zs (fun q hq => ha _ (by simp only [IOp.rds, List.mem_map]; exact ⟨q, hq, rfl⟩))
    simp only [stepV, Option.map_eq_some_iff, Prod.mk.injEq] at hs
    obtain ⟨cs, e, rfl, rfl, rfl⟩ := hs
    exact ⟨rfl, rfl, by simp [stepV, hb, e]⟩
  | blist sz xs =>
    have hb := valsV_congr (F1 := F1) (F2 := F2) (sz := sz) xs (fun q hq => ha q hq)
    simp only [stepV, Option.map_eq_some_iff, Prod.mk.injEq] at hs
    obtain ⟨cs, e, rfl, rfl, rfl⟩ := hs
    exact ⟨rfl, rfl, by simp [stepV, hb, e]⟩
  | bin bt op x y =>
    have h1 := ha x (by simp [IOp.rds]); have h2 := ha y (by simp [IOp.rds])
    simp only [stepV, Option.map_eq_some_iff, Prod.mk.injEq] at hs
    obtain ⟨cs, e, rfl, rfl, rfl⟩ := hs
    exact ⟨rfl, rfl, by simp [stepV, h1, h2, e]⟩
  | un op x =>
    have h1 := ha x (by simp [IOp.rds])
    simp only [stepV] at hs
    split at hs
    · rename_i e; cases hs; exact ⟨rfl, rfl, by simp [stepV, h1, e]⟩
    · rename_i e; cases hs; exact ⟨rfl, rfl, by simp [stepV, h1, e]⟩
    · cases hs
  | conv k x =>
    have h1 := ha x (by simp [IOp.rds])
    simp only [stepV] at hs
    split at hs
    · rename_i e; cases hs; exact ⟨rfl, rfl, by simp [stepV, h1, e]⟩
    · cases hs
  | ifc t x =>
    have h1 := ha x (by simp [IOp.rds])
    simp only [stepV] at hs
    split at hs
    · rename_i e; cases hs; refine ⟨rfl, rfl, ?_⟩; simp only [Rd.out, Rd.val] at e; simp [stepV, Rd.out, Rd.val, h1, e]
    · cases hs
  | fa off x =>
    have h1 := ha x (by simp [IOp.rds])
    simp only [stepV] at hs
    split at hs
    · rename_i e; split at hs
      · rename_i e2; cases hs; exact ⟨rfl, rfl, by simp [stepV, h1, e, e2]⟩
      · cases hs
    · rename_i e; cases hs; exact ⟨rfl, rfl, by simp [stepV, h1, e]⟩
    · rename_i e; cases hs; exact ⟨rfl, rfl, by simp [stepV, h1, e]⟩
    · rename_i e; cases hs; exact ⟨rfl, rfl, by simp [stepV, h1, e]⟩
    · cases hs
  | fld off ag x =>
    have h1 := ha x (by simp [IOp.rds])
    simp only [stepV] at hs
    split at hs
    · rename_i e1
      simp only [Option.map_eq_some_iff, Prod.mk.injEq] at hs
      obtain ⟨cs, e, rfl, rfl, rfl⟩ := hs
      exact ⟨rfl, rfl, by simp [stepV, h1, e1, e]⟩
    · cases hs
  | ia sz x i =>
    have h1 := ha x (by simp [IOp.rds]); have h2 := ha i (by simp [IOp.rds])
    simp only [stepV, Option.bind_eq_some_iff] at hs
    obtain ⟨n, hn, hs⟩ := hs
    split at hs
    · rename_i e1
      split at hs
      · rename_i e2
        simp only [Option.map_eq_some_iff, Prod.mk.injEq] at hs
        obtain ⟨cs, e, rfl, rfl, rfl⟩ := hs
        exact ⟨rfl, rfl, by simp [stepV, h1, h2, hn, e1, e2, e]⟩
      · cases hs
    · rename_i e1
      split at hs
      · rename_i e2; cases hs; exact ⟨rfl, rfl, by simp [stepV, h1, h2, hn, e1, e2]⟩
      · cases hs
    · cases hs
  | ixs x i =>
    have h1 := ha x (by simp [IOp.rds]); have h2 := ha i (by simp [IOp.rds])
    simp only [stepV, Option.bind_eq_some_iff] at hs
    obtain ⟨n, hn, hs⟩ := hs
    split at hs
    · rename_i s e
      simp only [Option.map_eq_some_iff, Prod.mk.injEq] at hs
      obtain ⟨c, e2, rfl, rfl, rfl⟩ := hs
      exact ⟨rfl, rfl, by simp [stepV, h1, h2, hn, e, e2]⟩
    · cases hs
  | slc k x lo hi =>
    have h1 := ha x (by simp [IOp.rds])
    have h2 : ∀ d, oidx F2 d lo = oidx F1 d lo := fun d => oidx_congr (fun y hy => ha y (by simp [IOp.rds, hy]))
    have h3 : ∀ d, oidx F2 d hi = oidx F1 d hi := fun d => oidx_congr (fun y hy => ha y (by simp [IOp.rds, hy]))
    simp only [stepV] at hs
    split at hs
    · rename_i e1
      simp only [Option.bind_eq_some_iff] at hs
      obtain ⟨l, hl, h', hh, hs⟩ := hs
      split at hs
      · rename_i hc; cases hs; exact ⟨rfl, rfl, by simp [stepV, h1, h2, h3, e1, hl, hh, hc]⟩
      · cases hs
    · rename_i e1
      simp only [Option.bind_eq_some_iff] at hs
      obtain ⟨l, hl, h', hh, hs⟩ := hs
      split at hs
      · rename_i hc; cases hs; exact ⟨rfl, rfl, by simp [stepV, h1, h2, h3, e1, hl, hh, hc]⟩
      · cases hs
    · rename_i e1
      simp only [Option.bind_eq_some_iff] at hs
      obtain ⟨l, hl, h', hh, hs⟩ := hs
      split at hs
      · rename_i hc; cases hs; exact ⟨rfl, rfl, by simp [stepV, h1, h2, h3, e1, hl, hh, hc]⟩
      · cases hs
    · cases hs
  | idS x =>
    have h1 := ha x (by simp [IOp.rds])
    simp only [stepV] at hs
    split at hs
    · rename_i e; cases hs; exact ⟨rfl, rfl, by simp [stepV, h1, e]⟩
    · cases hs
  | len str x =>
    have h1 := ha x (by simp [IOp.rds])
    simp only [stepV] at hs
    split at hs
    · rename_i e; cases hs; exact ⟨rfl, rfl, by simp [stepV, h1, e]⟩
    · rename_i e; cases hs; exact ⟨rfl, rfl, by simp [stepV, h1, e]⟩
    · rename_i e; cases hs; exact ⟨rfl, rfl, by simp [stepV, h1, e]⟩
    · cases hs
  | minmax mx xs =>
    have hm : xs.map (Rd.get F2) = xs.map (Rd.get F1) := List.map_congr_left (fun x hx => ha x hx)
    simp only [stepV] at hs
    split at hs
    · rename_i e1
      split at hs
      · rename_i e; cases hs; exact ⟨rfl, rfl, by simp [stepV, hm, e1, e]⟩
      · cases hs
    · cases hs
  | _ => simp [IOp.pure] at hp
end Go.Iv
