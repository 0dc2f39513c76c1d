/- Single operations, second part: moves, arithmetic, addresses, slicing, lengths. No conditions. -/
import Derived.Test.YtpgojhgfhhgomaaIvOp
import Derived.Laws.Strings
import Derived.Laws.Concat
import Derived.Laws.Slices
namespace Go.Iv
set_option linter.unusedVariables false
set_option linter.unusedSimpArgs false
variable {P : Program} {CR : Nat → Code → IC → Prop} {N : Nat} {g g' : Gh} {lam : Nat → Option Nat} {F : Fr} {H : Hp} {a : Act} {w w' : World}

def mvTag (s d : Nat) : Ow → Ow
  | .spare t j => if t = s then .spare d j else if t = d then .gone else .spare t j
  | x => x
theorem mvTag_fix (s d : Nat) : FixB (mvTag s d) := ⟨rfl, fun _ => rfl, rfl, rfl, fun _ => rfl⟩

theorem srep_put_junk {s : Nat} : (upd F.tm s V.junk) s = .junk := by simp [upd]
/-- what a slot owns goes to another slot -/
theorem Rel.move (h : Rel CR N g lam F H a w) {s d : Nat} (hd : d < N) : Rel CR N (g.retag (mvTag s d)) lam ({ F with tm := upd F.tm s .junk }.put (some d) (F.tm s)) H (a.put (some d) (a.tmps.getD s undef)) w := by
  have h2 := (h.junk s).junk d
  have h3 := h2.retag (mvTag_fix s d) (fun t j ho => by
      by_cases h1 : t = d
      · subst h1; simp [upd, owns] at ho
      · by_cases h4 : t = s
        · subst h4; simp [upd, owns, h1] at ho
        · simp [mvTag, h1, h4]) (fun t cs j sz xs _ _ _ => rfl)
  have h4 := h3.put (some d) (fun t e => by cases e; exact hd) (v := F.tm s) (u := a.tmps.getD s undef) ((h.slot s).tr (g.retag_le _))
    (fun t e => by cases e; exact (h.sown s).retag (fun j _ => by simp [mvTag])) (fun t o e => h.ptr s t o e)
  have he : (({ ({ F with tm := upd F.tm s .junk } : Fr) with tm := upd (upd F.tm s .junk) d .junk } : Fr).put (some d) (F.tm s)) = ({ F with tm := upd F.tm s .junk } : Fr).put (some d) (F.tm s) := by
    simp only [Fr.put, Fr.mk.injEq, and_true]
    funext j
    simp only [upd]
    split <;> rfl
  rw [← he]; exact h4

theorem SRep.clr {v : V} {u : Value} (h : SRep g lam v u) : SRep g lam v.clr u := by
  cases v with
  | lptr t o => exact h
  | _ => exact (Rep.clr (SRep.rep h (by intro t o e; cases e))).srep
theorem rdB_func {f : FuncId} {c : V} (h : rdB (.func f) (.c c) = true) : c = .fn (.func f) [] [] := by
  unfold rdB at h
  split at h <;> first | cases h | skip
  · rename_i e1 e2; cases e1
  · rename_i e1 e2; cases e1
  · rename_i e1 e2; cases e1; cases e2; simp at h; rw [h]
theorem sim_mv (h : Rel CR N g lam F H a w) {o : Oper} {d : Option Nat} (hd : ∀ t, d = some t → t < N) {x : Operand} {y : Rd} {tk : Bool}
    (ho : o.op = .move x ∨ o.op = .assign x) (hr : rdB x y = true) {v : V} {F' : Fr} {H' : Hp} (hs : stepV (.mv y tk) d F H = some (v, F', H')) : Sim P CR N o d v F' H' g a w := by
  have hrun : (execOp a.eval o).run P w = .ok (.value (a.eval x)) w := by rcases ho with ho | ho <;> simp [execOp, ho]
  cases y with
  | t s =>
    cases x <;> simp [rdB] at hr
    subst hr
    cases tk with
    | true =>
      simp only [stepV, Option.some.injEq, Prod.mk.injEq] at hs
      obtain ⟨rfl, rfl, rfl⟩ := hs
      cases d with
      | none => exact ⟨_, w, g, lam, .inl hrun, h.junk _, .refl g w⟩
      | some d => exact ⟨_, w, _, lam, .inl hrun, h.move (hd d rfl), .retag g w (mvTag_fix _ d)⟩
    | false =>
      simp only [stepV, Option.some.injEq, Prod.mk.injEq] at hs
      obtain ⟨rfl, rfl, rfl⟩ := hs
      exact ⟨_, w, g, lam, .inl hrun, h.put d hd (h.slot _).clr (fun t _ => SOwn.plain (V.plain_clr _)) (fun t o e => h.ptr _ t o (clr_lptr e)), .refl g w⟩
  | c c =>
    simp only [stepV, Option.some.injEq, Prod.mk.injEq] at hs
    obtain ⟨rfl, rfl, rfl⟩ := hs
    cases x with
    | tmp n => simp [rdB] at hr
    | const u => exact Sim.pure h hd hrun (cstB_rep hr) (fun t => cstB_own hr)
    | func f =>
      have hc := rd_srep h hr
      obtain rfl := rdB_func hr
      exact Sim.pure h hd hrun hc (fun t => trivial)
    | global gl => simp [rdB] at hr

/-- an operand is no frame's own place unless a slot holds it -/
theorem rd_ptr (h : Rel CR N g lam F H a w) {x : Operand} {y : Rd} (hr : rdB x y = true) : ∀ t o, (y.get F).clr = .lptr t o → F.bx t ≠ none := by
  intro t o e
  have e2 := clr_lptr e
  cases y with
  | t s => exact h.ptr s t o e2
  | c c =>
    simp only [Rd.get] at e2
    subst e2
    cases x with
    | tmp n => simp [rdB] at hr
    | const u => exact absurd rfl ((cstB_rep (g := g) hr).notL t o)
    | func f => simp [rdB] at hr
    | global gl => simp [rdB] at hr

theorem sim_pick (h : Rel CR N g lam F H a w) {o : Oper} {d : Option Nat} (hd : ∀ t, d = some t → t < N) {c x y : Operand} {c' x' y' : Rd}
    (ho : o.op = .pick c x y) (hc : rdB c c' = true) (hx : rdB x x' = true) (hy : rdB y y' = true) {v : V} {F' : Fr} {H' : Hp}
    (hs : stepV (.pick c' x' y') d F H = some (v, F', H')) : Sim P CR N o d v F' H' g a w := by
  simp only [stepV] at hs
  split at hs
  · rename_i t hg
    cases hs
    have hb := rd_rep h hc hg (by intro t o e; cases e)
    generalize hcc : a.eval c = cv at hb
    cases hb
    have hrun : (execOp a.eval o).run P w = .ok (.value (if t then a.eval x else a.eval y)) w := by cases t <;> simp [execOp, ho, Sem.run_bind, hcc, asBool]
    have hsr : SRep g lam ((if t then x' else y').get F) (if t then a.eval x else a.eval y) := by cases t <;> simp <;> first | exact rd_srep h hx | exact rd_srep h hy
    refine ⟨_, w, g, lam, .inl hrun, h.put d hd hsr.clr (fun t _ => SOwn.plain (V.plain_clr _)) (fun t' o' e => ?_), .refl g w⟩
    cases t
    · exact rd_ptr h hy t' o' e
    · exact rd_ptr h hx t' o' e
  · cases hs

theorem toList_byteArray (x : ByteArray) : x.toList = x.data.toList := ByteArray.toList_eq x
end Go.Iv
