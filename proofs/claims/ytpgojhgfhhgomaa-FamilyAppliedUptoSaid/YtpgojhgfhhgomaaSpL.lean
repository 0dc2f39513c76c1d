/- FamilyApplied, where what it reads is of bulk at most 1048576: it returns true, and its arguments read as before. Conditions: none but the statement's own. -/
import Derived.Test.YtpgojhgfhhgomaaRows
import Derived.Test.YtpgojhgfhhgomaaSpK
import Derived.Test.YtpgojhgfhhgomaaSpJ
import Derived.Test.YtpgojhgfhhgomaaIrChk
import Derived.WalkKit
import Derived.ProofKit
import Derived.OpenShut
import Derived.JoinedCond
import Derived.WideKeyArgs
namespace Go.Proofs.Ytpgojhgfhhgomaa.familyApplied
open Go.ChangeShapes Go.WideShapes Go.ChangeAt Go.RowKit
set_option linter.unusedVariables false
set_option maxRecDepth 100000

theorem own : ownKnob Try.prog.godebug = none := by kernel_rfl
theorem laid : laidOutB Try.prog = true := by kernel_rfl
def types : List TypeId := [3, 4, 9, 22, 23, 24, 26, 30, 32, 33, 35, 75, 76, 78, 80, 90, 92, 101, 111]
theorem closed : Iv.closedB Try.prog types = true := by kernel_rfl

def isTrue : Option (Iv.RV × Iv.Hp) → Bool
  | some (.ret (.b true), _) => true
  | _ => false
theorem isTrue_some {r : Option (Iv.RV × Iv.Hp)} (h : isTrue r = true) : ∃ H, r = some (.ret (.b true), H) := by
  unfold isTrue at h
  split at h
  · exact ⟨_, rfl⟩
  · cases h
theorem awake1 : isTrue (Iv.run Iv.Ir.T 60 (.fn 7) [] Iv.Hp.empty) = true := by decide +kernel
theorem awake : Iv.Ret Iv.Ir.T 7 [] (.b true) := by
  obtain ⟨H, h⟩ := isTrue_some awake1
  exact Iv.Ir.ret_pure rfl h

theorem rep_slice {W : World} {base : Nat} {v : Value} {x : Iv.V} (hv : Value.okWide Try.prog W .any base 22 v) (h : Iv.RepL (Iv.Gh.start W) [x] v.cells.toList) : Iv.Rep (Iv.Gh.start W) x v := by
  cases v <;> first
    | (simp [Value.okWide, Try.underlying22, Cell.okWide, Cell.ok] at hv; done)
    | (cases h with | cons h1 h2 => exact h1)

theorem walk {H : Type} {enc : TypeId × Value → H} {W : World} {base : Nat} {v0 v1 : Value} {d0 d1 : DataW H} {p0 p1 : List MemPlace}
    (w0 : Value.okWide Try.prog W .any base 22 v0) (w1 : Value.okWide Try.prog W .any base 26 v1)
    (h0 : DataW.Trod enc Try.prog W 0 (fun _ => true) true 22 v0 d0 p0) (h1 : DataW.Trod enc Try.prog W 0 (fun _ => true) true 26 v1 d1 p1)
    (hk : Rows.uptoBulk d0 + Rows.uptoBulk d1 ≤ 1048576) :
    Calls Try.prog 3 #[v0, v1] W fun e w' => e = .returned (.bool true) ∧ Grown W w' := by
  obtain ⟨n0, h0⟩ := h0
  obtain ⟨n1, h1⟩ := h1
  obtain ⟨r0, _, _⟩ := Iv.trod_rep closed n0 22 _ _ _ (by decide) h0
  obtain ⟨r1, _, _⟩ := Iv.trod_rep closed n1 26 _ _ _ (by decide) h1
  obtain ⟨env, k0, he⟩ := Iv.dec_ds (Iv.trod_wt closed n0 22 _ _ _ (by decide) h0) (by omega)
  obtain ⟨t, k1⟩ := Iv.dec_tm (Iv.trod_wt closed n1 26 _ _ _ (by decide) h1) (by omega)
  rw [k0] at r0
  rw [k1] at r1
  have q0 := rep_slice w0 r0
  have w1' := w1
  simp only [Value.okWide, Try.underlying26] at w1'
  obtain ⟨cs, rfl, _, _⟩ := w1'
  have q1 : Iv.Rep (Iv.Gh.start W) (Iv.encT t) (.agg cs) := by
    rw [← Iv.agg_cells (Iv.encT_def t)]
    exact .agg r1
  obtain ⟨v, hr, rfl⟩ := Iv.Ir.t3 awake env he t
  obtain ⟨n, hr⟩ := hr
  refine (Iv.calls_row (Iv.Ir.sound n) (hr Iv.Hp.empty) (cargs := #[v0, .agg cs]) (.cons q0 (.cons q1 .nil))).mono fun e W' ⟨hg, u, g', he, hu⟩ => ?_
  subst he
  cases hu
  exact ⟨rfl, hg⟩

theorem contract (H : Type) (enc : TypeId × Value → H) (W : World) (base : Nat) (args : Array Value) (ds gs : List (DataW H)) (before : List MemPlace)
    (hval : ∀ (j : Nat) t v, Try.f3.params[j]? = some t → args[j]? = some v → Value.okWide Try.prog W .any base t v)
    (hW : DataW.Whole enc Try.prog Try.f3.params.toList Rows.familyAppliedSpec.vars false W args.toList ds gs before) (hk : Rows.uptoSmall H (ds ++ gs) = true) :
    Calls Try.prog 3 args W fun e W' => ∃ v, e = .returned v ∧ Rows.familyAppliedSpec.post enc Try.prog Try.f3 false true false false W args v W' := by
  have hW' := hW
  obtain ⟨p, q, hA0, hV, rfl, hfz, hnd⟩ := hW
  have hA : DataW.TrodAll enc Try.prog W 0 (fun _ => true) true Try.f3.params.toList args.toList ds p := hA0
  rw [Try.params3] at hA hval
  obtain ⟨v0, v1, d0, d1, p0, p1, rfl, rfl, rfl, h0, h1⟩ := trodAll_two hA
  obtain ⟨rfl, rfl⟩ := trodVars_none hV
  clear hA0
  simp only [List.append_nil] at hW' hk
  have hk := of_decide_eq_true hk
  simp only [Rows.uptoBulkAll] at hk
  have hlt : ∀ x ∈ p0 ++ p1, x.block < W.heap.size := fun x hx => by simpa using hW'.lt x hx
  refine (walk (hval 0 22 v0 rfl rfl) (hval 1 26 v1 rfl rfl) h0 h1 (by omega)).mono fun e W' ⟨he, hg⟩ => ?_
  subst he
  exact ⟨_, rfl, post_of_same (pa := p0 ++ p1) (pv := []) hW' (fun _ _ _ => (trodAll_cons_mk (shut_bool Try.underlying4 _) trodAll_mk0))
    (fun sp hsp => trodAll_mk2
      (WideElems.Trod_stays laid (by kernel_rfl) (of_decide_eq_true (by kernel_rfl)) h0 (fun x hx => Iv.grown_same hg (hlt x (by simp [hx]))) (fun x hx => hsp x (by simp [hx])))
      (WideElems.Trod_stays laid (by kernel_rfl) (of_decide_eq_true (by kernel_rfl)) h1 (fun x hx => Iv.grown_same hg (hlt x (by simp [hx]))) (fun x hx => hsp x (by simp [hx]))))
    (fun _ _ => rfl) (by simp)
    (hg.frame _) hg.2.1 (ok_one (by kernel_rfl) rfl (okWide_bool_mk Try.underlying4 _))⟩

theorem lifted (os : Os) (started : os.Started) (H : Type) (enc : TypeId × Value → H) (F : Stop.Interp) :
    ReturnsInHanded {} Try.checked os 3 .any ((Rows.OpenSpec.upto Rows.familyAppliedSpec).pre6 enc Try.prog Try.f3 Rows.familyAppliedUptoRow.domain false) (((Rows.OpenSpec.upto Rows.familyAppliedSpec).at F).post enc Try.prog Try.f3 false true false false) := by
  refine returnsInHanded_of_cond (C := Try.checked) (s := Rows.OpenSpec.upto Rows.familyAppliedSpec) (k := Rows.uptoSmall) rfl own started (by kernel_rfl) Try.func3
    (OpenSpec.witness (enc := enc) (C := Try.checked) (s := Rows.OpenSpec.upto Rows.familyAppliedSpec) (k := Rows.uptoSmall) rfl false ⟨#[], #[.slice none 0 0, .agg #[.int .i64 0, .int .i64 0, .string ⟨#[]⟩, .slice none 0 0, .slice none 0 0]], []⟩ 8 (by kernel_rfl) (by kernel_rfl) (by kernel_rfl)
      (x := ([.nil, .agg [.lit (.int .i64 0), .lit (.int .i64 0), .lit (.string []), .nil, .nil]], [], [])) (by kernel_rfl) rfl (by kernel_rfl)) ?_
  intro W base args ds gs before hval hW _ hk _
  exact contract H enc W base args ds gs before hval hW hk

theorem over : Rows.familyAppliedUptoRow.holds Try.pinned (Rows.OpenSpec.upto Rows.familyAppliedSpec) :=
  OpenClaim.holds_of_cond 3 Try.f3 rfl rfl rfl rfl rfl rfl rfl ⟨rfl, rfl, rfl, rfl, rfl⟩ rfl rfl rfl rfl rfl (by kernel_rfl) Try.func3 (by kernel_rfl)
    (of_decide_eq_true (by kernel_rfl)) (by unfold Func.isWrapper; first | (rw [if_pos (by decide +kernel)]; kernel_rfl) | (rw [if_neg (by decide +kernel)]; exact ⟨rfl, rfl⟩))
    (fun os started H enc _ F => lifted os started H enc F)

theorem proved : Rows.FamilyAppliedUptoSaid :=
  over
end Go.Proofs.Ytpgojhgfhhgomaa.familyApplied
