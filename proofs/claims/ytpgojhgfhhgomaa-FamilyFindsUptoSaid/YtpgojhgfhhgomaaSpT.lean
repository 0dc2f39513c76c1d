/- FamilyFinds, where what it reads is of bulk at most 1048576: it returns true, and its arguments read as before. Conditions: none but the statement's own. -/
import Derived.Test.YtpgojhgfhhgomaaRows
import Derived.Test.YtpgojhgfhhgomaaSpK
import Derived.Test.YtpgojhgfhhgomaaSpS
import Derived.Test.YtpgojhgfhhgomaaIrChk
import Derived.WalkKit
import Derived.ProofKit
import Derived.OpenShut
import Derived.JoinedCond
import Derived.WideKeyArgs
namespace Go.Proofs.Ytpgojhgfhhgomaa.familyFinds
open Go.ChangeShapes Go.WideShapes Go.ChangeAt Go.RowKit
set_option linter.unusedVariables false
set_option maxRecDepth 100000

theorem own : ownKnob Try.prog.godebug = none := by kernel_rfl
theorem laid : laidOutB Try.prog = true := by kernel_rfl
def types : List TypeId := [3, 4, 9, 22, 23, 24, 26, 30, 32, 33, 35, 75, 76, 78, 80, 90, 92, 101, 111]
theorem closed : Iv.closedB Try.prog types = true := by kernel_rfl

def isTrue : Option (Iv.RV × Iv.Hp) → Bool
  | some (.ret (.b true), _) => true
  | _ => false
theorem isTrue_some {r : Option (Iv.RV × Iv.Hp)} (h : isTrue r = true) : ∃ H, r = some (.ret (.b true), H) := by
  unfold isTrue at h
  split at h
  · exact ⟨_, rfl⟩
  · cases h
theorem awake1 : isTrue (Iv.run Iv.Ir.T 60 (.fn 7) [] Iv.Hp.empty) = true := by decide +kernel
theorem awake : Iv.Ret Iv.Ir.T 7 [] (.b true) := by
  obtain ⟨H, h⟩ := isTrue_some awake1
  exact Iv.Ir.ret_pure rfl h

theorem rep_slice {W : World} {base : Nat} {v : Value} {x : Iv.V} (hv : Value.okWide Try.prog W .any base 22 v) (h : Iv.RepL (Iv.Gh.start W) [x] v.cells.toList) : Iv.Rep (Iv.Gh.start W) x v := by
  cases v <;> first
    | (simp [Value.okWide, Try.underlying22, Cell.okWide, Cell.ok] at hv; done)
    | (cases h with | cons h1 h2 => exact h1)

theorem walk {H : Type} {enc : TypeId × Value → H} {W : World} {base : Nat} {v0 : Value} {d0 : DataW H} {p0 : List MemPlace} {m : Int}
    (w0 : Value.okWide Try.prog W .any base 22 v0) (wm : (Lit.int .u8 m).wf = true)
    (h0 : DataW.Trod enc Try.prog W 0 (fun _ => true) true 22 v0 d0 p0) (hk : Rows.uptoBulk d0 ≤ 1048576) :
    Calls Try.prog 4 #[v0, .int .u8 m] W fun e w' => e = .returned (.bool true) ∧ Grown W w' := by
  have hx : 0 ≤ m ∧ m ≤ 255 := by simpa [Lit.wf, IntKind.min, IntKind.max, IntKind.signed, IntKind.bits] using wm
  obtain ⟨w, rfl⟩ : ∃ w : Nat, m = w := ⟨m.toNat, by omega⟩
  obtain ⟨n0, h0⟩ := h0
  obtain ⟨r0, _, _⟩ := Iv.trod_rep closed n0 22 _ _ _ (by decide) h0
  obtain ⟨env, k0, he⟩ := Iv.dec_ds (Iv.trod_wt closed n0 22 _ _ _ (by decide) h0) (by omega)
  rw [k0] at r0
  have q0 := rep_slice w0 r0
  have q1 : Iv.Rep (Iv.Gh.start W) (.i .u8 w) (.int .u8 w) := .i _ _
  obtain ⟨v, hr, rfl⟩ := Iv.Ir.t4 awake env he w (by omega)
  obtain ⟨n, hr⟩ := hr
  refine (Iv.calls_row (Iv.Ir.sound n) (hr Iv.Hp.empty) (cargs := #[v0, .int .u8 w]) (.cons q0 (.cons q1 .nil))).mono fun e W' ⟨hg, u, g', he, hu⟩ => ?_
  subst he
  cases hu
  exact ⟨rfl, hg⟩

theorem contract (H : Type) (enc : TypeId × Value → H) (W : World) (base : Nat) (args : Array Value) (ds gs : List (DataW H)) (before : List MemPlace)
    (hval : ∀ (j : Nat) t v, Try.f4.params[j]? = some t → args[j]? = some v → Value.okWide Try.prog W .any base t v)
    (hW : DataW.Whole enc Try.prog Try.f4.params.toList Rows.familyFindsSpec.vars false W args.toList ds gs before) (hk : Rows.uptoSmall H (ds ++ gs) = true) :
    Calls Try.prog 4 args W fun e W' => ∃ v, e = .returned v ∧ Rows.familyFindsSpec.post enc Try.prog Try.f4 false true false false W args v W' := by
  have hW' := hW
  obtain ⟨p, q, hA0, hV, rfl, hfz, hnd⟩ := hW
  have hA : DataW.TrodAll enc Try.prog W 0 (fun _ => true) true Try.f4.params.toList args.toList ds p := hA0
  rw [Try.params4] at hA hval
  obtain ⟨v0, v1, d0, d1, p0, p1, rfl, rfl, rfl, h0, h1⟩ := trodAll_two hA
  obtain ⟨rfl, rfl⟩ := trodVars_none hV
  obtain ⟨m, rfl, rfl, rfl, wm⟩ := open_int Try.underlying5 (hval 1 5 v1 rfl rfl) h1
  clear hA0
  simp only [List.append_nil] at hW' hk
  have hk := of_decide_eq_true hk
  simp only [Rows.uptoBulkAll] at hk
  have hlt : ∀ x ∈ p0, x.block < W.heap.size := fun x hx => by simpa using hW'.lt x (by simpa using hx)
  have hW2 : DataW.Whole enc Try.prog Try.f4.params.toList Rows.familyFindsSpec.vars false W #[v0, .int .u8 m].toList [d0, .lit (.int .u8 m)] [] (p0 ++ []) := by simpa using hW'
  refine (walk (hval 0 22 v0 rfl rfl) wm h0 (by omega)).mono fun e W' ⟨he, hg⟩ => ?_
  subst he
  exact ⟨_, rfl, post_of_same (pa := p0 ++ []) (pv := []) hW2 (fun _ _ _ => (trodAll_cons_mk (shut_bool Try.underlying4 _) trodAll_mk0))
    (fun sp hsp => trodAll_mk2
      (WideElems.Trod_stays laid (by kernel_rfl) (of_decide_eq_true (by kernel_rfl)) h0 (fun x hx => Iv.grown_same hg (hlt x hx)) (fun x hx => hsp x (by simp [hx])))
      (shut_int Try.underlying5 wm))
    (fun _ _ => rfl) (by simp)
    (hg.frame _) hg.2.1 (ok_one (by kernel_rfl) rfl (okWide_bool_mk Try.underlying4 _))⟩

theorem lifted (os : Os) (started : os.Started) (H : Type) (enc : TypeId × Value → H) (F : Stop.Interp) :
    ReturnsInHanded {} Try.checked os 4 .any ((Rows.OpenSpec.upto Rows.familyFindsSpec).pre6 enc Try.prog Try.f4 Rows.familyFindsUptoRow.domain false) (((Rows.OpenSpec.upto Rows.familyFindsSpec).at F).post enc Try.prog Try.f4 false true false false) := by
  refine returnsInHanded_of_cond (C := Try.checked) (s := Rows.OpenSpec.upto Rows.familyFindsSpec) (k := Rows.uptoSmall) rfl own started (by kernel_rfl) Try.func4
    (OpenSpec.witness (enc := enc) (C := Try.checked) (s := Rows.OpenSpec.upto Rows.familyFindsSpec) (k := Rows.uptoSmall) rfl false ⟨#[], #[.slice none 0 0, .int .u8 0], []⟩ 8 (by kernel_rfl) (by kernel_rfl) (by kernel_rfl)
      (x := ([.nil, .lit (.int .u8 0)], [], [])) (by kernel_rfl) rfl (by kernel_rfl)) ?_
  intro W base args ds gs before hval hW _ hk _
  exact contract H enc W base args ds gs before hval hW hk

theorem over : Rows.familyFindsUptoRow.holds Try.pinned (Rows.OpenSpec.upto Rows.familyFindsSpec) :=
  OpenClaim.holds_of_cond 4 Try.f4 rfl rfl rfl rfl rfl rfl rfl ⟨rfl, rfl, rfl, rfl, rfl⟩ rfl rfl rfl rfl rfl (by kernel_rfl) Try.func4 (by kernel_rfl)
    (of_decide_eq_true (by kernel_rfl)) (by unfold Func.isWrapper; first | (rw [if_pos (by decide +kernel)]; kernel_rfl) | (rw [if_neg (by decide +kernel)]; exact ⟨rfl, rfl⟩))
    (fun os started H enc _ F => lifted os started H enc F)

theorem proved : Rows.FamilyFindsUptoSaid :=
  over
end Go.Proofs.Ytpgojhgfhhgomaa.familyFinds
