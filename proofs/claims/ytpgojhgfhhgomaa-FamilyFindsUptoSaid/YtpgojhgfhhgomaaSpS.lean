/- The law FamilyFinds, of the machine: on every list of declarations and every byte it returns true. No conditions. -/
import Derived.Test.YtpgojhgfhhgomaaSpR
namespace Go.Iv.Ir
open Go.Iv
set_option maxRecDepth 100000
set_option linter.unusedVariables false
set_option linter.unusedSimpArgs false
attribute [local irreducible] limit
variable {K : List Kt} {F : Fr} {H : Hp} {Q : QQ} {ops : List Ins} {keep : List Nat} {dr : Bool} {dd : Option Nat}
theorem findE_nf {n : ByteArray} : ∀ {l : List Decl} {k : Nat}, findE n l k = none → NF n l l.length
  | [], k, h => fun i d hi => by simp at hi
  | y :: r, k, h => by
    simp only [findE] at h
    split at h
    · cases h
    · rename_i he
      have ih := findE_nf h
      intro i d hi hd
      match i with
      | 0 => simp at hd; subst hd; rw [entryOf_some _ 0 k, he]; rfl
      | i + 1 => exact ih i d (by simp at hi; omega) (by simpa using hd)
/-- a family that is declared is found -/
theorem find_own {env : List Decl} {i : Nat} {d : Decl} (hi : env[i]? = some d) (hk : d.kind = 3) (ho : OkD (env.take i) d) : findR env d.name = (⟨3, i, 0, d.params, d.type⟩, 0) := by
  have hnew := ho.2.2.2 d.name (by simp [namesD, hk])
  have hlt := (List.getElem?_eq_some_iff.1 hi).1
  have hnf : NF d.name env i := by
    have h0 : findE d.name (env.take i) 0 = none := by
      cases h : findE d.name (env.take i) 0 with
      | none => rfl
      | some e => exfalso; apply hnew; simp [findR, h]
    have := findE_nf h0
    intro j d' hj hd'
    refine this j d' (by simp; omega) ?_
    rw [List.getElem?_take, if_pos hj]; exact hd'
  have he : entryOf d (i : Int) d.name = some ⟨3, i, 0, d.params, d.type⟩ := by simp [entryOf, hk]
  have := findE_hit (k := 0) hnf hi (by simpa using he)
  simp [findR, this]
/-- what is needed of an analysed family, and what then follows -/
structure Fnd (env : List Decl) (d : Decl) (f : Fam) (n k : Nat) (hk : k < f.ctors.length) : Prop where
  lv : f.levels = n
  n8 : n ≤ 8
  b : szs f.params + szs f.ctors[k].fields + szs f.ctors[k].results < 1000000
  p : f.params.length < 1000000
  fl : f.ctors[k].fields.length < 1000000
  r : f.ctors[k].results.length < 1000000
  app : ∀ h : n < 1073741824, appR env (allT (ctT f n h f.ctors[k])).2 = (d, lvsT n, varsT f.params.length f.ctors[k].fields.length, f.ctors[k].results, true)
  vl : ((varsT f.params.length f.ctors[k].fields.length).length : Int) = d.fixed
theorem fnd {env : List Decl} (hg : GoodE env) {i : Nat} {d : Decl} (hi : env[i]? = some d) {f : Fam} (hf : FmOk d f) {k : Nat} (hk : k < f.ctors.length) : Fnd env d f d.params.toNat k hk := by
  obtain ⟨hsm, hok⟩ := hg
  have hd := hok i d hi
  obtain ⟨s1, s2⟩ := hsm d (List.mem_of_getElem? hi)
  obtain ⟨f1, f2, f3, f4, f5, f6, f7, f8, f9⟩ := hf
  obtain ⟨c, hc⟩ : ∃ c, d.ctors[k]? = some c := ⟨d.ctors[k]'(by omega), by simp⟩
  obtain ⟨s, hsp, hct⟩ := f9 k c f.ctors[k] hc (get_some hk)
  obtain ⟨g1, g2, g3, g4⟩ := hct rfl
  obtain ⟨g5, g6⟩ := g4.1 rfl
  have hcs := s2 k c hc
  have a1 := allT_szs d.type
  have a2 := allT_szs c.type
  have a3 := spineT_szs (allT c.type).2
  have a4 := szs_take (allT d.type).1 d.fixed.toNat
  have a5 := szs_take (allT c.type).1 s.params.length
  have a6 := szs_take (spineT (allT c.type).2).2 s.params.length
  rw [← f6, ← f7] at a4
  rw [← g3] at a5
  rw [← g6] at a6
  have b1 := szs_ge f.params
  have b2 := szs_ge f.ctors[k].fields
  have b3 := szs_ge f.ctors[k].results
  have hpl : f.params.length = d.fixed.toNat := by rw [f6]; simp; omega
  have hil : f.indices.length = (allT d.type).1.length - d.fixed.toNat := by rw [f7]; simp
  have hrl : f.ctors[k].results.length = f.indices.length := by rw [g6, List.length_drop, g5]; omega
  have hn : d.params.toNat ≤ 8 := by have := hd.1; have := hd.2.1; omega
  have hvl := varsT_len f.params.length f.ctors[k].fields.length
  have hvl2 : (varsT f.params.length f.ctors[k].fields.length).length = f.params.length := by
    rw [hvl]; split <;> omega
  have hvs := varsT_szs f.params.length f.ctors[k].fields.length
  refine ⟨by rw [f5]; have := hd.1; omega, hn, by omega, by omega, by omega, by omega, fun h => ?_, by rw [hvl2, hpl]; omega⟩
  have hb1 : (selfT f.name d.params.toNat h).sz + szs (varsT f.params.length f.ctors[k].fields.length ++ f.ctors[k].results) < 1073741824 := by rw [selfT_sz, szs_append]; omega
  have hsx := applyT_sz _ _ hb1
  rw [selfT_sz, szs_append] at hsx
  have hk6 := applyT_kind _ _ hb1 (show ¬ (3 : Int) = 6 by decide)
  have hsy := overT_sz 6 f.ctors[k].fields (applyT (selfT f.name d.params.toNat h) (varsT f.params.length f.ctors[k].fields.length ++ f.ctors[k].results)) (by omega)
  have hend : (allT (ctT f d.params.toNat h f.ctors[k])).2 = applyT (selfT f.name d.params.toNat h) (varsT f.params.length f.ctors[k].fields.length ++ f.ctors[k].results) := by
    unfold ctT
    rw [allT_over _ _ (by omega)]
    show (allT (overT 6 f.ctors[k].fields _)).2 = _
    rw [allT_over _ _ (by omega)]
    show (allT (applyT _ _)).2 = _
    rw [allT_no (fun c => hk6 c.1)]
  have hsp2 : spineT (applyT (selfT f.name d.params.toNat h) (varsT f.params.length f.ctors[k].fields.length ++ f.ctors[k].results)) = (selfT f.name d.params.toNat h, varsT f.params.length f.ctors[k].fields.length ++ f.ctors[k].results) := by
    rw [spineT_apply _ _ hb1, spineT_no (by intro c; exact absurd c.1 (by show ¬ (3 : Int) = 4; decide))]; rfl
  have hfo := find_own hi f1 hd
  have hnm : (selfT f.name d.params.toNat h).name = d.name := f4
  have hda : declAt env ⟨3, i, 0, d.params, d.type⟩ = d := by simp [declAt, hi]
  rw [hend]
  unfold appR
  rw [hsp2]
  simp only [hnm, hfo, hda]
  have hcnd : (selfT f.name d.params.toNat h).kind = 3 ∧ True ∧ True ∧ (varsT f.params.length f.ctors[k].fields.length ++ f.ctors[k].results).length = (allT d.type).1.length ∧ d.fixed ≤ ((varsT f.params.length f.ctors[k].fields.length ++ f.ctors[k].results).length : Int) := by
    refine ⟨rfl, trivial, trivial, ?_, ?_⟩
    · rw [List.length_append, hvl2, hrl, hil]; omega
    · rw [List.length_append, hvl2]; omega
  rw [if_pos hcnd]
  · have e1 : (varsT f.params.length f.ctors[k].fields.length ++ f.ctors[k].results).take d.fixed.toNat = varsT f.params.length f.ctors[k].fields.length := by
      rw [← hpl, List.take_append_of_le_length (by omega), List.take_of_length_le (by omega)]
    have e2 : (varsT f.params.length f.ctors[k].fields.length ++ f.ctors[k].results).drop d.fixed.toNat = f.ctors[k].results := by
      rw [List.drop_append_of_le_length (by omega), List.drop_eq_nil_of_le (by omega)]; rfl
    rw [e1, e2]; rfl
theorem good_fixd {env : List Decl} (hg : GoodE env) : Fixd env := by
  intro d hd
  obtain ⟨i, hi⟩ := List.mem_iff_getElem?.1 hd
  exact (hg.2 i d hi).2.2.1
theorem t4 (h7 : Ret T 7 [] (.b true)) (env : List Decl) (he : env.length < 1073741824) (w : Nat) (hw256 : w < 256) : ∃ v, Ret T 4 [.list 23 (List.map encD env) false, .i .u8 w] v ∧ Eqv (.b true) v := by
  have hlen := he
  obtain ⟨v, h5, b, rfl, hb⟩ := x5 env he
  refine ret_of rfl rfl (by simp) ?_
  cases b with
  | false => simp [fr0, wc_ret h5, wc_ret h7]
  | true =>
    have hg := hb rfl
    have hx := good_fixd hg
    simp [fr0, wc_ret h5]
    refine wk_loop (fun (j : Nat) => [(5, .i .i64 j)]) (fun _ => []) (fun j => env.length - j) 0 (by rfl) (by rfl) ?_
    intro j hl
    simp
    constructor
    · intro hj
      have hi := get_some hj
      have hc := hl (j + 1) (by omega)
      have hw := wrap_succ j _ hj hlen
      simp at hc hw
      have hok := hg.2 j env[j] hi
      obtain ⟨v, h13, f, e, rfl, hfm⟩ := t13 env[j] ⟨hok.1, hok.2.1⟩
      by_cases he0 : e = 0
      · subst he0
        have hf := hfm rfl
        by_cases h0 : f.ctors = []
        · simp [hi, hw, hc, wc_ret h13, h0]
        · have hcl : 0 < f.ctors.length := List.length_pos_iff.2 h0
          obtain ⟨k, hkk⟩ : ∃ k, w % f.ctors.length = k := ⟨_, rfl⟩
          have hk : k < f.ctors.length := by rw [← hkk]; exact Nat.mod_lt _ hcl
          have hF := fnd hg hi hf hk
          have hcl2 := hf.2.2.2.2.2.2.2.1
          have hcl3 := env[j].ctors_len
          obtain ⟨v, h14, rfl⟩ := t14 f env[j].params.toNat hF.n8 hF.lv (by omega) _ hk hF.b hF.p hF.fl hF.r
          obtain ⟨v, h8, rfl⟩ := t8 env he hx (allT (ctT f env[j].params.toNat (by have := hF.n8; omega) f.ctors[k])).2
          rw [hF.app] at h8
          have h16 := r16 env[j].params.toNat hF.n8
          have hpn : ((env[j].params.toNat : Nat) : Int) = env[j].params := by have := hok.1; omega
          rw [hpn] at h16
          have hwr : IntKind.i64.wrap (w : Int) = (w : Int) := by rw [IntKind.wrap_i64]; omega
          have hmod : (w : Int).tmod (f.ctors.length : Int) = (k : Int) := by
            rw [Int.tmod_eq_emod_of_nonneg (by omega), ← hkk]; rfl
          have hcn : ¬ (f.ctors.length : Int) = 0 := by omega
          have hlv : (lvsT env[j].params.toNat).length < 1073741824 := by rw [lvsT_len]; have := hF.n8; omega
          have hrl : f.ctors[k].results.length < 1073741824 := by have := hF.r; omega
          have hvl := hF.vl
          simp only [appV] at h8
          simp [hi, hw, hc, wc_ret h13, h0, hwr, hcn, hmod, wc_ret h14, wc_ret h8, wc_ret h16, hlv, hvl, get_some hk, hrl]
      · simp [hi, hw, hc, wc_ret h13, he0]
    · intro hj
      simp [wc_ret h7]
end Go.Iv.Ir
