/- What the analysis of a family returns. No conditions. -/
import Derived.Test.YtpgojhgfhhgomaaSpP
namespace Go.Iv.Ir
open Go.Iv
set_option maxRecDepth 100000
set_option linter.unusedVariables false
set_option linter.unusedSimpArgs false
attribute [local irreducible] limit
variable {K : List Kt} {F : Fr} {H : Hp} {Q : QQ} {ops : List Ins} {keep : List Nat} {dr : Bool} {dd : Option Nat}
/-- a shape whose numbers fit -/
def ShOk (s : Sh) (ix : Nat) : Prop := s.params.length < 1073741824 ∧ s.indices = ix ∧ ix < 1073741824
/-- the index terms of a result, if it is one -/
def ResOk (s : Sh) (ix : Nat) (t : Tm) (rs : List Tm) (ok : Bool) : Prop :=
  (ok = true → (spineT t).2.length = s.params.length + ix ∧ rs = (spineT t).2.drop s.params.length) ∧ (ok = false → rs = [])
def IsRes (s : Sh) (ix : Nat) (t : Tm) (v : V) : Prop := ∃ rs ok, v = .tuple [.list 5 (List.map encT rs) false, .b ok] ∧ ResOk s ix t rs ok
theorem t53 (s : Sh) (ix : Nat) (hs : ShOk s ix) (t : Tm) (m : Nat) (hm : m < 1099511627776) : ∃ v, Ret T 53 [encSh s, encT t, .i .i64 m] v ∧ IsRes s ix t v := by
  obtain ⟨hp, hi, hx⟩ := hs
  have hw : IntKind.i64.wrap ((s.params.length : Int) + ix) = ((s.params.length + ix : Nat) : Int) := by rw [IntKind.wrap_i64]; omega
  have hsl := spineT_len' t
  refine ret_of rfl rfl (by simp) ?_
  by_cases hlen : (spineT t).2.length = s.params.length + ix
  · have hle : s.params.length ≤ (spineT t).2.length := by omega
    have hlenI : ((spineT t).2.length : Int) = s.params.length + ix := by omega
    simp [fr0, hi, hw, hlenI, hp, hm, hle, hsl]
    have hbad : IsRes s ix t (.tuple [.list 5 [] false, .b false]) := ⟨[], false, rfl, by simp [ResOk]⟩
    refine ⟨fun _ => hbad, fun _ => ⟨fun _ => hbad, fun _ => ⟨(spineT t).2.drop s.params.length, true, by simp, ?_⟩⟩⟩
    exact ⟨fun _ => ⟨hlen, rfl⟩, fun c => by cases c⟩
  · have hlenI : ¬ ((spineT t).2.length : Int) = s.params.length + ix := by omega
    simp [fr0, hi, hw, hlenI]
    exact ⟨[], false, rfl, by simp [ResOk]⟩
theorem encRF_mk (a : Int) (x y : List Tm) : V.agg [.i .i64 a, .list 5 (List.map encT x) false, .list 5 (List.map encT y) false] = encRF ⟨a, x, y⟩ := rfl
def IsRFs (l : Nat) (v : V) : Prop := ∃ rs : List RF, v = .list 3 (List.map encRF rs) false ∧ rs.length ≤ l
theorem t54 (s : Sh) (ix : Nat) (hs : ShOk s ix) (fs : List Tm) (hl : fs.length < 1073741824) : ∃ v, Ret T 54 [encSh s, .list 5 (List.map encT fs) false] v ∧ IsRFs fs.length v := by
  have hlen := hl
  refine ret_of rfl rfl (by simp) ?_
  simp [fr0]
  refine wk_loop (α := {p : Nat × List RF // p.2.length ≤ p.1 ∧ p.1 ≤ fs.length}) (fun p => [(14, .i .i64 p.1.1), (5, .list 3 (List.map encRF p.1.2) true)]) (fun _ => []) (fun p => fs.length - p.1.1) ⟨(0, []), by simp⟩ (by rfl) (by rfl) ?_
  rintro ⟨⟨j, rs⟩, h1, h2⟩ hl
  dsimp only at h1 h2
  simp
  constructor
  · intro hj
    have hal := allT_len' fs[j]
    have hw := wrap_succ j _ hj hlen
    have hw2 : IntKind.i64.wrap ((j : Int) + (allT fs[j]).1.length) = ((j + (allT fs[j]).1.length : Nat) : Int) := by rw [IntKind.wrap_i64]; omega
    obtain ⟨v, hr, rs', ok, rfl, hok⟩ := t53 s ix hs (allT fs[j]).2 (j + (allT fs[j]).1.length) (by omega)
    cases ok with
    | true =>
      have hc := hl ⟨(j + 1, rs ++ [⟨j, (allT fs[j]).1, rs'⟩]), by simp; omega, hj⟩ (by simp; omega)
      have hlim : rs.length + 1 ≤ limit := lim_le (by omega)
      simp at hc hw hw2 hr
      simp [get_some hj, hw, hw2, wc_ret hr, hlim, encRF_mk, hc]
    | false =>
      have hc := hl ⟨(j + 1, rs), by show rs.length ≤ j + 1; omega, hj⟩ (by simp; omega)
      simp at hc hw hw2 hr
      simp [get_some hj, hw, hw2, wc_ret hr, hc]
  · intro hj
    exact ⟨rs, by simp, by omega⟩
/-- what the analysis of a constructor says -/
def CtOk (s : Sh) (ix : Nat) (c : Ctor) (cf : CF) (ok : Bool) : Prop :=
  ok = true → s.params.length ≤ (allT c.type).1.length ∧ cf.name = c.name ∧ cf.fields = (allT c.type).1.drop s.params.length ∧ ResOk s ix (allT c.type).2 cf.results true
def IsCt (s : Sh) (ix : Nat) (c : Ctor) (v : V) : Prop := ∃ cf ok, v = .tuple [encCF cf, .b ok] ∧ CtOk s ix c cf ok
theorem t33 (s : Sh) (ix : Nat) (hs : ShOk s ix) (c : Ctor) : ∃ v, Ret T 33 [encSh s, encC c] v ∧ IsCt s ix c v := by
  have hp := hs.1
  have hal := allT_len' c.type
  obtain ⟨v, hr, rs', ok, rfl, hok⟩ := t53 s ix hs (allT c.type).2 ((allT c.type).1.length - s.params.length) (by omega)
  obtain ⟨v, hr2, l, rfl, hl⟩ := t54 s ix hs ((allT c.type).1.drop s.params.length) (by simp; omega)
  simp only [List.map_drop] at hr2
  have hbad : IsCt s ix c (.tuple [.agg [.s ⟨#[]⟩, .list 5 [] false, .list 3 [] false, .list 5 [] false], .b false]) := ⟨.zero, false, rfl, fun c => by cases c⟩
  refine ret_of rfl rfl (by simp) ?_
  simp [fr0, hp, wc_ret hr, wc_ret hr2, hal]
  refine ⟨fun _ => hbad, fun hle => ⟨hle, fun _ => hbad, fun _ => ⟨hle, fun _ => hbad, fun he => ?_⟩⟩⟩
  subst he
  exact ⟨⟨c.name, (allT c.type).1.drop s.params.length, l, rs'⟩, true, by simp [encCF_def, -encCF_refold], fun _ => ⟨hle, rfl, rfl, hok⟩⟩
/-- what the analysis of a declaration says -/
def FmOk (d : Decl) (f : Fam) : Prop :=
  d.kind = 3 ∧ 0 ≤ d.fixed ∧ d.fixed.toNat ≤ (allT d.type).1.length ∧ f.name = d.name ∧ f.levels = d.params ∧ f.params = (allT d.type).1.take d.fixed.toNat ∧ f.indices = (allT d.type).1.drop d.fixed.toNat ∧
  f.ctors.length = d.ctors.length ∧ ∀ (i : Nat) (c : Ctor) (cf : CF), d.ctors[i]? = some c → f.ctors[i]? = some cf → ∃ s : Sh, s.params = f.params ∧ CtOk s f.indices.length c cf true
def IsFam2 (d : Decl) (v : V) : Prop := ∃ f e, v = .tuple [encFam f, .i .i64 e] ∧ (e = 0 → FmOk d f)
theorem fam_bad (d : Decl) (e : Int) (he : ¬ e = 0) : IsFam2 d (.tuple [.agg [.s ⟨#[]⟩, .i .i64 0, .list 5 [] false, .list 5 [] false, .i .i64 0, .i .i64 0, .s ⟨#[]⟩, .list 2 [] false, .list 5 [] false, .list 4 [] false], .i .i64 e]) := ⟨.zero, e, rfl, fun c => absurd c he⟩
def CtTo (d : Decl) (s : Sh) (ix : Nat) (j : Nat) (cs : List CF) : Prop := cs.length = j ∧ ∀ (i : Nat) (c : Ctor) (cf : CF), d.ctors[i]? = some c → cs[i]? = some cf → CtOk s ix c cf true
theorem encSh_mk (o : Tm) (p : List Tm) (i : Int) : V.agg [.i .i64 o.kind, .i .i64 o.index, .s o.name, .list 2 (List.map encL o.levels) false, .list 5 (List.map encT o.kids) false, .list 5 (List.map encT p) false, .i .i64 i] = encSh ⟨o, p, i⟩ := rfl
theorem t13 (d : Decl) (hp : 0 ≤ d.params ∧ d.params ≤ 8) : ∃ v, Ret T 13 [encD d] v ∧ IsFam2 d v := by
  have hcl := d.ctors_len
  have hal := allT_len' d.type
  obtain ⟨pn, hpn⟩ : ∃ pn : Nat, d.params = pn := ⟨d.params.toNat, by omega⟩
  have hpl : pn < 1073741824 := by omega
  have h32 := r32 d.name pn hpl
  rw [← hpn] at h32
  refine ret_of rfl rfl (by simp) ?_
  by_cases hk : d.kind = 3
  · have ek : (d.kind = 3) = True := by simp [hk]
    by_cases hf : 0 ≤ d.fixed ∧ d.fixed ≤ (allT d.type).1.length
    · have hf1 : ¬ d.fixed < 0 := by omega
      have hf2 : ¬ ((allT d.type).1.length : Int) < d.fixed := by omega
      have hidx : idx (.i .i64 d.fixed) = some d.fixed.toNat := by simp [idx, hf.1]
      have hle : d.fixed.toNat ≤ (allT d.type).1.length := by omega
      obtain ⟨ps, hps⟩ : ∃ ps, ps = (allT d.type).1.take d.fixed.toNat := ⟨_, rfl⟩
      obtain ⟨is, his⟩ : ∃ is, is = (allT d.type).1.drop d.fixed.toNat := ⟨_, rfl⟩
      have eps : List.take d.fixed.toNat (List.map encT (allT d.type).1) = List.map encT ps := by rw [hps, List.map_take]
      have eis : List.drop d.fixed.toNat (List.map encT (allT d.type).1) = List.map encT is := by rw [his, List.map_drop]
      have hpsl : ps.length < 1073741824 := by rw [hps]; simp; omega
      have hisl : is.length < 1073741824 := by rw [his]; simp; omega
      simp [fr0, ek, hf1, hf2, hidx, hle, eps, eis, wc_ret h32]
      refine ⟨fun _ => ⟨fun _ => fam_bad d 3 (by decide), fun _ => ?_⟩, fun _ => ?_⟩
      all_goals
        refine wk_loop (α := {p : Nat × List CF // CtTo d ⟨selfT d.name pn hpl, ps, is.length⟩ is.length p.1 p.2 ∧ p.1 ≤ d.ctors.length}) (fun p => [(71, .i .i64 p.1.1)]) (fun p => [(6, some [.s d.name, .i .i64 d.params, .list 5 (List.map encT ps) false, .list 5 (List.map encT is) false, .i .i64 (allT d.type).2.kind, .i .i64 (allT d.type).2.index, .s (allT d.type).2.name, .list 2 (List.map encL (allT d.type).2.levels) false, .list 5 (List.map encT (allT d.type).2.kids) false, .list 4 (List.map encCF p.1.2) true])]) (fun p => d.ctors.length - p.1.1) ⟨(0, []), ⟨rfl, by simp⟩, by simp⟩ (by rfl) (by rfl) ?_
        rintro ⟨⟨j, cs⟩, ⟨hcs, hct⟩, hjl⟩ hl
        dsimp only at hcs hct hjl
        simp
        constructor
        · intro hj
          have hw := wrap_succ j _ hj (by simp)
          obtain ⟨v, hr, cf, ok, rfl, hok⟩ := t33 ⟨selfT d.name pn hpl, ps, is.length⟩ is.length ⟨hpsl, rfl, hisl⟩ d.ctors[j]
          cases ok with
          | true =>
            have hlim : cs.length + 1 ≤ limit := lim_le (by omega)
            have hc := hl ⟨(j + 1, cs ++ [cf]), ⟨by simp [hcs], fun i c cf' h1 h2 => by
              by_cases e : i < j
              · rw [List.getElem?_append_left (by omega)] at h2
                exact hct i c cf' h1 h2
              · have : i = j := by
                  have := (List.getElem?_eq_some_iff.1 h2).1
                  simp at this; omega
                subst this
                rw [List.getElem?_append_right (by omega)] at h2
                rw [get_some hj] at h1
                simp [hcs] at h2
                cases h1; subst h2; exact hok⟩, hj⟩ (by simp; omega)
            simp at hc hw
            simp [get_some hj, hw, encSh_mk, wc_ret hr, hlim, hc]
          | false =>
            simp [get_some hj, encSh_mk, wc_ret hr]
            exact fam_bad d 3 (by decide)
        · intro hj
          have hjn : j = d.ctors.length := by omega
          refine ⟨⟨d.name, d.params, ps, is, (allT d.type).2, cs⟩, 0, by simp [encFam_def, -encFam_refold], fun _ => ?_⟩
          refine ⟨hk, hf.1, hle, rfl, rfl, hps, his, by rw [hcs, hjn], fun i c cf h1 h2 => ⟨_, rfl, hct i c cf h1 h2⟩⟩
    · have hf' : d.fixed < 0 ∨ (¬ d.fixed < 0 ∧ ((allT d.type).1.length : Int) < d.fixed) := by omega
      rcases hf' with hf1 | ⟨hf1, hf2⟩
      · simp [fr0, ek, hf1]
        exact fam_bad d 3 (by decide)
      · simp [fr0, ek, hf1, hf2]
        exact fam_bad d 3 (by decide)
  · simp [fr0, hk]
    exact fam_bad d 1 (by decide)
end Go.Iv.Ir
