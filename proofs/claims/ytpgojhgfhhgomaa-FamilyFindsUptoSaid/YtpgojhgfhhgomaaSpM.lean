/- What the guard Good says more: the terms are small, the numbers of level parameters are, and each name is declared once. No conditions. -/
import Derived.Test.YtpgojhgfhhgomaaSpJ
namespace Go.Iv.Ir
open Go.Iv
set_option maxRecDepth 100000
set_option linter.unusedVariables false
set_option linter.unusedSimpArgs false
attribute [local irreducible] limit
variable {K : List Kt} {F : Fr} {H : Hp} {Q : QQ} {ops : List Ins} {keep : List Nat} {dr : Bool} {dd : Option Nat}
theorem drop_sum {α : Type} (m : α → Nat) {l : List α} {j : Nat} (h : j < l.length) : ((l.drop j).map m).sum = m l[j] + ((l.drop (j + 1)).map m).sum := by
  rw [List.drop_eq_getElem_cons h, List.map_cons, List.sum_cons]
theorem x19 : ∀ t : Tm, ∃ v, Ret T 19 [encT t] v ∧ Eqv (.i .i64 t.sz) v := by
  refine Tm.ind fun t ih => ?_
  refine ret_of rfl rfl (by simp) ?_
  simp [fr0]
  refine wk_loop (α := {p : Nat × Nat // p.1 ≤ t.kids.length ∧ p.2 + ((t.kids.drop p.1).map Tm.sz).sum = t.sz}) (fun a => [(4, .i .i64 a.1.1), (3, .i .i64 a.1.2)]) (fun _ => []) (fun a => t.kids.length - a.1.1) ⟨(0, 1), by simp [t.sz_kids]⟩ (by rfl) (by rfl) ?_
  rintro ⟨⟨j, n⟩, hle, hs⟩ hl
  dsimp only at hle hs
  simp
  constructor
  · intro hj
    have hd := drop_sum Tm.sz hj
    have ht := t.sz_lt
    have hc := hl ⟨(j + 1, n + t.kids[j].sz), hj, by simp only []; omega⟩ (by simp; omega)
    have hw := wrap_succ j _ hj (by simp)
    have hw2 : IntKind.i64.wrap ((n : Int) + t.kids[j].sz) = ((n + t.kids[j].sz : Nat) : Int) := by rw [IntKind.wrap_i64]; omega
    simp at hc hw hw2
    obtain ⟨v, hr, rfl⟩ := ih t.kids[j] (by simp)
    simp [get_some hj, wc_ret hr, hw, hw2, hc]
  · intro hj
    have : t.kids.drop j = [] := List.drop_eq_nil_of_le hj
    simp [this] at hs
    omega
theorem g19_eq (t : Tm) : g19 t = t.sz := by
  obtain ⟨v, h, rfl⟩ := x19 t
  have := ret_eq h (r19 t)
  simp at this; omega
def IsP (p : Prop) (v : V) : Prop := ∃ b, v = .b b ∧ (b = true → p)
@[simp] theorem isP_b (p : Prop) (b : Bool) : IsP p (.b b) ↔ (b = true → p) := by
  constructor
  · rintro ⟨b, h, h2⟩; cases h; exact h2
  · intro h; exact ⟨b, rfl, h⟩
theorem x56 (t : Tm) : ∃ v, Ret T 56 [encT t] v ∧ IsP (t.sz ≤ 400) v := by
  refine ret_of rfl rfl (by simp) ?_
  simp [fr0, g19_eq]
  omega
theorem g56_sz {t : Tm} (h : g56 t = true) : t.sz ≤ 400 := by
  obtain ⟨v, h1, b, rfl, h2⟩ := x56 t
  have := ret_eq h1 (r56 t)
  simp at this; exact h2 (by rw [this]; exact h)
/-- the terms of a declaration that we look at are small -/
def SmD (d : Decl) : Prop := d.type.sz ≤ 400 ∧ ∀ (i : Nat) (c : Ctor), d.ctors[i]? = some c → c.type.sz ≤ 400
def SmC (d : Decl) (j : Nat) : Prop := ∀ (i : Nat) (c : Ctor), i < j → d.ctors[i]? = some c → c.type.sz ≤ 400
theorem x38 (a : Decl) : ∃ v, Ret T 38 [encD a] v ∧ IsP (SmD a) v := by
  refine ret_of rfl rfl (by simp) ?_
  simp [fr0]
  intro h1 h2 h3 h4 h5 h6 h7
  refine wk_loop (α := {j : Nat // SmC a j}) (fun j => [(3, .i .i64 j.1)]) (fun _ => []) (fun j => a.ctors.length - j.1) ⟨0, fun i c h => by omega⟩ (by rfl) (by rfl) ?_
  rintro ⟨j, hsm⟩ hl
  simp
  constructor
  · intro hj
    have hw := wrap_succ j _ hj (by simp)
    simp at hw
    cases hg : g56 a.ctors[j].type with
    | true =>
      have hc := hl ⟨j + 1, fun i c hi hx => by
        by_cases e : i = j
        · subst e; rw [get_some hj] at hx; cases hx; exact g56_sz hg
        · exact hsm i c (by omega) hx⟩ (by simp; omega)
      simp at hc
      simp [get_some hj, hw, hc, hg]
    | false => simp [get_some hj, hw, hg]
  · intro hj
    have hsd : SmD a := ⟨g56_sz h2, fun i c hx => hsm i c (by have := (List.getElem?_eq_some_iff.1 hx).1; omega) hx⟩
    clear hl hj
    refine wk_loop (fun (j : Nat) => [(4, .i .i64 j)]) (fun _ => []) (fun j => a.recur.rules.length - j) 0 (by rfl) (by rfl) ?_
    intro j hl
    simp
    constructor
    · intro hj
      have hc := hl (j + 1) (by omega)
      have hw := wrap_succ j _ hj (by simp)
      simp at hc hw
      simp [get_some hj, hw, hc]
    · intro hj
      clear hl hj
      refine wk_loop (fun (j : Nat) => [(5, .i .i64 j)]) (fun _ => []) (fun j => a.funs.length - j) 0 (by rfl) (by rfl) ?_
      intro j hl
      simp
      constructor
      · intro hj
        have hc := hl (j + 1) (by omega)
        have hw := wrap_succ j _ hj (by simp)
        simp at hc hw
        simp [get_some hj, hw, hc]
      · intro hj; exact hsd
theorem g38_sm {a : Decl} (h : g38 a = true) : SmD a := by
  obtain ⟨v, h1, b, rfl, h2⟩ := x38 a
  have := ret_eq h1 (r38 a)
  simp at this; exact h2 (by rw [this]; exact h)
def SmTo (env : List Decl) (j : Nat) : Prop := ∀ (i : Nat) (d : Decl), i < j → env[i]? = some d → SmD d
def Sml (env : List Decl) : Prop := ∀ d ∈ env, SmD d
theorem x17 (a : List Decl) (ha : a.length < 1073741824) : ∃ v, Ret T 17 [.list 23 (List.map encD a) false] v ∧ IsP (Sml a) v := by
  refine ret_of rfl rfl (by simp) ?_
  simp [fr0]
  refine wk_loop (α := {j : Nat // SmTo a j}) (fun j => [(3, .i .i64 j.1)]) (fun _ => []) (fun j => a.length - j.1) ⟨0, fun i c h => by omega⟩ (by rfl) (by rfl) ?_
  rintro ⟨j, hsm⟩ hl
  simp
  constructor
  · intro hj
    constructor
    · intro h80
      have hw := wrap_succ j _ hj ha
      simp at hw
      cases hg : g38 a[j] with
      | true =>
        have hc := hl ⟨j + 1, fun i c hi hx => by
          by_cases e : i = j
          · subst e; rw [get_some hj] at hx; cases hx; exact g38_sm hg
          · exact hsm i c (by omega) hx⟩ (by simp; omega)
        simp at hc
        simp [get_some hj, hw, hc, hg]
      | false => simp [get_some hj, hw, hg]
    · intro h80 h70
      exfalso; omega
  · intro hj h70 d hd
    obtain ⟨i, hi⟩ := List.mem_iff_getElem?.1 hd
    exact hsm i d (by have := (List.getElem?_eq_some_iff.1 hi).1; omega) hi
/-- a declaration's names are not declared before -/
def NewN (env : List Decl) (d : Decl) : Prop := ∀ nm ∈ namesD d, ¬ (findR env nm).2 = 0
def NewTo (env : List Decl) (d : Decl) (j : Nat) : Prop := ∀ (i : Nat) (nm : ByteArray), i < j → (namesD d)[i]? = some nm → ¬ (findR env nm).2 = 0
def IsQ (p : Prop) (v : V) : Prop := ∃ e, v = .i .i64 e ∧ (e = 0 → p)
@[simp] theorem isQ_i (p : Prop) (e : Int) : IsQ p (.i .i64 e) ↔ (e = 0 → p) := by
  constructor
  · rintro ⟨b, h, h2⟩; cases h; exact h2
  · intro h; exact ⟨e, rfl, h⟩
theorem x60 (env : List Decl) (he : env.length < 1073741824) (d : Decl) : ∃ v, Ret T 60 [.list 23 (List.map encD env) false, encD d] v ∧ IsQ (NewN env d) v := by
  have hn := namesD_len d
  have hn' : (namesD d).length < 2000000000 := by omega
  refine ret_of rfl rfl (by simp) ?_
  simp [fr0]
  refine wk_loop (α := {j : Nat // NewTo env d j}) (fun j => [(6, .i .i64 j.1)]) (fun _ => []) (fun j => (namesD d).length - j.1) ⟨0, fun i c h => by omega⟩ (by rfl) (by rfl) ?_
  rintro ⟨j, hnw⟩ hl
  simp
  constructor
  · intro hj
    have hw := wrap_succ' j _ hj hn'
    simp at hw
    have hj' : j ≤ (namesD d).length := by omega
    by_cases hf : (findR env (namesD d)[j]).2 = 0
    · simp [get_some hj, hw, he, hn', hj', hf]
    · have hc := hl ⟨j + 1, fun i c hi hx => by
        by_cases e : i = j
        · subst e; rw [get_some hj] at hx; cases hx; exact hf
        · exact hnw i c (by omega) hx⟩ (by simp; omega)
      simp at hc
      simp [get_some hj, hw, hc, he, hn', hj', hf]
  · intro hj nm hm
    obtain ⟨i, hi⟩ := List.mem_iff_getElem?.1 hm
    exact hnw i nm (by have := (List.getElem?_eq_some_iff.1 hi).1; omega) hi
theorem g60_new {env : List Decl} (he : env.length < 1073741824) {d : Decl} (h : g60 env d = 0) : NewN env d := by
  obtain ⟨v, h1, b, rfl, h2⟩ := x60 env he d
  have h3 := ex_i (t60 env he d)
  have : g60 env d = h3.choose := by unfold g60; rw [dif_pos h3]
  have := ret_eq h1 h3.choose_spec
  simp at this; exact h2 (by omega)
theorem x59 (a : Decl) : ∃ v, Ret T 59 [encD a] v ∧ IsQ (0 ≤ a.params ∧ a.params ≤ 8 ∧ 0 ≤ a.fixed) v := by
  refine ret_of rfl rfl (by simp) ?_
  simp [fr0]
  intro h1 h2 h3 h4
  have hq : 0 ≤ a.params ∧ a.params ≤ 8 ∧ 0 ≤ a.fixed := ⟨h1, h2, h3⟩
  generalize (0 ≤ a.params ∧ a.params ≤ 8 ∧ 0 ≤ a.fixed) = q at hq ⊢
  refine ⟨fun _ _ _ => ?_, fun _ => ?_⟩
  all_goals
    refine wk_loop (fun (j : Nat) => [(3, .i .i64 j)]) (fun _ => []) (fun j => a.funs.length - j) 0 (by rfl) (by rfl) ?_
    intro j hl
    simp
    constructor
    · intro hj
      have hc := hl (j + 1) (by omega)
      have hw := wrap_succ j _ hj (by simp)
      simp at hc hw
      simp [get_some hj, hw, hc]
    · intro hj
      simp [hq]
theorem g59_q {a : Decl} (h : g59 a = 0) : 0 ≤ a.params ∧ a.params ≤ 8 ∧ 0 ≤ a.fixed := by
  obtain ⟨v, h1, b, rfl, h2⟩ := x59 a
  have := ret_eq h1 (r59 a)
  simp at this; exact h2 (by omega)
/-- what the check of a declaration says -/
def OkD (env : List Decl) (d : Decl) : Prop := 0 ≤ d.params ∧ d.params ≤ 8 ∧ 0 ≤ d.fixed ∧ NewN env d
theorem x39 (env : List Decl) (he : env.length < 1073741824) (d : Decl) : ∃ v, Ret T 39 [.list 23 (List.map encD env) false, encD d] v ∧ IsQ (OkD env d) v := by
  refine ret_of rfl rfl (by simp) ?_
  simp [fr0, he]
  intro _ _ _
  refine ⟨fun a b => absurd b a, fun h => ⟨fun a b => absurd b a, fun h2 _ => ?_⟩⟩
  have := g59_q h
  exact ⟨this.1, this.2.1, this.2.2, g60_new he h2⟩
theorem g39_ok {env : List Decl} (he : env.length < 1073741824) {d : Decl} (h : g39 env d = 0) : OkD env d := by
  obtain ⟨v, h1, e, rfl, h2⟩ := x39 env he d
  have := ret_eq h1 (r39 env he d)
  simp at this
  exact h2 (by omega)
def OkTo (env : List Decl) (j : Nat) : Prop := ∀ (i : Nat) (d : Decl), i < j → env[i]? = some d → OkD (env.take i) d
def OkAll (env : List Decl) : Prop := ∀ (i : Nat) (d : Decl), env[i]? = some d → OkD (env.take i) d
def IsC2 (env : List Decl) (v : V) : Prop := ∃ a e, v = .tuple [.i .i64 a, .i .i64 e] ∧ (e = 0 → OkAll env)
@[simp] theorem isC2_t (env : List Decl) (a e : Int) : IsC2 env (.tuple [.i .i64 a, .i .i64 e]) ↔ (e = 0 → OkAll env) := by
  constructor
  · rintro ⟨a, e, h, h2⟩; cases h; exact h2
  · intro h; exact ⟨a, e, rfl, h⟩
theorem x18 (env : List Decl) (he : env.length < 1073741824) : ∃ v, Ret T 18 [.list 23 (List.map encD env) false] v ∧ IsC2 env v := by
  have hlen := he
  refine ret_of rfl rfl (by simp) ?_
  simp [fr0]
  intro _
  refine wk_loop (α := {j : Nat // OkTo env j}) (fun j => [(4, .i .i64 j.1)]) (fun _ => []) (fun j => env.length - j.1) ⟨0, fun i d h => by omega⟩ (by rfl) (by rfl) ?_
  rintro ⟨j, hf⟩ hl
  simp
  constructor
  · intro hj
    have hw := wrap_succ j _ hj hlen
    simp at hw
    have hj' : j ≤ env.length := by omega
    by_cases h0 : g39 (env.take j) env[j] = 0
    · have hc := hl ⟨j + 1, fun i d hi hd => by
        by_cases e : i = j
        · subst e; rw [get_some hj] at hd; cases hd; exact g39_ok (by simp; omega) h0
        · exact hf i d (by omega) hd⟩ (by simp; omega)
      simp at hc
      simp [get_some hj, hw, hc, he, hj', h0]
    · simp [get_some hj, hw, he, hj', h0]
  · intro hj i d hi
    exact hf i d (by have := (List.getElem?_eq_some_iff.1 hi).1; omega) hi
/-- what Good says of a list of declarations -/
def GoodE (env : List Decl) : Prop := Sml env ∧ OkAll env
theorem x5 (env : List Decl) (he : env.length < 1073741824) : ∃ v, Ret T 5 [.list 23 (List.map encD env) false] v ∧ IsP (GoodE env) v := by
  obtain ⟨v, h17, b, rfl, hb⟩ := x17 env he
  obtain ⟨v, h18, a, e, rfl, hf⟩ := x18 env he
  refine ret_of rfl rfl (by simp) ?_
  simp [fr0, wc_ret h17, wc_ret h18]
  exact fun h1 h2 => ⟨hb h1, hf h2⟩
end Go.Iv.Ir
