/- What the taking apart of a product type returns, and what the checks of declarations return. No conditions. -/
import Derived.Test.YtpgojhgfhhgomaaSpD
namespace Go.Iv.Ir
open Go.Iv
set_option maxRecDepth 100000
set_option linter.unusedVariables false
set_option linter.unusedSimpArgs false
attribute [local irreducible] limit
variable {K : List Kt} {F : Fr} {H : Hp} {Q : QQ} {ops : List Ins} {keep : List Nat} {dr : Bool} {dd : Option Nat}
/-- the telescope of a product type, and its end -/
def allT (t : Tm) : List Tm × Tm :=
  if h : t.kind = 6 ∧ t.kids.length = 2 then
    have : t.kids[1].sz < t.sz := Tm.kid_sz (by simp)
    (t.kids[0] :: (allT t.kids[1]).1, (allT t.kids[1]).2)
  else ([], t)
termination_by t.sz
theorem allT_pi {t : Tm} (h : t.kind = 6) (h2 : t.kids.length = 2) : allT t = (t.kids[0] :: (allT t.kids[1]).1, (allT t.kids[1]).2) := by
  rw [allT]; simp [h, h2]
theorem allT_no {t : Tm} (h : ¬ (t.kind = 6 ∧ t.kids.length = 2)) : allT t = ([], t) := by
  rw [allT, dif_neg h]
theorem allT_len : ∀ t : Tm, (allT t).1.length < t.sz := by
  refine Tm.ind fun t ih => ?_
  by_cases h : t.kind = 6 ∧ t.kids.length = 2
  · rw [allT_pi h.1 h.2]
    have := ih t.kids[1] (by simp)
    have h2 : t.kids[1].sz < t.sz := Tm.kid_sz (by simp)
    simp; omega
  · rw [allT_no h]; have := t.sz_pos; simp; omega
theorem allT_len' (t : Tm) : (allT t).1.length < 1073741824 := Nat.lt_trans (allT_len t) t.sz_lt
def IsAll (t : Tm) (v : V) : Prop := v = .tuple [.list 5 (List.map encT (allT t).1) false, encT (allT t).2]
theorem t28 (t : Tm) : ∃ v, Ret T 28 [encT t] v ∧ IsAll t v := by
  refine ret_of rfl rfl (by simp) ?_
  simp [fr0]
  refine wk_loop (α := {p : Tm × List Tm // p.2 ++ (allT p.1).1 = (allT t).1 ∧ (allT p.1).2 = (allT t).2}) (fun p => [(4, .list 5 (List.map encT p.1.2) true)]) (fun p => [(1, some (encT p.1.1).cells)]) (fun p => p.1.1.sz) ⟨(t, []), by simp⟩ (by rfl) (by simp) ?_
  rintro ⟨⟨u, xs⟩, h1, h2⟩ hl
  dsimp only at h1 h2
  have hxl : xs.length < 1073741824 := by
    have := congrArg List.length h1
    have := allT_len' t
    simp at *; omega
  simp
  by_cases hk : u.kind = 6
  · by_cases hd : u.kids.length = 2
    · have hu := allT_pi hk hd
      have h0 : 0 < u.kids.length := by omega
      have h1' : 1 < u.kids.length := by omega
      have hc := hl ⟨(u.kids[1], xs ++ [u.kids[0]]), by rw [hu] at h1 h2; simpa using ⟨h1, h2⟩⟩ (Tm.kid_sz (by simp))
      simp at hc
      simp [hk, hd, get_some h0, get_some h1', hc]
      apply lim_le; omega
    · have hu := allT_no (t := u) (by omega)
      have hd' : ¬ (u.kids.length : Int) = 2 := by omega
      rw [hu] at h1 h2
      simp at h1 h2
      simp [hk, hd', IsAll, ← h1, ← h2]
  · have hu := allT_no (t := u) (by omega)
    rw [hu] at h1 h2
    simp at h1 h2
    simp [hk, IsAll, ← h1, ← h2]
theorem r28 (t : Tm) : Ret T 28 [encT t] (.tuple [.list 5 (List.map encT (allT t).1) false, encT (allT t).2]) := by
  obtain ⟨v, h, rfl⟩ := t28 t
  exact h
@[simp] theorem c28 (t : Tm) : WC T (.fn 28) [encT t] dd ops keep dr K F H Q ↔ WO T ops keep dr K (F.put dd (.tuple [.list 5 (List.map encT (allT t).1) false, encT (allT t).2])) H Q := wc_ret (r28 t)
theorem t15 (t : Tm) : ∃ v, Ret T 15 [encT t] v ∧ IsAll t v := by
  refine ret_of rfl rfl (by simp) ?_
  simp [fr0]
  refine wk_loop (α := {p : Tm × List Tm // p.2 ++ (allT p.1).1 = (allT t).1 ∧ (allT p.1).2 = (allT t).2}) (fun p => [(4, .list 5 (List.map encT p.1.2) true)]) (fun p => [(1, some (encT p.1.1).cells)]) (fun p => p.1.1.sz) ⟨(t, []), by simp⟩ (by rfl) (by simp) ?_
  rintro ⟨⟨u, xs⟩, h1, h2⟩ hl
  dsimp only at h1 h2
  have hxl : xs.length < 1073741824 := by
    have := congrArg List.length h1
    have := allT_len' t
    simp at *; omega
  simp
  by_cases hk : u.kind = 6
  · by_cases hd : u.kids.length = 2
    · have hu := allT_pi hk hd
      have h0 : 0 < u.kids.length := by omega
      have h1' : 1 < u.kids.length := by omega
      have hc := hl ⟨(u.kids[1], xs ++ [u.kids[0]]), by rw [hu] at h1 h2; simpa using ⟨h1, h2⟩⟩ (Tm.kid_sz (by simp))
      simp at hc
      simp [hk, hd, get_some h0, get_some h1', hc]
      apply lim_le; omega
    · have hu := allT_no (t := u) (by omega)
      have hd' : ¬ (u.kids.length : Int) = 2 := by omega
      rw [hu] at h1 h2
      simp at h1 h2
      simp [hk, hd', IsAll, ← h1, ← h2]
  · have hu := allT_no (t := u) (by omega)
    rw [hu] at h1 h2
    simp at h1 h2
    simp [hk, IsAll, ← h1, ← h2]
theorem r15 (t : Tm) : Ret T 15 [encT t] (.tuple [.list 5 (List.map encT (allT t).1) false, encT (allT t).2]) := by
  obtain ⟨v, h, rfl⟩ := t15 t
  exact h
@[simp] theorem c15 (t : Tm) : WC T (.fn 15) [encT t] dd ops keep dr K F H Q ↔ WO T ops keep dr K (F.put dd (.tuple [.list 5 (List.map encT (allT t).1) false, encT (allT t).2])) H Q := wc_ret (r15 t)
theorem t85 (d : Decl) (k : Nat) (hk : k < d.ctors.length) : ∃ v, Ret T 85 [encD d, .i .i64 k] v ∧ IsI v := by
  refine ret_of rfl rfl (by simp) ?_
  simp [fr0, get_some hk]
open Classical in
noncomputable def g85 (d : Decl) (k : Nat) : Int := if h : ∃ e, Ret T 85 [encD d, .i .i64 k] (.i .i64 e) then h.choose else 0
@[simp] theorem c85 (d : Decl) (k : Nat) (hk : k < d.ctors.length) : WC T (.fn 85) [encD d, .i .i64 k] dd ops keep dr K F H Q ↔ WO T ops keep dr K (F.put dd (.i .i64 (g85 d k))) H Q := by
  apply wc_ret
  have h := ex_i (t85 d k hk)
  unfold g85; rw [dif_pos h]; exact h.choose_spec
/-- a scope whose lists fit -/
def ScOk (s : Scope) : Prop := s.env.length < 1073741824 ∧ s.own.length < 2000000000
theorem t84 (s : Scope) (hs : ScOk s) : ∀ t : Tm, ∃ v, Ret T 84 [encSc s, encT t] v ∧ IsI v := by
  obtain ⟨he, ho⟩ := hs
  refine Tm.ind fun t ih => ?_
  refine ret_of rfl rfl (by simp) ?_
  simp [fr0, he, ho]
  repeat' (first | (intro _) | (refine And.intro ?_ ?_))
  all_goals
    refine wk_loop (fun (j : Nat) => [(7, .i .i64 j)]) (fun _ => []) (fun j => t.kids.length - j) 0 (by rfl) (by rfl) ?_
    intro j hl
    simp
    intro hj
    have hc := hl (j + 1) (by omega)
    have hw := wrap_succ j _ hj (by simp)
    simp at hc hw
    obtain ⟨v, hr, e, rfl⟩ := ih t.kids[j] (by simp)
    simp [get_some hj, hw, hc, wc_ret hr]
open Classical in
noncomputable def g84 (s : Scope) (t : Tm) : Int := if h : ∃ e, Ret T 84 [encSc s, encT t] (.i .i64 e) then h.choose else 0
@[simp] theorem c84 (s : Scope) (t : Tm) (hs : ScOk s) : WC T (.fn 84) [encSc s, encT t] dd ops keep dr K F H Q ↔ WO T ops keep dr K (F.put dd (.i .i64 (g84 s t))) H Q := by
  apply wc_ret
  have h := ex_i (t84 s hs t)
  unfold g84; rw [dif_pos h]; exact h.choose_spec
theorem t77 (s : Scope) (hs : ScOk s) (t : Tm) (a b : Int) : ∃ v, Ret T 77 [encSc s, encT t, .i .i64 a, .i .i64 b] v ∧ IsI v := by
  refine ret_of rfl rfl (by simp) ?_
  simp [fr0, hs]
open Classical in
noncomputable def g77 (s : Scope) (t : Tm) (a b : Int) : Int := if h : ∃ e, Ret T 77 [encSc s, encT t, .i .i64 a, .i .i64 b] (.i .i64 e) then h.choose else 0
@[simp] theorem c77 (s : Scope) (t : Tm) (a b : Int) (hs : ScOk s) : WC T (.fn 77) [encSc s, encT t, .i .i64 a, .i .i64 b] dd ops keep dr K F H Q ↔ WO T ops keep dr K (F.put dd (.i .i64 (g77 s t a b))) H Q := by
  apply wc_ret
  have h := ex_i (t77 s hs t a b)
  unfold g77; rw [dif_pos h]; exact h.choose_spec
theorem t78 (s : Scope) (hs : ScOk s) : ∀ (t : Tre) (a b : Int), ∃ v, Ret T 78 [encSc s, encTr t, .i .i64 a, .i .i64 b] v ∧ IsI v := by
  have he := hs.1
  refine Tre.ind fun t ih => ?_
  intro a b
  refine ret_of rfl rfl (by simp) ?_
  by_cases h0 : t.kind = 0
  · simp [fr0, hs, h0]
  by_cases h1 : t.kind = 1
  · simp [fr0, hs, h1]
    intro h2 h3 h4 h5 h6
    refine wk_loop (fun (j : Nat) => [(9, .i .i64 j)]) (fun _ => []) (fun j => t.branches.length - j) 0 (by rfl) (by rfl) ?_
    intro j hl
    simp
    intro hj
    have hc := hl (j + 1) (by omega)
    have hw := wrap_succ j _ hj (by simp)
    simp at hc hw
    by_cases hf : (findR s.env t.branches[j].ctor).2 = 0
    · by_cases hk : (findR s.env t.branches[j].ctor).1.kind = 4
      · obtain ⟨i, d, hi, hd, h4, _⟩ := findR_facts hf
        obtain ⟨k, hk1, hk2⟩ := h4 hk
        obtain ⟨v, hr, e, rfl⟩ := ih t.branches[j] (by simp) (IntKind.i64.wrap (a + g85 d k)) (IntKind.i64.wrap (b + 1))
        cases hb : t.branches[j].absurd with
        | true => simp [get_some hj, hw, hc, wc_ret hr, he, hf, hk, hd, hi, hk1, hk2, hb]
        | false => simp [get_some hj, hw, hc, wc_ret hr, he, hf, hk, hd, hi, hk1, hk2, hb]
      · simp [get_some hj, hw, hc, he, hf, hk]
    · simp [get_some hj, hw, hc, he, hf]
  · simp [fr0, hs, h0, h1]
open Classical in
noncomputable def g78 (s : Scope) (t : Tre) (a b : Int) : Int := if h : ∃ e, Ret T 78 [encSc s, encTr t, .i .i64 a, .i .i64 b] (.i .i64 e) then h.choose else 0
@[simp] theorem c78 (s : Scope) (t : Tre) (a b : Int) (hs : ScOk s) : WC T (.fn 78) [encSc s, encTr t, .i .i64 a, .i .i64 b] dd ops keep dr K F H Q ↔ WO T ops keep dr K (F.put dd (.i .i64 (g78 s t a b))) H Q := by
  apply wc_ret
  have h := ex_i (t78 s hs t a b)
  unfold g78; rw [dif_pos h]; exact h.choose_spec
@[simp] theorem c76t (xs : List ByteArray) (j : Nat) (hl : xs.length < 2000000000) (b : ByteArray) : WC T (.fn 76) [.list 1 (List.take j (List.map V.s xs)) false, .s b] dd ops keep dr K F H Q ↔ WO T ops keep dr K (F.put dd (.b (g76 (xs.take j) b))) H Q := by
  rw [← List.map_take]
  exact c76 (xs.take j) (by simp; omega) b
theorem t60 (env : List Decl) (he : env.length < 1073741824) (d : Decl) : ∃ v, Ret T 60 [.list 23 (List.map encD env) false, encD d] v ∧ IsI v := by
  have hn := namesD_len d
  have hn' : (namesD d).length < 2000000000 := by omega
  refine ret_of rfl rfl (by simp) ?_
  simp [fr0]
  refine wk_loop (fun (j : Nat) => [(6, .i .i64 j)]) (fun _ => []) (fun j => (namesD d).length - j) 0 (by rfl) (by rfl) ?_
  intro j hl
  simp
  intro hj
  have hc := hl (j + 1) (by omega)
  have hw := wrap_succ' j _ hj hn'
  simp at hc hw
  have hj' : j ≤ (namesD d).length := by omega
  simp [get_some hj, hw, hc, he, hn', hj']
open Classical in
noncomputable def g60 (env : List Decl) (d : Decl) : Int := if h : ∃ e, Ret T 60 [.list 23 (List.map encD env) false, encD d] (.i .i64 e) then h.choose else 0
@[simp] theorem c60 (env : List Decl) (he : env.length < 1073741824) (d : Decl) : WC T (.fn 60) [.list 23 (List.map encD env) false, encD d] dd ops keep dr K F H Q ↔ WO T ops keep dr K (F.put dd (.i .i64 (g60 env d))) H Q := by
  apply wc_ret
  have h := ex_i (t60 env he d)
  unfold g60; rw [dif_pos h]; exact h.choose_spec
@[simp] theorem sc0 (env : List Decl)  (d : Decl) : V.agg [.list 23 (List.map encD env) false, .list 1 [] false, .i .i64 d.kind, .s d.name, .i .i64 d.params, .i .i64 d.type.kind, .i .i64 d.type.index, .s d.type.name, .list 2 (List.map encL d.type.levels) false, .list 5 (List.map encT d.type.kids) false, .i .i64 d.value.kind, .i .i64 d.value.index, .s d.value.name, .list 2 (List.map encL d.value.levels) false, .list 5 (List.map encT d.value.kids) false, .i .i64 d.fixed, .list 6 (List.map encC d.ctors) false, .i .i64 d.recur.params, .i .i64 d.recur.type.kind, .i .i64 d.recur.type.index, .s d.recur.type.name, .list 2 (List.map encL d.recur.type.levels) false, .list 5 (List.map encT d.recur.type.kids) false, .list 5 (List.map encT d.recur.rules) false, .list 15 (List.map encF d.funs) false] = encSc ⟨env, [], d⟩ := rfl
@[simp] theorem sc1 (env : List Decl) (n : ByteArray) (d : Decl) : V.agg [.list 23 (List.map encD env) false, .list 1 [.s n] false, .i .i64 d.kind, .s d.name, .i .i64 d.params, .i .i64 d.type.kind, .i .i64 d.type.index, .s d.type.name, .list 2 (List.map encL d.type.levels) false, .list 5 (List.map encT d.type.kids) false, .i .i64 d.value.kind, .i .i64 d.value.index, .s d.value.name, .list 2 (List.map encL d.value.levels) false, .list 5 (List.map encT d.value.kids) false, .i .i64 d.fixed, .list 6 (List.map encC d.ctors) false, .i .i64 d.recur.params, .i .i64 d.recur.type.kind, .i .i64 d.recur.type.index, .s d.recur.type.name, .list 2 (List.map encL d.recur.type.levels) false, .list 5 (List.map encT d.recur.type.kids) false, .list 5 (List.map encT d.recur.rules) false, .list 15 (List.map encF d.funs) false] = encSc ⟨env, [n], d⟩ := rfl
@[simp] theorem scN (env : List Decl) (l : List ByteArray) (d : Decl) : V.agg [.list 23 (List.map encD env) false, .list 1 (List.map V.s l) false, .i .i64 d.kind, .s d.name, .i .i64 d.params, .i .i64 d.type.kind, .i .i64 d.type.index, .s d.type.name, .list 2 (List.map encL d.type.levels) false, .list 5 (List.map encT d.type.kids) false, .i .i64 d.value.kind, .i .i64 d.value.index, .s d.value.name, .list 2 (List.map encL d.value.levels) false, .list 5 (List.map encT d.value.kids) false, .i .i64 d.fixed, .list 6 (List.map encC d.ctors) false, .i .i64 d.recur.params, .i .i64 d.recur.type.kind, .i .i64 d.recur.type.index, .s d.recur.type.name, .list 2 (List.map encL d.recur.type.levels) false, .list 5 (List.map encT d.recur.type.kids) false, .list 5 (List.map encT d.recur.rules) false, .list 15 (List.map encF d.funs) false] = encSc ⟨env, l, d⟩ := rfl
@[simp] theorem scT (env : List Decl) (l : List ByteArray) (j : Nat) (d : Decl) : V.agg [.list 23 (List.map encD env) false, .list 1 (List.take j (List.map V.s l)) false, .i .i64 d.kind, .s d.name, .i .i64 d.params, .i .i64 d.type.kind, .i .i64 d.type.index, .s d.type.name, .list 2 (List.map encL d.type.levels) false, .list 5 (List.map encT d.type.kids) false, .i .i64 d.value.kind, .i .i64 d.value.index, .s d.value.name, .list 2 (List.map encL d.value.levels) false, .list 5 (List.map encT d.value.kids) false, .i .i64 d.fixed, .list 6 (List.map encC d.ctors) false, .i .i64 d.recur.params, .i .i64 d.recur.type.kind, .i .i64 d.recur.type.index, .s d.recur.type.name, .list 2 (List.map encL d.recur.type.levels) false, .list 5 (List.map encT d.recur.type.kids) false, .list 5 (List.map encT d.recur.rules) false, .list 15 (List.map encF d.funs) false] = encSc ⟨env, (l.take j), d⟩ := by rw [← List.map_take]; rfl
@[simp] theorem scOk_iff (env : List Decl) (own : List ByteArray) (d : Decl) : ScOk ⟨env, own, d⟩ ↔ env.length < 1073741824 ∧ own.length < 2000000000 := Iff.rfl
theorem t61 (env : List Decl) (he : env.length < 1073741824) (d : Decl) : ∃ v, Ret T 61 [.list 23 (List.map encD env) false, encD d] v ∧ IsI v := by
  have hn := namesD_len d
  have hn' : (namesD d).length < 2000000000 := by omega
  rcases kinds d.kind with h | h | h | h | h | ⟨h0, h1, h2, h3, h4⟩
  · refine ret_of rfl rfl (by simp) ?_
    have e1 : (d.kind = 1) = False := by simp [h]
    have e2 : (d.kind = 2) = False := by simp [h]
    have e3 : (d.kind = 3) = False := by simp [h]
    have e4 : (d.kind = 4) = False := by simp [h]
    simp [fr0, e1, e2, e3, e4, he]
  · refine ret_of rfl rfl (by simp) ?_
    have e1 : (d.kind = 1) = True := by simp [h]
    have e4 : (d.kind = 4) = False := by simp [h]
    simp [fr0, e1, e4, he]
  · refine ret_of rfl rfl (by simp) ?_
    have e1 : (d.kind = 1) = False := by simp [h]
    have e2 : (d.kind = 2) = True := by simp [h]
    have e4 : (d.kind = 4) = False := by simp [h]
    simp [fr0, e1, e2, e4, he]
  · refine ret_of rfl rfl (by simp) ?_
    have e1 : (d.kind = 1) = False := by simp [h]
    have e2 : (d.kind = 2) = False := by simp [h]
    have e3 : (d.kind = 3) = True := by simp [h]
    have e4 : (d.kind = 4) = False := by simp [h]
    have hlen : (namesD d).length = d.ctors.length + 2 := by simp [namesD, h]
    have hcl := d.ctors_len
    have hsl : IntKind.i64.wrap ((d.ctors.length : Int) + 2 - 1) = (d.ctors.length : Int) + 1 := by rw [IntKind.wrap_i64]; omega
    simp [fr0, e1, e2, e3, e4, he]
    intro _
    refine wk_loop (fun (j : Nat) => [(7, .i .i64 j)]) (fun _ => []) (fun j => d.ctors.length - j) 0 (by rfl) (by rfl) ?_
    intro j hl
    simp
    constructor
    · intro hj
      have hc := hl (j + 1) (by omega)
      have hw := wrap_succ j _ hj (by simp)
      simp at hc hw
      simp [get_some hj, hw, hc, he]
    · intro hj
      clear hl hj
      have hm : min (d.ctors.length + 1) (d.ctors.length + 2) < 2000000000 := by omega
      have hm' : d.ctors.length + 1 < 2000000000 := by omega
      simp [hlen, hsl, he, hn', hm, hm']
      intro _
      refine wk_loop (fun (j : Nat) => [(11, .i .i64 j)]) (fun _ => []) (fun j => d.recur.rules.length - j) 0 (by rfl) (by rfl) ?_
      intro j hl
      simp
      intro hj
      have hc := hl (j + 1) (by omega)
      have hw := wrap_succ j _ hj (by simp)
      simp at hc hw
      simp [get_some hj, hw, hc, he, hn']
  · refine ret_of rfl rfl (by simp) ?_
    have e1 : (d.kind = 1) = False := by simp [h]
    have e2 : (d.kind = 2) = False := by simp [h]
    have e3 : (d.kind = 3) = False := by simp [h]
    have e4 : (d.kind = 4) = True := by simp [h]
    simp [fr0, e1, e2, e3, e4, he]
    refine wk_loop (fun (j : Nat) => [(13, .i .i64 j)]) (fun _ => []) (fun j => d.funs.length - j) 0 (by rfl) (by rfl) ?_
    intro j hl
    simp
    constructor
    · intro hj
      have hc := hl (j + 1) (by omega)
      have hw := wrap_succ j _ hj (by simp)
      simp at hc hw
      simp [get_some hj, hw, hc, he]
    · intro hj
      clear hl hj
      refine wk_loop (fun (j : Nat) => [(15, .i .i64 j)]) (fun _ => []) (fun j => d.funs.length - j) 0 (by rfl) (by rfl) ?_
      intro j hl
      simp
      intro hj
      have hc := hl (j + 1) (by omega)
      have hw := wrap_succ j _ hj (by simp)
      simp at hc hw
      simp [get_some hj, hw, hc, he, hn']
  · refine ret_of rfl rfl (by simp) ?_
    simp [fr0, h1, h2, h3, h4, he]
open Classical in
noncomputable def g61 (env : List Decl) (d : Decl) : Int := if h : ∃ e, Ret T 61 [.list 23 (List.map encD env) false, encD d] (.i .i64 e) then h.choose else 0
@[simp] theorem c61 (env : List Decl) (he : env.length < 1073741824) (d : Decl) : WC T (.fn 61) [.list 23 (List.map encD env) false, encD d] dd ops keep dr K F H Q ↔ WO T ops keep dr K (F.put dd (.i .i64 (g61 env d))) H Q := by
  apply wc_ret
  have h := ex_i (t61 env he d)
  unfold g61; rw [dif_pos h]; exact h.choose_spec
theorem t39 (env : List Decl) (he : env.length < 1073741824) (d : Decl) : ∃ v, Ret T 39 [.list 23 (List.map encD env) false, encD d] v ∧ IsF d v := by
  refine ret_of rfl rfl (by simp) ?_
  simp [fr0, he]
  intro _ _ _
  exact ⟨fun a b => absurd b a, fun h => ⟨fun a b => absurd b a, fun _ _ => g59_fixed d h⟩⟩
open Classical in
noncomputable def g39 (env : List Decl) (d : Decl) : Int := if h : ∃ e, Ret T 39 [.list 23 (List.map encD env) false, encD d] (.i .i64 e) then h.choose else 0
theorem r39 (env : List Decl) (he : env.length < 1073741824) (d : Decl) : Ret T 39 [.list 23 (List.map encD env) false, encD d] (.i .i64 (g39 env d)) := by
  obtain ⟨v, h, e, rfl, _⟩ := t39 env he d
  have h : ∃ e, Ret T 39 [.list 23 (List.map encD env) false, encD d] (.i .i64 e) := ⟨e, h⟩
  unfold g39; rw [dif_pos h]; exact h.choose_spec
@[simp] theorem c39 (env : List Decl) (he : env.length < 1073741824) (d : Decl) : WC T (.fn 39) [.list 23 (List.map encD env) false, encD d] dd ops keep dr K F H Q ↔ WO T ops keep dr K (F.put dd (.i .i64 (g39 env d))) H Q := wc_ret (r39 env he d)
@[simp] theorem c39t (env : List Decl) (j : Nat) (he : env.length < 1073741824) (d : Decl) : WC T (.fn 39) [.list 23 (List.take j (List.map encD env)) false, encD d] dd ops keep dr K F H Q ↔ WO T ops keep dr K (F.put dd (.i .i64 (g39 (env.take j) d))) H Q := by
  rw [← List.map_take]
  exact c39 (env.take j) (by simp; omega) d
theorem g39_fixed (env : List Decl) (he : env.length < 1073741824) (d : Decl) (h : g39 env d = 0) : 0 ≤ d.fixed := by
  obtain ⟨v, h1, e, rfl, h2⟩ := t39 env he d
  have := ret_eq h1 (r39 env he d)
  simp at this
  exact h2 (by omega)
/-- no declaration has a negative number of fixed parameters -/
def Fixd (env : List Decl) : Prop := ∀ d ∈ env, 0 ≤ d.fixed
def IsCk (env : List Decl) (v : V) : Prop := ∃ a e, v = .tuple [.i .i64 a, .i .i64 e] ∧ (e = 0 → Fixd env)
@[simp] theorem isCk_t (env : List Decl) (a e : Int) : IsCk env (.tuple [.i .i64 a, .i .i64 e]) ↔ (e = 0 → Fixd env) := by
  constructor
  · rintro ⟨a, e, h, h2⟩; cases h; exact h2
  · intro h; exact ⟨a, e, rfl, h⟩
def FixTo (env : List Decl) (j : Nat) : Prop := ∀ i d, i < j → env[i]? = some d → 0 ≤ d.fixed
theorem t18 (env : List Decl) (he : env.length < 1073741824) : ∃ v, Ret T 18 [.list 23 (List.map encD env) false] v ∧ IsCk env v := by
  have hlen := he
  refine ret_of rfl rfl (by simp) ?_
  simp [fr0]
  intro _
  refine wk_loop (α := {j : Nat // FixTo env j}) (fun j => [(4, .i .i64 j.1)]) (fun _ => []) (fun j => env.length - j.1) ⟨0, fun i d h => by omega⟩ (by rfl) (by rfl) ?_
  rintro ⟨j, hf⟩ hl
  simp
  constructor
  · intro hj
    have hw := wrap_succ j _ hj hlen
    simp at hw
    have hj' : j ≤ env.length := by omega
    by_cases h0 : g39 (env.take j) env[j] = 0
    · have hc := hl ⟨j + 1, fun i d hi hd => by
        by_cases e : i = j
        · subst e; rw [get_some hj] at hd; cases hd; exact g39_fixed _ (by simp; omega) _ h0
        · exact hf i d (by omega) hd⟩ (by simp; omega)
      simp at hc
      simp [get_some hj, hw, hc, he, hj', h0]
    · simp [get_some hj, hw, he, hj', h0]
  · intro hj d hd
    obtain ⟨i, hi⟩ := List.mem_iff_getElem?.1 hd
    exact hf i d (by have := (List.getElem?_eq_some_iff.1 hi).1; omega) hi
def IsGd (env : List Decl) (v : V) : Prop := ∃ b, v = .b b ∧ (b = true → Fixd env)
@[simp] theorem isGd_b (env : List Decl) (b : Bool) : IsGd env (.b b) ↔ (b = true → Fixd env) := by simp [IsGd]
theorem t5 (env : List Decl) (he : env.length < 1073741824) : ∃ v, Ret T 5 [.list 23 (List.map encD env) false] v ∧ IsGd env v := by
  obtain ⟨b, h17⟩ := ex_b (t17 env he)
  obtain ⟨v, h18, a, e, rfl, hf⟩ := t18 env he
  refine ret_of rfl rfl (by simp) ?_
  simp [fr0, wc_ret h17, wc_ret h18]
  exact fun _ => hf
end Go.Iv.Ir
