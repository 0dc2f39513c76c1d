/- What the search for a family and the reference's Applied return. No conditions. -/
import Derived.Test.YtpgojhgfhhgomaaSpE
namespace Go.Iv.Ir
open Go.Iv
set_option maxRecDepth 100000
set_option linter.unusedVariables false
set_option linter.unusedSimpArgs false
attribute [local irreducible] limit
variable {K : List Kt} {F : Fr} {H : Hp} {Q : QQ} {ops : List Ins} {keep : List Nat} {dr : Bool} {dd : Option Nat}
/-- the head of an application, and its arguments -/
def spineT (t : Tm) : Tm × List Tm :=
  if h : t.kind = 4 ∧ t.kids.length = 2 then
    have : t.kids[0].sz < t.sz := Tm.kid_sz (by simp)
    ((spineT t.kids[0]).1, (spineT t.kids[0]).2 ++ [t.kids[1]])
  else (t, [])
termination_by t.sz
theorem spineT_app {t : Tm} (h : t.kind = 4) (h2 : t.kids.length = 2) : spineT t = ((spineT t.kids[0]).1, (spineT t.kids[0]).2 ++ [t.kids[1]]) := by
  rw [spineT]; simp [h, h2]
theorem spineT_no {t : Tm} (h : ¬ (t.kind = 4 ∧ t.kids.length = 2)) : spineT t = (t, []) := by
  rw [spineT, dif_neg h]
theorem spineT_len : ∀ t : Tm, (spineT t).2.length < t.sz := by
  refine Tm.ind fun t ih => ?_
  by_cases h : t.kind = 4 ∧ t.kids.length = 2
  · rw [spineT_app h.1 h.2]
    have := ih t.kids[0] (by simp)
    have h2 : t.kids[0].sz < t.sz := Tm.kid_sz (by simp)
    simp; omega
  · rw [spineT_no h]; have := t.sz_pos; simp; omega
theorem spineT_len' (t : Tm) : (spineT t).2.length < 1073741824 := Nat.lt_trans (spineT_len t) t.sz_lt
def IsSp (o : Bool) (t : Tm) (v : V) : Prop := v = .tuple [encT (spineT t).1, .list 5 (List.map encT (spineT t).2) o]
theorem t26 : ∀ t : Tm, ∃ v, Ret T 26 [encT t] v ∧ IsSp true t v := by
  refine Tm.ind fun t ih => ?_
  refine ret_of rfl rfl (by simp) ?_
  by_cases hk : t.kind = 4
  · by_cases hd : t.kids.length = 2
    · have h0 : 0 < t.kids.length := by omega
      have h1 : 1 < t.kids.length := by omega
      obtain ⟨v, hr, rfl⟩ := ih t.kids[0] (by simp)
      have hl := spineT_len' t.kids[0]
      have hu := spineT_app hk hd
      simp [fr0, hk, hd, get_some h0, get_some h1, wc_ret hr, IsSp, hu]
      apply lim_le; omega
    · have hu := spineT_no (t := t) (by omega)
      have hd' : ¬ (t.kids.length : Int) = 2 := by omega
      simp [fr0, hk, hd', IsSp, hu]
      rw [encT_def, hk]
  · have hu := spineT_no (t := t) (by omega)
    simp [fr0, hk, IsSp, hu]
theorem r26 (t : Tm) : Ret T 26 [encT t] (.tuple [encT (spineT t).1, .list 5 (List.map encT (spineT t).2) true]) := by
  obtain ⟨v, h, rfl⟩ := t26 t
  exact h
@[simp] theorem c26 (t : Tm) : WC T (.fn 26) [encT t] dd ops keep dr K F H Q ↔ WO T ops keep dr K (F.put dd (.tuple [encT (spineT t).1, .list 5 (List.map encT (spineT t).2) true])) H Q := wc_ret (r26 t)
def declAt (env : List Decl) (e : Entry) : Decl := (env[e.decl.toNat]?).getD .zero
/-- what the search for a family returns -/
def famR (env : List Decl) (n : ByteArray) : Decl × Int × Bool :=
  if (findR env n).2 = 0 then
    if (findR env n).1.kind = 3 then (declAt env (findR env n).1, -1, true)
    else if (findR env n).1.kind = 4 then (declAt env (findR env n).1, (findR env n).1.item, true)
    else if (findR env n).1.kind = 5 then (declAt env (findR env n).1, -2, true)
    else (.zero, 0, false)
  else (.zero, 0, false)
def IsFam (env : List Decl) (n : ByteArray) (v : V) : Prop := v = .tuple [encD (famR env n).1, .i .i64 (famR env n).2.1, .b (famR env n).2.2]
theorem t27 (env : List Decl) (he : env.length < 1073741824) (n : ByteArray) : ∃ v, Ret T 27 [.list 23 (List.map encD env) false, .s n] v ∧ IsFam env n v := by
  refine ret_of rfl rfl (by simp) ?_
  by_cases hf : (findR env n).2 = 0
  · obtain ⟨i, d, hi, hd, h4, _⟩ := findR_facts hf
    have ha : declAt env (findR env n).1 = d := by simp [declAt, hd, hi]
    by_cases k3 : (findR env n).1.kind = 3
    · simp [fr0, he, hf, hi, hd, k3, IsFam, famR, ha]
    · by_cases k4 : (findR env n).1.kind = 4
      · simp [fr0, he, hf, hi, hd, k4, IsFam, famR, ha]
      · by_cases k5 : (findR env n).1.kind = 5
        · simp [fr0, he, hf, hi, hd, k5, IsFam, famR, ha]
        · simp [fr0, he, hf, hi, hd, k3, k4, k5, IsFam, famR, ha]
          rfl
  · simp [fr0, he, hf, IsFam, famR]
    rfl
theorem r27 (env : List Decl) (he : env.length < 1073741824) (n : ByteArray) : Ret T 27 [.list 23 (List.map encD env) false, .s n] (.tuple [encD (famR env n).1, .i .i64 (famR env n).2.1, .b (famR env n).2.2]) := by
  obtain ⟨v, h, rfl⟩ := t27 env he n
  exact h
@[simp] theorem c27 (env : List Decl) (he : env.length < 1073741824) (n : ByteArray) : WC T (.fn 27) [.list 23 (List.map encD env) false, .s n] dd ops keep dr K F H Q ↔ WO T ops keep dr K (F.put dd (.tuple [encD (famR env n).1, .i .i64 (famR env n).2.1, .b (famR env n).2.2])) H Q := wc_ret (r27 env he n)
theorem famR_not {env : List Decl} {n : ByteArray} (hf : (findR env n).2 = 0) (k3 : ¬ (findR env n).1.kind = 3) : (famR env n).2.2 = false ∨ ¬ (famR env n).2.1 = -1 := by
  obtain ⟨i, d, hi, hd, h4, _⟩ := findR_facts hf
  by_cases k4 : (findR env n).1.kind = 4
  · obtain ⟨k, hk, _⟩ := h4 k4
    right; simp [famR, hf, k4, hk]
  · by_cases k5 : (findR env n).1.kind = 5
    · right; simp [famR, hf, k5]
    · left; simp [famR, hf, k3, k4, k5]
@[simp] theorem noidL_take (n : Nat) (l : List Tm) : V.noidL (List.take n (List.map encT l)) = true := by rw [← List.map_take]; exact noid_Ts _
@[simp] theorem noidL_drop (n : Nat) (l : List Tm) : V.noidL (List.drop n (List.map encT l)) = true := by rw [← List.map_drop]; exact noid_Ts _
@[simp] theorem take_map_len {α β : Type} (f : α → β) (l : List α) : List.take l.length (List.map f l) = List.map f l := by
  apply List.take_of_length_le; simp
/-- what Applied returns -/
def appR (env : List Decl) (t : Tm) : Decl × List Level × List Tm × List Tm × Bool :=
  if (spineT t).1.kind = 3 ∧ (findR env (spineT t).1.name).2 = 0 ∧ (findR env (spineT t).1.name).1.kind = 3 ∧
      (spineT t).2.length = (allT (declAt env (findR env (spineT t).1.name).1).type).1.length ∧
      (declAt env (findR env (spineT t).1.name).1).fixed ≤ (spineT t).2.length then
    (declAt env (findR env (spineT t).1.name).1, (spineT t).1.levels,
      (spineT t).2.take (declAt env (findR env (spineT t).1.name).1).fixed.toNat, (spineT t).2.drop (declAt env (findR env (spineT t).1.name).1).fixed.toNat, true)
  else (.zero, [], [], [], false)
def appV (r : Decl × List Level × List Tm × List Tm × Bool) : V := .tuple [encD r.1, .list 2 (List.map encL r.2.1) false, .list 5 (List.map encT r.2.2.1) false, .list 5 (List.map encT r.2.2.2.1) false, .b r.2.2.2.2]
def IsApp (env : List Decl) (t : Tm) (v : V) : Prop := v = appV (appR env t)
theorem t9 (env : List Decl) (he : env.length < 1073741824) (hx : Fixd env) (t : Tm) : ∃ v, Ret T 9 [.list 23 (List.map encD env) false, encT t] v ∧ IsApp env t v := by
  refine ret_of rfl rfl (by simp) ?_
  by_cases h3 : (spineT t).1.kind = 3
  · have e3 : ((spineT t).1.kind = 3) = True := by simp [h3]
    by_cases hf : (findR env (spineT t).1.name).2 = 0
    · obtain ⟨i, d, hi, hd, _, _⟩ := findR_facts hf
      have ha : declAt env (findR env (spineT t).1.name).1 = d := by simp [declAt, hd, hi]
      have hfx : 0 ≤ d.fixed := hx d (List.mem_of_getElem? hi)
      have hidx : idx (.i .i64 d.fixed) = some d.fixed.toNat := by simp [idx, hfx]
      by_cases k3 : (findR env (spineT t).1.name).1.kind = 3
      · have hfam : famR env (spineT t).1.name = (d, -1, true) := by simp [famR, hf, k3, ha]
        by_cases hl : (spineT t).2.length = (allT d.type).1.length
        · by_cases hle : d.fixed ≤ ((allT d.type).1.length : Int)
          · have hle2 : d.fixed.toNat ≤ (allT d.type).1.length := by omega
            have hnlt : ¬ ((allT d.type).1.length : Int) < d.fixed := by omega
            have htk : List.take (allT d.type).1.length (List.map encT (spineT t).2) = List.map encT (spineT t).2 := by rw [← hl]; simp
            simp [fr0, he, e3, hfam, hl, hle, hnlt, hidx, hle2, htk]
            simp [IsApp, appR, appV, h3, hf, k3, ha, hl, hle]
          · have hnlt : ((allT d.type).1.length : Int) < d.fixed := by omega
            simp [fr0, he, e3, hfam, hl, hnlt]
            simp [IsApp, appR, appV, h3, hf, k3, ha, hl, hle]
            rfl
        · have hl' : ¬ (((spineT t).2.length : Int) = (allT d.type).1.length) := by omega
          simp [fr0, he, e3, hfam, hl']
          simp [IsApp, appR, appV, h3, hf, k3, ha, hl]
          rfl
      · rcases famR_not hf k3 with hb | hn
        · simp [fr0, he, e3, hb]
          simp [IsApp, appR, appV, h3, hf, k3]
          rfl
        · cases hb : (famR env (spineT t).1.name).2.2 with
          | false =>
            simp [fr0, he, e3, hb]
            simp [IsApp, appR, appV, h3, hf, k3]
            rfl
          | true =>
            simp [fr0, he, e3, hb, hn]
            simp [IsApp, appR, appV, h3, hf, k3]
            rfl
    · have hfam : famR env (spineT t).1.name = (.zero, 0, false) := by simp [famR, hf]
      simp [fr0, he, e3, hfam]
      simp [IsApp, appR, appV, h3, hf]
      rfl
  · simp [fr0, he, h3]
    simp [IsApp, appR, appV, h3]
    rfl
end Go.Iv.Ir
