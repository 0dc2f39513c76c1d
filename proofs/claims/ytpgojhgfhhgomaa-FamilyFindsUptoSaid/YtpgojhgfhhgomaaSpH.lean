/- What the program's search for a name returns: it asks the entries of each declaration in turn. No conditions. -/
import Derived.Test.YtpgojhgfhhgomaaSpG
namespace Go.Iv.Ir
open Go.Iv
set_option maxRecDepth 100000
set_option linter.unusedVariables false
set_option linter.unusedSimpArgs false
attribute [local irreducible] limit
variable {K : List Kt} {F : Fr} {H : Hp} {Q : QQ} {ops : List Ins} {keep : List Nat} {dr : Bool} {dd : Option Nat}
theorem encE_mk (k a i p : Int) (t : Tm) : V.agg [.i .i64 k, .i .i64 a, .i .i64 i, .i .i64 p, .i .i64 t.kind, .i .i64 t.index, .s t.name, .list 2 (List.map encL t.levels) false, .list 5 (List.map encT t.kids) false] = encE ⟨k, a, i, p, t⟩ := rfl
/-- the assignment and the body of the loop over the entries -/
def rf25 : IC × IC := match i25.code with
  | .seq _ (.seq (.seq _ (.block _ (.loop (.seq _ (.seq _ (.seq (.block _ (.seq _ (.seq _ (.block _ (.rf _ _ _ a b))))) _)))))) _) => (a, b)
  | _ => (.skip, .skip)
def LRf (nm : ByteArray) (st : LSt) (pend : Ex) : LR := { tm := look [(3, .cptr [.s nm]), (4, .gptr 0 0), (5, .gptr 1 0)], params := [20, 21], asg := rf25.1, body := rf25.2, st := st, pend := pend }
def zE : List V := [.i .i64 0, .i .i64 0, .i .i64 0, .i .i64 0, .i .i64 0, .i .i64 0, .s ⟨#[]⟩, .list 2 [] true, .list 5 [] true]
/-- the loop's object, and the two results: not found yet, or found -/
def Li (id : Nat) (nm : ByteArray) (H : Hp) : Option Entry → Prop
  | none => H.ob id = some (.lp (LRf nm .ready .normal)) ∧ H.ob 0 = some (.cells zE) ∧ H.ob 1 = some (.cells [.i .i64 0])
  | some x => H.ob id = some (.lp (LRf nm .done .ret)) ∧ H.ob 0 = some (.cells (encE x).cells) ∧ H.ob 1 = some (.cells [.i .i64 0])
def IsY (id nx : Nat) (nm : ByteArray) (b : Bool) (e : Option Entry) (v : V) (H : Hp) : Prop := v = .b b ∧ Li id nm H e ∧ H.next = nx
theorem roundA_n {id : Nat} {body : IC} {P : V → Hp → Prop} {F : Fr} {H1 : Hp} : RoundA T id body P .normal F H1 ↔ ∃ L1, H1.ob id = some (.lp L1) ∧ L1.st = .ready ∧ WK T body [] F (H1.put id (some (.lp { L1 with st := .busy }))) (RoundE id P) := by
  simp [RoundA]
theorem roundE_n {id : Nat} {P : V → Hp → Prop} {F : Fr} {H2 : Hp} : RoundE id P .normal F H2 ↔ ∃ L2, H2.ob id = some (.lp L2) ∧ P (.b true) (H2.put id (some (.lp { L2 with st := .ready, pend := .normal }))) := Iff.rfl
theorem roundE_r {id : Nat} {P : V → Hp → Prop} {F : Fr} {H2 : Hp} : RoundE id P .ret F H2 ↔ ∃ L2, H2.ob id = some (.lp L2) ∧ P (.b false) (H2.put id (some (.lp { L2 with st := .done, pend := .ret }))) := Iff.rfl
theorem yl_miss {id : Nat} (h2 : 2 ≤ id) {nm s : ByteArray} (hs : ¬ s = nm) (x : Entry) (hL : Li id nm H none) : ∃ n v H', run T n (.yld id) [.s s, encE x] H = some (.ret v, H') ∧ IsY id H.next nm true none v H' := by
  obtain ⟨h, h0, h1⟩ := hL
  refine run_yld h rfl rfl ?_
  have i0 : ¬ 0 = id := by omega
  have i1 : ¬ 1 = id := by omega
  simp [LRf, setParams, rf25, i25, roundA_n, h]
  simp [roundE_n, hs]
  refine ⟨rfl, ⟨?_, ?_, ?_⟩, rfl⟩
  · simp; rfl
  · simp [i0, h0]
  · simp [i1, h1]
theorem yl_hit {id : Nat} (h2 : 2 ≤ id) {nm : ByteArray} (x : Entry) (hL : Li id nm H none) : ∃ n v H', run T n (.yld id) [.s nm, encE x] H = some (.ret v, H') ∧ IsY id H.next nm false (some x) v H' := by
  obtain ⟨h, h0, h1⟩ := hL
  refine run_yld h rfl rfl ?_
  have i0 : ¬ 0 = id := by omega
  have i1 : ¬ 1 = id := by omega
  simp [LRf, setParams, rf25, i25, roundA_n, h]
  have j0 : ¬ id = 0 := by omega
  have j1 : ¬ id = 1 := by omega
  simp [roundE_r, h0, h1, i0, i1, j0, j1, zE]
  refine ⟨rfl, ⟨?_, ?_, ?_⟩, rfl⟩
  · simp; rfl
  · simp [i0]
  · simp [i1]
def IsFn (d : Decl) (a : Int) (v : V) : Prop := v = .fn (.func 67) [] [.cptr [.i .i64 a], .cptr (encD d).cells]
theorem t49 (d : Decl) (a : Int) : ∃ v, Ret T 49 [encD d, .i .i64 a] v ∧ IsFn d a v := by
  refine ret_of rfl rfl (by simp) ?_
  simp [fr0, capsV, frz, IsFn]
theorem r49 (d : Decl) (a : Int) : Ret T 49 [encD d, .i .i64 a] (.fn (.func 67) [] [.cptr [.i .i64 a], .cptr (encD d).cells]) := by
  obtain ⟨v, h, rfl⟩ := t49 d a
  exact h
/-- the entries of a declaration are asked in turn -/
def IsEs (id nx : Nat) (nm : ByteArray) (e : Option Entry) (v : V) (H : Hp) : Prop := v = .tuple [] ∧ Li id nm H e ∧ H.next = nx
theorem t67 {id : Nat} (h2 : 2 ≤ id) {nm : ByteArray} (d : Decl) (a : Nat) (hL : Li id nm H none) : ∃ n v H', run T n (.fn 67) [.yld id, .cptr [.i .i64 a], .cptr (encD d).cells] H = some (.ret v, H') ∧ IsEs id H.next nm (entryOf d a nm) v H' := by
  have hcl := d.ctors_len
  have hfl := d.funs_len
  have hnl := d.name_len
  rcases kinds d.kind with h | h | h | h | h | ⟨k0, k1, k2, k3, k4⟩
  · refine run_ofH rfl rfl ?_
    by_cases hn : d.name = nm
    · obtain ⟨n, v, H', hr, rfl, hL', hnx⟩ := yl_hit h2 (nm := nm) ⟨0, a, 0, d.params, d.type⟩ hL
      rw [← encE_mk] at hr
      simp [fr0, h, hn, wc_run hr]
      exact ⟨[], H', ⟨rfl, rfl⟩, rfl, by simpa [entryOf, h, hn] using hL', hnx⟩
    · obtain ⟨n, v, H', hr, rfl, hL', hnx⟩ := yl_miss h2 (nm := nm) hn ⟨0, a, 0, d.params, d.type⟩ hL
      rw [← encE_mk] at hr
      have hn' : ¬ nm = d.name := fun c => hn c.symm
      simp [fr0, h, wc_run hr]
      exact ⟨[], H', ⟨rfl, rfl⟩, rfl, by simpa [entryOf, h, hn'] using hL', hnx⟩
  · refine run_ofH rfl rfl ?_
    by_cases hn : d.name = nm
    · obtain ⟨n, v, H', hr, rfl, hL', hnx⟩ := yl_hit h2 (nm := nm) ⟨1, a, 0, d.params, d.type⟩ hL
      rw [← encE_mk] at hr
      simp [fr0, h, hn, wc_run hr]
      exact ⟨[], H', ⟨rfl, rfl⟩, rfl, by simpa [entryOf, h, hn] using hL', hnx⟩
    · obtain ⟨n, v, H', hr, rfl, hL', hnx⟩ := yl_miss h2 (nm := nm) hn ⟨1, a, 0, d.params, d.type⟩ hL
      rw [← encE_mk] at hr
      have hn' : ¬ nm = d.name := fun c => hn c.symm
      simp [fr0, h, wc_run hr]
      exact ⟨[], H', ⟨rfl, rfl⟩, rfl, by simpa [entryOf, h, hn'] using hL', hnx⟩
  · refine run_ofH rfl rfl ?_
    by_cases hn : d.name = nm
    · obtain ⟨n, v, H', hr, rfl, hL', hnx⟩ := yl_hit h2 (nm := nm) ⟨2, a, 0, d.params, d.type⟩ hL
      rw [← encE_mk] at hr
      simp [fr0, h, hn, wc_run hr]
      exact ⟨[], H', ⟨rfl, rfl⟩, rfl, by simpa [entryOf, h, hn] using hL', hnx⟩
    · obtain ⟨n, v, H', hr, rfl, hL', hnx⟩ := yl_miss h2 (nm := nm) hn ⟨2, a, 0, d.params, d.type⟩ hL
      rw [← encE_mk] at hr
      have hn' : ¬ nm = d.name := fun c => hn c.symm
      simp [fr0, h, wc_run hr]
      exact ⟨[], H', ⟨rfl, rfl⟩, rfl, by simpa [entryOf, h, hn'] using hL', hnx⟩
  · refine run_ofH rfl rfl ?_
    by_cases hn : d.name = nm
    · obtain ⟨n, v, H', hr, rfl, hL', hnx⟩ := yl_hit h2 (nm := nm) ⟨3, a, 0, d.params, d.type⟩ hL
      rw [← encE_mk] at hr
      simp [fr0, h, hn, wc_run hr]
      exact ⟨[], H', ⟨rfl, rfl⟩, rfl, by simpa [entryOf, h, hn] using hL', hnx⟩
    · obtain ⟨n, v, H1, hr, rfl, hL1, hnx⟩ := yl_miss h2 (nm := nm) hn ⟨3, a, 0, d.params, d.type⟩ hL
      rw [← encE_mk] at hr
      have hn' : ¬ nm = d.name := fun c => hn c.symm
      simp [fr0, h, wc_run hr]
      refine wk_loopH (α := {p : Nat × Hp // NB Ctor.name nm d.ctors p.1 ∧ Li id nm p.2 none ∧ p.2.next = H.next}) (fun p => [(44, .i .i64 p.1.1)]) (fun _ => []) (fun p => p.1.2) (fun p => d.ctors.length - p.1.1) ⟨(0, H1), nb_zero, hL1, hnx⟩ (by rfl) (by rfl) rfl ?_
      rintro ⟨⟨j, H2⟩, hnb, hL2, hnx2⟩ hl
      dsimp only at hnb hL2 hnx2
      simp
      constructor
      · intro hj
        have hw := wrap_succ j _ hj (by simp)
        simp at hw
        by_cases hx : d.ctors[j].name = nm
        · obtain ⟨n, v, H', hr, rfl, hL', hnx'⟩ := yl_hit h2 (nm := nm) ⟨4, a, j, d.params, d.ctors[j].type⟩ hL2
          rw [← encE_mk] at hr
          simp [get_some hj, hx, wc_run hr]
          have := first_hit (k := 0) hnb (get_some hj) hx
          exact ⟨[], H', ⟨rfl, rfl⟩, rfl, by simpa [entryOf, h, hn', this] using hL', by rw [hnx', hnx2]⟩
        · obtain ⟨n, v, H', hr, rfl, hL', hnx'⟩ := yl_miss h2 (nm := nm) hx ⟨4, a, j, d.params, d.ctors[j].type⟩ hL2
          rw [← encE_mk] at hr
          have hc := hl ⟨(j + 1, H'), nb_succ hnb (get_some hj) hx, hL', by rw [hnx', hnx2]⟩ (by simp; omega)
          simp at hc
          simp [get_some hj, wc_run hr, hw, hc]
      · intro hj
        have hf := first_none (k := 0) hnb hj
        have hlim : d.name.size + ByteArray.size ⟨#[46, 114, 101, 99]⟩ ≤ limit := lim_le (show d.name.size + 4 ≤ _ by omega)
        by_cases hx : d.name ++ dotRec = nm
        · obtain ⟨n, v, H', hr, rfl, hL', hnx'⟩ := yl_hit h2 (nm := nm) ⟨5, a, 0, d.recur.params, d.recur.type⟩ hL2
          rw [← encE_mk] at hr
          have hx1 : d.name ++ ⟨#[46, 114, 101, 99]⟩ = nm := hx
          simp [hlim, hx1, wc_run hr]
          exact ⟨[], H', ⟨rfl, rfl⟩, rfl, by simpa [entryOf, h, hn', hf, hx] using hL', by rw [hnx', hnx2]⟩
        · obtain ⟨n, v, H', hr, rfl, hL', hnx'⟩ := yl_miss h2 (nm := nm) hx ⟨5, a, 0, d.recur.params, d.recur.type⟩ hL2
          rw [← encE_mk] at hr
          have hx' : ¬ nm = d.name ++ dotRec := fun c => hx c.symm
          simp only [dotRec] at hr
          simp [hlim, wc_run hr]
          exact ⟨[], H', ⟨rfl, rfl⟩, rfl, by simpa [entryOf, h, hn', hf, hx'] using hL', by rw [hnx', hnx2]⟩
  · refine run_ofH rfl rfl ?_
    simp [fr0, h]
    refine wk_loopH (α := {p : Nat × Hp // NB Fun.name nm d.funs p.1 ∧ Li id nm p.2 none ∧ p.2.next = H.next}) (fun p => [(80, .i .i64 p.1.1)]) (fun _ => []) (fun p => p.1.2) (fun p => d.funs.length - p.1.1) ⟨(0, H), nb_zero, hL, rfl⟩ (by rfl) (by rfl) rfl ?_
    rintro ⟨⟨j, H2⟩, hnb, hL2, hnx2⟩ hl
    dsimp only at hnb hL2 hnx2
    simp
    constructor
    · intro hj
      have hw := wrap_succ j _ hj (by simp)
      simp at hw
      by_cases hx : d.funs[j].name = nm
      · obtain ⟨n, v, H', hr, rfl, hL', hnx'⟩ := yl_hit h2 (nm := nm) ⟨6, a, j, d.params, d.funs[j].type⟩ hL2
        rw [← encE_mk] at hr
        simp [get_some hj, hx, wc_run hr]
        have := first_hit (k := 0) hnb (get_some hj) hx
        exact ⟨[], H', ⟨rfl, rfl⟩, rfl, by simpa [entryOf, h, this] using hL', by rw [hnx', hnx2]⟩
      · obtain ⟨n, v, H', hr, rfl, hL', hnx'⟩ := yl_miss h2 (nm := nm) hx ⟨6, a, j, d.params, d.funs[j].type⟩ hL2
        rw [← encE_mk] at hr
        have hc := hl ⟨(j + 1, H'), nb_succ hnb (get_some hj) hx, hL', by rw [hnx', hnx2]⟩ (by simp; omega)
        simp at hc
        simp [get_some hj, wc_run hr, hw, hc]
    · intro hj
      have hf := first_none (k := 0) hnb hj
      exact ⟨[], H2, by simp, rfl, by simpa [entryOf, h, hf] using hL2, hnx2⟩
  · refine run_ofH rfl rfl ?_
    simp [fr0, k0, k1, k2, k3, k4]
    exact ⟨[], H, by simp, rfl, by simpa [entryOf, k0, k1, k2, k3, k4] using hL, rfl⟩
end Go.Iv.Ir
