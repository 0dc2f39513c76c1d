/- All single operations together: the check of an operation against the text's, and that the two go the same way. No conditions. -/
import Derived.Test.YtpgojhgfhhgomaaIvOpi
namespace Go.Iv
set_option linter.unusedVariables false
set_option linter.unusedSimpArgs false
variable {P : Program} {CR : Nat → Code → IC → Prop} {N : Nat} {g g' : Gh} {lam : Nat → Option Nat} {F : Fr} {H : Hp} {a : Act} {w w' : World}

def fieldOk (P : Program) (t : TypeId) (i off : Nat) (k : Field → Bool) : Bool :=
  match P.underlying t with
  | some (.struct fs) => match fs[i]? with | some f => f.offset == off && k f | none => false
  | _ => false
def sliceOk (P : Program) (t : TypeId) (sz : Nat) (k : TypeId → TypeInfo → Bool) : Bool :=
  match P.underlying t with
  | some (.slice e) => match P.info? e with | some i => i.size == sz && k e i | none => false
  | _ => false
def isStr (P : Program) (t : TypeId) : Bool := match P.underlying t with | some .string => true | _ => false
/-- an operation that is no call -/
def opB (P : Program) (o : Op) (io : IOp) : Bool :=
  match io, o with
  | .mv y _, .move x => rdB x y
  | .mv y _, .assign x => rdB x y
  | .pick c x y, .pick c' x' y' => rdB c' c && rdB x' x && rdB y' y
  | .boxL y, .box _ x => rdB x y
  | .boxG y, .box _ x => rdB x y
  | .allocL zs, .alloc e => zeroB P e zs
  | .allocG zs, .alloc e => zeroB P e zs
  | .build zs qs, .build t ps => match P.underlying t with
    | some (.struct fs) => fs.toList.all (fun f => (P.info? f.type).isSome) && zeroB P t zs && partsB (placesOf P fs) ps.toList qs
    | some (.array _ e) => match P.info? e with | some i => zeroB P t zs && partsB (fun j => some (j * i.size, i.size)) ps.toList qs | none => false
    | _ => false
  | .blist sz ys, .buildSlice t n ps => sliceOk P t sz fun e i => hasZero P e && litB 0 ps.toList ys && ps.size == n && decide (n * sz ≤ 16777216)
  | .load ag y _ _, .load t x => (aggOf P t == some ag) && rdB x y
  | .store n y v _ _, .store t x u => ((P.info? t).map (·.size) == some n) && rdB x y && rdB u v
  | .bin bt op x y, .binOp op' t x' y' _ => op == op' && (btOf P t == some bt) && rdB x' x && rdB y' y && (bt != .ifc || isC y')
  | .un op x, .unOp op' _ x' => op == op' && rdB x' x
  | .conv k x, .convert src dst x' => (P.underlying src).isSome && (match P.underlying dst with | some (.int k') => k == k' | _ => false) && rdB x' x
  | .idS x, .convert src dst x' => (P.underlying src).isSome && isStr P dst && rdB x' x
  | .ifc t x, .makeInterface t' x' => t == t' && (match P.underlying t with | some (.interface _) => false | some _ => true | none => false) && rdB x' x
  | .mkf fn fs cs, .makeFunc fn' fs' cs' => fn == fn' && rdsB fs'.toList fs && rdsB cs'.toList cs
  | .fa off x, .fieldAddr t x' i => fieldOk P t i off (fun f => (P.info? f.type).any fun inf => inf.size != 0) && rdB x' x
  | .fld off ag x, .field t x' i => fieldOk P t i off (fun f => aggOf P f.type == some ag) && rdB x' x
  | .ia sz x i, .indexAddr t x' i' => sliceOk P t sz (fun _ _ => true) && rdB x' x && rdB i' i
  | .ixs x i, .index t x' i' => isStr P t && rdB x' x && rdB i' i
  | .slc (some sz) x lo hi, .slice t x' lo' hi' none => sliceOk P t sz (fun _ _ => true) && rdB x' x && oRd lo' lo && oRd hi' hi
  | .slc none x lo hi, .slice t x' lo' hi' none => isStr P t && rdB x' x && oRd lo' lo && oRd hi' hi
  | .ext x i, .extract x' i' => i == i' && rdB x' x
  | .len str x, .call c => match c.callee, c.args.toList, c.argTypes[0]? with
    | .builtin .len, [x'], some t => (if str then isStr P t else (match P.underlying t with | some (.slice _) => true | _ => false)) && rdB x' x
    | _, _, _ => false
  | .app sz _ x y, .call c => match c.callee, c.args.toList, c.argTypes.toList with
    | .builtin .append, [x', y'], [t, t'] => t == t' && sliceOk P t sz (fun e i => decide (i.bytes ≤ 32768) && hasZero P e) && rdB x' x && rdB y' y
    | _, _, _ => false
  | .mks sz zs x, .makeSlice t x1 x2 => sliceOk P t sz (fun e i => decide (i.bytes ≤ 32768) && zeroB P e zs) && (match x1, x2 with | .tmp p, .tmp q => p == q | _, _ => false) && rdB x1 x
  | .minmax mx [x, y], .call c => match c.callee, c.args.toList with
    | .builtin b, [x', y'] => b == (if mx then .max else .min) && rdB x' x && rdB y' y
    | _, _ => false
  | _, _ => false

theorem fieldOk_spec {t : TypeId} {i off : Nat} {k : Field → Bool} (h : fieldOk P t i off k = true) : ∃ fs f, P.underlying t = some (.struct fs) ∧ fs[i]? = some f ∧ f.offset = off ∧ k f = true := by
  unfold fieldOk at h
  split at h
  · split at h
    · rename_i fs hu _ f hf
      simp only [Bool.and_eq_true, beq_iff_eq] at h
      exact ⟨fs, f, hu, hf, h.1, h.2⟩
    · cases h
  · cases h
theorem sliceOk_spec {t : TypeId} {sz : Nat} {k : TypeId → TypeInfo → Bool} (h : sliceOk P t sz k = true) : ∃ e i, P.underlying t = some (.slice e) ∧ P.info? e = some i ∧ i.size = sz ∧ k e i = true := by
  unfold sliceOk at h
  split at h
  · split at h
    · rename_i e hu _ i hf
      simp only [Bool.and_eq_true, beq_iff_eq] at h
      exact ⟨e, i, hu, hf, h.1, h.2⟩
    · cases h
  · cases h
theorem isStr_spec {t : TypeId} (h : isStr P t = true) : P.underlying t = some .string := by
  unfold isStr at h
  split at h
  · assumption
  · cases h
theorem call_eta (c : Call) {x : Operand} {b : Builtin} {ts : Array TypeId} (h1 : c.callee = .builtin b) {xs : List Operand} (h2 : c.args.toList = xs) (h3 : c.argTypes = ts) : c = { callee := .builtin b, args := xs.toArray, argTypes := ts } := by
  obtain ⟨c1, c2, c3⟩ := c
  simp only at h1 h2 h3
  subst h1; subst h2; subst h3
  simp

theorem step_sim (h : Rel CR N g lam F H a w) {o : Oper} {io : IOp} {d : Option Nat} (hd : ∀ t, d = some t → t < N) (hop : opB P o.op io = true)
    {v : V} {F' : Fr} {H' : Hp} (hs : stepV io d F H = some (v, F', H')) : Sim P CR N o d v F' H' g a w := by
  generalize ho : o.op = op at hop
  unfold opB at hop
  split at hop
  · exact sim_mv h hd (.inl ho) hop hs
  · exact sim_mv h hd (.inr ho) hop hs
  · simp only [Bool.and_eq_true] at hop; exact sim_pick h hd ho hop.1.1 hop.1.2 hop.2 hs
  · exact sim_boxL h hd ho hop hs
  · exact sim_boxG h hd ho hop hs
  · exact sim_allocL h hd ho hop hs
  · exact sim_allocG h hd ho hop hs
  · split at hop
    · rename_i hu; simp only [Bool.and_eq_true] at hop; exact sim_build h hd ho hu hop.1.1 hop.1.2 hop.2 hs
    · rename_i hu
      split at hop
      · rename_i hi; simp only [Bool.and_eq_true] at hop; exact sim_buildA h hd ho hu hi hop.1 hop.2 hs
      · cases hop
    · cases hop
  · obtain ⟨e, i, h1, h2, h3, h4⟩ := sliceOk_spec hop
    simp only [Bool.and_eq_true, beq_iff_eq, decide_eq_true_eq] at h4
    exact sim_blist h hd ho h1 h4.1.1.1 (by rw [h2]; simp [h3]) h4.1.1.2 h4.1.2 (by have := h4.2; omega) hs
  · rename_i ag y tk bs t x
    simp only [Bool.and_eq_true, beq_iff_eq] at hop
    cases tk with
    | false => exact sim_load h hd ho hop.1 hop.2 hs
    | true => exact sim_loadT h hd ho hop.1 hop.2 hs
  · simp only [Bool.and_eq_true, beq_iff_eq] at hop; exact sim_store h hd ho hop.1.1 hop.1.2 hop.2 hs
  · rename_i bt op1 x y op' t x' y' ty
    simp only [Bool.and_eq_true, beq_iff_eq, Bool.or_eq_true, bne_iff_ne] at hop
    obtain ⟨⟨⟨⟨rfl, h1⟩, h2⟩, h3⟩, h4⟩ := hop
    exact sim_bin h hd ho h1 h2 h3 (fun e => h4.resolve_left (fun hn => hn e)) hs
  · simp only [Bool.and_eq_true, beq_iff_eq] at hop; obtain ⟨rfl, h1⟩ := hop; exact sim_un h hd ho h1 hs
  · simp only [Bool.and_eq_true] at hop
    obtain ⟨⟨h1, h2⟩, h3⟩ := hop
    split at h2
    · rename_i hu
      simp only [beq_iff_eq] at h2; subst h2
      exact sim_conv h hd ho h1 hu h3 hs
    · cases h2
  · simp only [Bool.and_eq_true] at hop
    obtain ⟨⟨h1, h2⟩, h3⟩ := hop
    obtain ⟨d1, h1⟩ := Option.isSome_iff_exists.1 h1
    exact sim_idS h hd ho h1 (isStr_spec h2) h3 hs
  · rename_i t x t' x'
    simp only [Bool.and_eq_true, beq_iff_eq] at hop
    obtain ⟨⟨rfl, h2⟩, h3⟩ := hop
    cases hu : P.underlying t with
    | none => simp [hu] at h2
    | some d1 => exact sim_ifc h hd ho hu (fun ms e => by subst e; simp [hu] at h2) h3 hs
  · simp only [Bool.and_eq_true, beq_iff_eq] at hop
    obtain ⟨⟨rfl, h2⟩, h3⟩ := hop
    exact sim_mkf h hd ho h2 h3 hs
  · simp only [Bool.and_eq_true] at hop
    obtain ⟨fs, f, k1, k2, k3, k4⟩ := fieldOk_spec hop.1
    cases hi : P.info? f.type with
    | none => simp [hi] at k4
    | some i => simp only [hi, Option.any_some, bne_iff_ne] at k4; exact sim_fa h hd ho k1 k2 k3 hi k4 hop.2 hs
  · simp only [Bool.and_eq_true] at hop
    obtain ⟨fs, f, k1, k2, k3, k4⟩ := fieldOk_spec hop.1
    exact sim_fld h hd ho k1 k2 k3 (by simpa using k4) hop.2 hs
  · simp only [Bool.and_eq_true] at hop
    obtain ⟨e, i, h1, h2, h3, h4⟩ := sliceOk_spec hop.1.1
    exact sim_ia h hd ho h1 h2 h3 hop.1.2 hop.2 hs
  · simp only [Bool.and_eq_true] at hop; exact sim_ixs h hd ho (isStr_spec hop.1.1) hop.1.2 hop.2 hs
  · simp only [Bool.and_eq_true] at hop
    obtain ⟨e, i, h1, h2, h3, h4⟩ := sliceOk_spec hop.1.1.1
    exact sim_slc h hd ho h1 h2 h3 hop.1.1.2 hop.1.2 hop.2 hs
  · simp only [Bool.and_eq_true] at hop; exact sim_slcS h hd ho (isStr_spec hop.1.1.1) hop.1.1.2 hop.1.2 hop.2 hs
  · simp only [Bool.and_eq_true, beq_iff_eq] at hop; obtain ⟨rfl, h1⟩ := hop; exact sim_ext h hd ho h1 hs
  · rename_i str x c
    split at hop
    · rename_i x' t e1 e2 e3
      simp only [Bool.and_eq_true] at hop
      have hc := call_eta c (x := x') e1 e2 rfl
      rw [hc] at ho
      refine sim_len h hd ho (by rw [← e3]) ?_ hop.2 hs
      cases str
      · simp only [Bool.false_eq_true, if_false] at hop ⊢
        have := hop.1
        split at this
        · rename_i e hu; exact ⟨e, hu⟩
        · cases this
      · simp only [if_true] at hop ⊢; exact isStr_spec hop.1
    · cases hop
  · rename_i sz ar x y c
    split at hop
    · rename_i x' y' t t' e1 e2 e3
      simp only [Bool.and_eq_true, beq_iff_eq] at hop
      obtain ⟨⟨⟨rfl, h1⟩, h2⟩, h3⟩ := hop
      obtain ⟨e, i, k1, k2, k3, k4⟩ := sliceOk_spec h1
      simp only [Bool.and_eq_true, decide_eq_true_eq] at k4
      have hc := call_eta c (x := x') (ts := #[t, t]) e1 e2 (by rw [← Array.toList_inj]; simpa using e3)
      rw [hc] at ho
      cases ar with
      | false => exact sim_app h hd ho k1 k2 k3 k4.1 k4.2 h2 h3 hs
      | true => exact sim_appA h hd ho k1 k2 k3 k4.1 k4.2 h2 h3 hs
    · cases hop
  · rename_i sz zs x t x1 x2
    simp only [Bool.and_eq_true] at hop
    obtain ⟨⟨h1, h2⟩, h3⟩ := hop
    obtain ⟨e, i, k1, k2, k3, k4⟩ := sliceOk_spec h1
    simp only [Bool.and_eq_true, decide_eq_true_eq] at k4
    split at h2
    · rename_i p q
      simp only [beq_iff_eq] at h2
      subst h2
      exact sim_mks h hd ho k1 k2 k3 k4.1 k4.2 h3 hs
    · cases h2
  · rename_i mx x y c
    split at hop
    · rename_i b x' y' e1 e2
      simp only [Bool.and_eq_true, beq_iff_eq] at hop
      obtain ⟨⟨rfl, h2⟩, h3⟩ := hop
      have hc := call_eta c (x := x') (ts := c.argTypes) e1 e2 rfl
      rw [hc] at ho
      exact sim_minmax h hd ho h2 h3 hs
    · cases hop
  · cases hop
end Go.Iv
