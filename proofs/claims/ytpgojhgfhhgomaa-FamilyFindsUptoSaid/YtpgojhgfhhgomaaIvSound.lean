/- The code, walked. No conditions. -/
import Derived.Test.YtpgojhgfhhgomaaIvDraw2
import Derived.LoopNIn
import Derived.RangeFuncNested
namespace Go.Iv
set_option linter.unusedVariables false
set_option linter.unusedSimpArgs false
variable {P : Program} {CR : Nat → Code → IC → Prop} {N : Nat} {g g' : Gh} {lam : Nat → Option Nat} {F : Fr} {H : Hp} {a : Act} {w w' : World}

/-- fewer things known -/
theorem Rel.sub (h : Rel CR N g lam F H a w) {F' : Fr} (ht : ∀ t, F'.tm t = F.tm t ∨ F'.tm t = .junk) (hb : ∀ t cs, F'.bx t = some cs → F.bx t = some cs) (hp : ∀ t t' o, F'.tm t = .lptr t' o → F'.bx t' ≠ none) : Rel CR N g lam F' H a w where
  base := h.base
  sz := h.sz
  slot t := by
    rcases ht t with e | e
    · rw [e]; exact h.slot t
    · rw [e]; exact Rep.junk _
  sown t := by
    rcases ht t with e | e
    · rw [e]; exact h.sown t
    · rw [e]; trivial
  box t cs e := h.box t cs (hb t cs e)
  ptr := hp
  dfr := h.dfr
  dfrN := h.dfrN

theorem look_map (f : Nat → V) (t : Nat) : ∀ ks : List Nat, look (ks.map fun t => (t, f t)) t = if t ∈ ks then f t else .junk
  | [] => by simp [look]
  | k :: ks => by
    simp only [List.map_cons, look, look_map f t ks, List.mem_cons]
    by_cases h : t = k
    · simp [h]
    · simp [h]
theorem lookB_map (f : Nat → Option (List V)) (t : Nat) : ∀ ks : List Nat, lookB (ks.map fun t => (t, f t)) t = if t ∈ ks then f t else none
  | [] => by simp [lookB]
  | k :: ks => by
    simp only [List.map_cons, lookB, lookB_map f t ks, List.mem_cons]
    by_cases h : t = k
    · simp [h]
    · simp [h]
theorem keep_tm (F : Fr) (ks : List Nat) (t : Nat) : (F.keep ks).tm t = if t ∈ ks then (match F.tm t with | .lptr t' o => if ks.contains t' then .lptr t' o else .junk | v => v) else .junk := look_map _ t ks
theorem keep_bx (F : Fr) (ks : List Nat) (t : Nat) : (F.keep ks).bx t = if t ∈ ks then F.bx t else none := lookB_map _ t ks
theorem Rel.keep (h : Rel CR N g lam F H a w) (ks : List Nat) : Rel CR N g lam (F.keep ks) H a w := by
  refine h.sub (fun t => ?_) (fun t cs e => ?_) (fun t t' o e => ?_)
  · rw [keep_tm]
    split
    · split
      · rename_i t' o e
        split
        · exact .inl e.symm
        · exact .inr rfl
      · exact .inl rfl
    · exact .inr rfl
  · rw [keep_bx] at e
    split at e
    · exact e
    · cases e
  · rw [keep_tm] at e
    split at e
    · split at e
      · rename_i t1 o1 e1
        split at e
        · rename_i hc
          cases e
          rw [keep_bx, if_pos (by simpa using hc)]
          exact h.ptr _ _ _ e1
        · cases e
      · rename_i hn; exact absurd e (hn t' o)
    · cases e
theorem Rel.frzAll : ∀ (ks : List Nat) {F : Fr} {g : Gh}, Rel CR N g lam F H a w → ∃ g', Rel CR N g' lam (F.frzAll ks) H a w ∧ Ext g w g' w
  | [], F, g, h => ⟨g, h, .refl g w⟩
  | t :: r, F, g, h => by
    simp only [Fr.frzAll]
    split
    · rename_i t' cs e1 e2
      split
      · rename_i ht
        subst ht
        obtain ⟨g1, h1, h2, _⟩ := h.frz e2 ⟨0, e1, rfl⟩
        obtain ⟨g2, h3, h4⟩ := Rel.frzAll r h1
        exact ⟨g2, h3, h2.trans h4⟩
      · exact Rel.frzAll r h
    · exact Rel.frzAll r h

def codeB (P : Program) (N : Nat) : IC → Code → Bool
  | .skip, c => match c with | .skip => true | .label _ => true | _ => false
  | .reg ios _ dr, c => match c with | .region _ ops dr' => dr == dr' && iosB P N ops ops.toList ios && (!dr || drawB ops ios) | _ => false
  | .seq x y, c => match c with | .seq x' y' => codeB P N x x' && codeB P N y y' | _ => false
  | .cond k x y, c => match c with | .cond k' x' y' => rdB k' k && codeB P N x x' && codeB P N y y' | _ => false
  | .block id x, c => match c with | .block id' x' => id == id' && codeB P N x x' | _ => false
  | .loop x, c => match c with | .loop x' => codeB P N x x' | _ => false
  | .scope x, c => match c with | .scope x' => codeB P N x x' | _ => false
  | .rf f ps _ x y, c => match c with | .rangeFunc f' ps' x' y' => rdB f' f && ps'.toList == ps && ps.all (fun p => decide (p < N)) && codeB P N x x' && codeB P N y y' | _ => false
  | .exit id, c => match c with | .exit id' => id == id' | _ => false
  | .ret, c => match c with | .ret => true | _ => false

theorem stepR_scope {b : Frame} {k : List Item} {cs : List Frame} {c : Code} : step P (lone (b.atR a (.code (.scope c) :: k)) cs w) = .next (lone (b.atR a (.code c :: .inScope c :: k)) cs w) :=
  step_lone_go (by simp [stepG, stepG.exec, Frame.atR])
theorem stepR_inScope {b : Frame} {k : List Item} {cs : List Frame} {c : Code} : step P (lone (b.atR a (.inScope c :: k)) cs w) = .next (lone (b.atR a k) cs w) :=
  step_lone_go (by simp [stepG, stepG.exec, Frame.atR])
theorem wpIn_scope {F : Fence} {n : Nat} {Q : Exit → Act → World → Prop} {c : Code} (h : c.wpIn F n P (fun e a w => (∀ l, e ≠ .goto l) ∧ Q e a w) a w) : (Code.scope c).wpIn F n P Q a w := by
  intro b k cs hro hb hr
  have h0 : (lone (b.atR a (.code (.scope c) :: k)) cs w).fenced P F := fenced_calm hb hr rfl
  obtain ⟨e, a₁, w₁, ⟨hg, hq⟩, harr⟩ := h b (.inScope c :: k) cs hro hb hr
  cases e with
  | normal => exact ⟨.normal, a₁, w₁, hq, .head h0 stepR_scope (StepsIn.trans harr (.one (fenced_calm hb hr rfl) stepR_inScope))⟩
  | exit id =>
    have hx : exitTo id (.inScope c :: k) = exitTo id k := by simp [exitTo]
    exact ⟨.exit id, a₁, w₁, hq, fun k' hk => .head h0 stepR_scope (harr.1 k' (by rw [hx]; exact hk)),
      fun hr' hk => let ⟨k₁, h1, h2⟩ := harr.2 hr' (by rw [hx]; exact hk); ⟨k₁, h1, .head h0 stepR_scope h2⟩⟩
  | goto l => exact absurd rfl (hg l)
  | ret => exact ⟨_, a₁, w₁, hq, .of_steps (.one h0 stepR_scope) harr⟩
  | panic ch => exact ⟨_, a₁, w₁, hq, .of_steps (.one h0 stepR_scope) harr⟩
  | outgrown => exact ⟨_, a₁, w₁, hq, .of_steps (.one h0 stepR_scope) harr⟩
def exM (g : Gh) : Ex → Exit → Prop
  | .normal, x => x = .normal
  | .exit i, x => x = .exit i
  | .ret, x => x = .ret
  | .panic v, x => ∃ u, x = .panic [{ v := u, recovered := false }] ∧ Rep g v u
def Post (CR : Nat → Code → IC → Prop) (N : Nat) (g0 : Gh) (w0 : World) (F' : Fr) (H' : Hp) (e : Ex) : Exit → Act → World → Prop :=
  fun x a' w' => ∃ g' lam', Rel CR N g' lam' F' H' a' w' ∧ Ext g0 w0 g' w' ∧ exM g' e x
def Rnd (Fc : Fence) (w : World) : Prop := ∀ l, Fc.round = some l → ∃ r, w.heap[l]? = some (.loop r)
theorem Rnd.ext {Fc : Fence} (h : Rnd Fc w) (hx : Ext g w g' w') : Rnd Fc w' := fun l e => by
  obtain ⟨r, hr⟩ := h l e
  exact hx.loops l r hr
theorem Post.ext {g0 : Gh} {w0 : World} {e : Ex} {x : Exit} (hx : Ext g0 w0 g w) (h : Post CR N g w F H e x a w') : Post CR N g0 w0 F H e x a w' := by
  obtain ⟨g', lam', h1, h2, h3⟩ := h
  exact ⟨g', lam', h1, hx.trans h2, h3⟩
theorem exM_ne {e : Ex} {x : Exit} (h : exM g e x) (he : e ≠ .normal) {K : Act → World → Prop} {Q : Exit → Act → World → Prop} : Exit.then K Q x a w = Q x a w := by
  cases e with
  | normal => exact absurd rfl he
  | exit i => cases h; rfl
  | ret => cases h; rfl
  | panic v => obtain ⟨u, rfl, _⟩ := h; rfl

theorem ce_putObj {l : Nat} {o o' : Obj} (hl : w.heap[l]? = some o) (ho : o.isCells = false) (ho' : o'.isCells = false) (b j : Nat) : ce (w.putObj l o') b j = ce w b j ∧ fz (w.putObj l o') b j = fz w b j := by
  unfold ce fz World.cell? World.frozen?
  by_cases hb : b = l
  · subst hb
    have hlt : b < w.heap.size := (Array.getElem?_eq_some_iff.1 hl).1
    simp only [World.putObj_heap_same hlt, hl]
    cases o <;> cases o' <;> simp_all [Obj.isCells]
  · simp only [World.putObj_heap_other hb]
    exact ⟨trivial, trivial⟩
theorem frz_putObj {l : Nat} {o o' : Obj} (hl : w.heap[l]? = some o) (ho : o.isCells = false) (ho' : o'.isCells = false) (a : Addr) : (w.putObj l o').frozen? a = w.frozen? a := by
  unfold World.frozen?
  by_cases hb : a.block = l
  · have hlt : l < w.heap.size := (Array.getElem?_eq_some_iff.1 hl).1
    rw [hb, World.putObj_heap_same hlt, hl]
    cases o <;> cases o' <;> first | rfl | (cases ho; done) | (cases ho'; done)
  · rw [World.putObj_heap_other hb]
theorem tr_putObj (g : Gh) {l id : Nat} {o o' : Obj} (hl : w.heap[l]? = some o) (ho : o.isCells = false) (ho' : o'.isCells = false) {tag : Ow} (hown : g.own l 0 = tag) : Tr (fun x => x ≠ tag) g w g (w.putObj l o') where
  le := .refl g
  cell b j _ _ := ⟨rfl, (ce_putObj hl ho ho' b j).1, (ce_putObj hl ho ho' b j).2⟩
  objs b ob e _ hn := by
    refine ⟨?_, rfl⟩
    rw [World.putObj_heap_other (fun hb => hn (by rw [hb]; exact hown))]
    exact e
theorem Rel.putLoop (h : Rel CR N g lam F H a w) {l id base cap : Nat} {r r' : Loop} (hl : w.heap[l]? = some (.loop r)) (hown : g.own l 0 = .heap id) (x : Option Ob) (hx : ∀ ob, x = some ob → g.mu id = some (l, base, cap) ∧ ObOk CR g (w.putObj l (.loop r')) id l base cap ob) :
    Rel CR N g lam F (H.put id x) a (w.putObj l (.loop r')) ∧ Ext g w g (w.putObj l (.loop r')) := by
  have T := tr_putObj (id := id) g hl rfl (o' := .loop r') rfl hown
  refine ⟨⟨h.base.tr T (fun b o v e => by rw [(ce_putObj hl rfl (o' := .loop r') rfl b o).1]; exact h.base.mem b o v e) h.base.fresh (fun id' ob' e => ?_), h.sz, fun s => (h.slot s).tr T.le, fun s => (h.sown s).tr T (fun _ _ => by simp), fun t' cs2 hb' => ?_, h.ptr, fun d e => ?_, h.dfrN⟩, ⟨.refl g, by simp, fun b o _ e => ⟨e, (ce_putObj hl rfl (o' := .loop r') rfl b o).1⟩, fun b c e f hc => ⟨c, ?_, rfl⟩, fun b ob e hn ho => ?_, fun b r1 e => ?_, ⟨rfl, rfl, fun a => frz_putObj hl rfl rfl a⟩⟩⟩
  · by_cases hi : id' = id
    · subst hi
      simp only [Hp.put, upd, if_true] at e
      exact .inr ⟨l, base, cap, (hx _ e).1, (hx _ e).2⟩
    · simp only [Hp.put, upd, hi, if_false] at e
      exact .inl ⟨e, by simp [hi]⟩
  · obtain ⟨blk2, e1, e2⟩ := h.box t' cs2 hb'
    exact ⟨blk2, e1, e2.tr T (by simp) (fun _ => by simp)⟩
  · obtain ⟨r, e1, e2, e3⟩ := h.dfr d e
    obtain ⟨t1, t2⟩ := T.objs r _ e2 rfl (by rw [e3]; simp)
    exact ⟨r, e1, t1, t2.trans e3⟩
  · rw [World.putObj_heap_other (fun hb => by subst hb; rw [hl] at hc; cases hc)]; exact hc
  · rw [World.putObj_heap_other (fun hb => by subst hb; rw [hown] at ho; cases ho)]; exact e
  · by_cases hb : b = l
    · subst hb; exact ⟨r', World.putObj_heap_same (Array.getElem?_eq_some_iff.1 hl).1⟩
    · exact ⟨r1, by rw [World.putObj_heap_other hb]; exact e⟩
end Go.Iv
