/- How the abstract machine's values, frames and heaps stand for the model's: ghost state, the relation, and what keeps it. No conditions. -/
import Derived.Test.YtpgojhgfhhgomaaIv
import Derived.RangeFuncRecord
import Derived.OrdersIn
import Derived.RangeFuncOwn
namespace Go.Iv
set_option linter.unusedVariables false

/-- who owns a cell -/
inductive Ow where
  | imm | heap (id : Nat) | other | gone | res (j : Nat) | box (t : Nat) | spare (t j : Nat) | bspare (t j : Nat) | dfr
  deriving DecidableEq
structure Gh where
  m : Nat → Nat → Option Value
  mu : Nat → Option (Nat × Nat × Nat)
  own : Nat → Nat → Ow

mutual
inductive Rep (g : Gh) : V → Value → Prop where
  | junk (v : Value) : Rep g .junk v
  | b (x : Bool) : Rep g (.b x) (.bool x)
  | i (k : IntKind) (n : Int) : Rep g (.i k n) (.int k n)
  | s (x : ByteArray) : Rep g (.s x) (.string x)
  | agg {cs : List V} {vs : Array Value} : RepL g cs vs.toList → Rep g (.agg cs) (.agg vs)
  | nil (sz : Nat) (o : Bool) : Rep g (.list sz [] o) (.slice none 0 0)
  | list {sz : Nat} {xs : List V} {o : Bool} {a : Addr} {cap : Nat} : (xs ≠ [] → a.spot = none) → xs.length ≤ cap → (o = true → xs = [] → cap = 0) → RepE g sz xs a.block a.off → Rep g (.list sz xs o) (.slice (some a) xs.length cap)
  | gptr {id o b base cap : Nat} : g.mu id = some (b, base, cap) → Rep g (.gptr id o) (.pointer (some ⟨b, base + o, none⟩))
  | aptr {sz id i o b base cap : Nat} : g.mu id = some (b, base, cap) → Rep g (.aptr sz id i o) (.pointer (some ⟨b, base + i * sz + o, none⟩))
  | cptr {cs : List V} {a : Addr} : a.spot = none → RepM g cs a.block a.off → Rep g (.cptr cs) (.pointer (some a))
  | nilp : Rep g .nilp (.pointer none)
  | hs {sz id off len b base cap : Nat} : g.mu id = some (b, base, cap) → off + len ≤ cap → Rep g (.hs sz id off len) (.slice (some ⟨b, base + off * sz, none⟩) len (cap - off))
  | fn {f : Fn} {fs cs : List V} {vf vc : Array Value} : RepL g fs vf.toList → RepL g cs vc.toList → Rep g (.fn f fs cs) (.func f vf vc)
  | yld {id b base cap : Nat} : g.mu id = some (b, base, cap) → Rep g (.yld id) (.func (.yield b) #[] #[])
  | nilf : Rep g .nilf .nilFunc
  | iface {t : TypeId} {v : V} {x : Value} : Rep g v x → Rep g (.iface t v) (.iface t x)
  | nili : Rep g .nili .nilIface
  | tuple {cs : List V} {vs : Array Value} : RepL g cs vs.toList → Rep g (.tuple cs) (.tuple vs)
inductive RepL (g : Gh) : List V → List Value → Prop where
  | nil : RepL g [] []
  | cons {c : V} {u : Value} {cs : List V} {us : List Value} : Rep g c u → RepL g cs us → RepL g (c :: cs) (u :: us)
inductive RepM (g : Gh) : List V → Nat → Nat → Prop where
  | nil {b o : Nat} : RepM g [] b o
  | cons {c : V} {u : Value} {cs : List V} {b o : Nat} : c.one = true → g.m b o = some u → Rep g c u → RepM g cs b (o + 1) → RepM g (c :: cs) b o
inductive RepE (g : Gh) : Nat → List V → Nat → Nat → Prop where
  | nil {sz b o : Nat} : RepE g sz [] b o
  | cons {sz : Nat} {x : V} {xs : List V} {b o : Nat} : x.fits sz = true → RepM g x.cells b o → RepE g sz xs b (o + sz) → RepE g sz (x :: xs) b o
end

/-- nothing of the immutable memory, and no place of an object, is forgotten -/
structure Gh.le (g g' : Gh) : Prop where
  m : ∀ b o v, g.m b o = some v → g'.m b o = some v
  mu : ∀ id x, g.mu id = some x → g'.mu id = some x

mutual
theorem Rep.mono {g g' : Gh} (h : g.le g') : ∀ {v : V} {u : Value}, Rep g v u → Rep g' v u
  | _, _, .junk v => .junk v
  | _, _, .b x => .b x
  | _, _, .i k n => .i k n
  | _, _, .s x => .s x
  | _, _, .agg l => .agg (RepL.mono h l)
  | _, _, .nil sz o => .nil sz o
  | _, _, .list a b c e => .list a b c (RepE.mono h e)
  | _, _, .gptr e => .gptr (h.mu _ _ e)
  | _, _, .aptr e => .aptr (h.mu _ _ e)
  | _, _, .cptr a e => .cptr a (RepM.mono h e)
  | _, _, .nilp => .nilp
  | _, _, .hs e l => .hs (h.mu _ _ e) l
  | _, _, .fn a b => .fn (RepL.mono h a) (RepL.mono h b)
  | _, _, .yld e => .yld (h.mu _ _ e)
  | _, _, .nilf => .nilf
  | _, _, .iface e => .iface (Rep.mono h e)
  | _, _, .nili => .nili
  | _, _, .tuple l => .tuple (RepL.mono h l)
theorem RepL.mono {g g' : Gh} (h : g.le g') : ∀ {v : List V} {u : List Value}, RepL g v u → RepL g' v u
  | _, _, .nil => .nil
  | _, _, .cons a b => .cons (Rep.mono h a) (RepL.mono h b)
theorem RepM.mono {g g' : Gh} (h : g.le g') : ∀ {v : List V} {b o : Nat}, RepM g v b o → RepM g' v b o
  | _, _, _, .nil => .nil
  | _, _, _, .cons n e a b => .cons n (h.m _ _ _ e) (Rep.mono h a) (RepM.mono h b)
theorem RepE.mono {g g' : Gh} (h : g.le g') : ∀ {sz : Nat} {v : List V} {b o : Nat}, RepE g sz v b o → RepE g' sz v b o
  | _, _, _, _, .nil => .nil
  | _, _, _, _, .cons f a b => .cons f (RepM.mono h a) (RepE.mono h b)
end

theorem Gh.le.refl (g : Gh) : g.le g := ⟨fun _ _ _ h => h, fun _ _ h => h⟩
theorem Gh.le.trans {a b c : Gh} (h : a.le b) (k : b.le c) : a.le c := ⟨fun x y v e => k.m _ _ _ (h.m _ _ _ e), fun x y e => k.mu _ _ (h.mu _ _ e)⟩

theorem V.one_clr {c : V} (h : c.one = true) : c.clr.one = true := by
  cases c <;> first | exact h | rfl
theorem Rep.flag {g : Gh} {sz : Nat} {xs : List V} {o o' : Bool} {u : Value} (h : Rep g (.list sz xs o) u) (ho : o' = true → xs = [] → o = true) : Rep g (.list sz xs o') u := by
  cases h with
  | nil => exact .nil _ _
  | list a b c e => exact .list a b (fun h1 h2 => c (ho h1 h2) h2) e
theorem Rep.clr1 {g : Gh} {v : V} {u : Value} (h : Rep g v u) : Rep g v.clr1 u := by
  cases v with
  | list sz xs o => exact h.flag (by simp; exact fun h _ => h)
  | _ => exact h
theorem RepL.clr1 {g : Gh} : ∀ {v : List V} {u : List Value}, RepL g v u → RepL g (v.map V.clr1) u
  | _, _, .nil => .nil
  | _, _, .cons a b => .cons a.clr1 (RepL.clr1 b)
theorem Rep.clr {g : Gh} {v : V} {u : Value} (h : Rep g v u) : Rep g v.clr u := by
  cases v with
  | list sz xs o => exact h.flag (by simp; exact fun h _ => h)
  | tuple vs => cases h with | tuple h => exact .tuple h.clr1
  | _ => exact h
theorem Rep.hard1 {g : Gh} {v : V} {u : Value} (h : Rep g v u) : Rep g v.hard1 u := by
  cases v with
  | list sz xs o => exact h.flag (by simp)
  | _ => exact h
theorem RepL.hard1 {g : Gh} : ∀ {v : List V} {u : List Value}, RepL g v u → RepL g (v.map V.hard1) u
  | _, _, .nil => .nil
  | _, _, .cons a b => .cons a.hard1 (RepL.hard1 b)
theorem Rep.hard {g : Gh} {v : V} {u : Value} (h : Rep g v u) : Rep g v.hard u := by
  cases v with
  | list sz xs o => exact h.flag (by simp)
  | agg vs => cases h with | agg h => exact .agg h.hard1
  | _ => exact h
theorem V.one_hard1 {c : V} (h : c.one = true) : c.hard1.one = true := by
  cases c <;> first | exact h | rfl
theorem RepM.hard1 {g : Gh} : ∀ {v : List V} {b o : Nat}, RepM g v b o → RepM g (v.map V.hard1) b o
  | _, _, _, .nil => .nil
  | _, _, _, .cons n e a b => .cons (V.one_hard1 n) e a.hard1 (RepM.hard1 b)
theorem RepL.clr {g : Gh} : ∀ {v : List V} {u : List Value}, RepL g v u → RepL g (v.map V.clr) u
  | _, _, .nil => .nil
  | _, _, .cons a b => .cons a.clr (RepL.clr b)
theorem RepM.clr {g : Gh} : ∀ {v : List V} {b o : Nat}, RepM g v b o → RepM g (v.map V.clr) b o
  | _, _, _, .nil => .nil
  | _, _, _, .cons n e a b => .cons (V.one_clr n) e a.clr (RepM.clr b)
theorem RepL.length {g : Gh} : ∀ {v : List V} {u : List Value}, RepL g v u → v.length = u.length
  | _, _, .nil => rfl
  | _, _, .cons _ b => by simp [RepL.length b]
theorem RepL.get {g : Gh} : ∀ {v : List V} {u : List Value}, RepL g v u → ∀ (j : Nat) (c : V), v[j]? = some c → ∃ x, u[j]? = some x ∧ Rep g c x
  | _, _, .nil, j, c, h => by simp at h
  | _, _, .cons a b, 0, c, h => by simp at h; subst h; exact ⟨_, rfl, a⟩
  | _, _, .cons a b, j + 1, c, h => by simpa using RepL.get b j c (by simpa using h)
theorem RepL.append {g : Gh} : ∀ {v v' : List V} {u u' : List Value}, RepL g v u → RepL g v' u' → RepL g (v ++ v') (u ++ u')
  | _, _, _, _, .nil, h => h
  | _, _, _, _, .cons a b, h => .cons a (RepL.append b h)
theorem RepL.take {g : Gh} : ∀ {v : List V} {u : List Value} (n : Nat), RepL g v u → RepL g (v.take n) (u.take n)
  | _, _, 0, _ => by simp only [List.take_zero]; exact .nil
  | _, _, n + 1, .nil => .nil
  | _, _, n + 1, .cons a b => .cons a (RepL.take n b)
theorem RepL.drop {g : Gh} : ∀ {v : List V} {u : List Value} (n : Nat), RepL g v u → RepL g (v.drop n) (u.drop n)
  | _, _, 0, h => h
  | _, _, n + 1, .nil => .nil
  | _, _, n + 1, .cons a b => RepL.drop n b
theorem RepM.drop {g : Gh} : ∀ {v : List V} {b o : Nat} (n : Nat), n ≤ v.length → RepM g v b o → RepM g (v.drop n) b (o + n)
  | _, _, _, 0, _, h => h
  | _, b, o, n + 1, hn, .nil => by simp at hn
  | _, b, o, n + 1, hn, .cons _ e a r => by
    have := RepM.drop n (by simpa using hn) r
    simpa [Nat.add_assoc, Nat.add_comm 1 n] using this
theorem RepM.take {g : Gh} : ∀ {v : List V} {b o : Nat} (n : Nat), RepM g v b o → RepM g (v.take n) b o
  | _, _, _, 0, h => .nil
  | _, b, o, n + 1, .nil => .nil
  | _, b, o, n + 1, .cons n1 e a r => .cons n1 e a (RepM.take n r)
theorem RepM.get {g : Gh} : ∀ {v : List V} {b o : Nat}, RepM g v b o → ∀ (j : Nat) (c : V), v[j]? = some c → ∃ x, g.m b (o + j) = some x ∧ Rep g c x ∧ c.one = true
  | _, _, _, .nil, j, c, h => by simp at h
  | _, _, _, .cons n e a r, 0, c, h => by simp at h; subst h; exact ⟨_, e, a, n⟩
  | _, _, o, .cons n e a r, j + 1, c, h => by
    obtain ⟨x, h1, h2⟩ := RepM.get r j c (by simpa using h)
    exact ⟨x, by rw [← h1]; congr 1; omega, h2⟩
theorem RepE.get {g : Gh} {sz : Nat} : ∀ {v : List V} {b o : Nat}, RepE g sz v b o → ∀ (j : Nat) (c : V), v[j]? = some c → c.fits sz = true ∧ RepM g c.cells b (o + j * sz)
  | _, _, _, .nil, j, c, h => by simp at h
  | _, _, _, .cons f a r, 0, c, h => by simp at h; subst h; exact ⟨f, by simpa using a⟩
  | _, _, o, .cons f a r, j + 1, c, h => by
    obtain ⟨h1, h2⟩ := RepE.get r j c (by simpa using h)
    refine ⟨h1, ?_⟩
    have e : o + (j + 1) * sz = o + sz + j * sz := by rw [Nat.add_mul]; omega
    rw [e]; exact h2
theorem RepE.drop {g : Gh} {sz : Nat} : ∀ {v : List V} {b o : Nat} (n : Nat), RepE g sz v b o → RepE g sz (v.drop n) b (o + n * sz)
  | _, _, _, 0, h => by simpa using h
  | _, b, o, n + 1, .nil => .nil
  | _, b, o, n + 1, .cons e a r => by
    have := RepE.drop n r
    have e : o + (n + 1) * sz = o + sz + n * sz := by rw [Nat.add_mul]; omega
    rw [e]; exact this
theorem RepE.take {g : Gh} {sz : Nat} : ∀ {v : List V} {b o : Nat} (n : Nat), RepE g sz v b o → RepE g sz (v.take n) b o
  | _, _, _, 0, h => .nil
  | _, b, o, n + 1, .nil => .nil
  | _, b, o, n + 1, .cons e a r => .cons e a (RepE.take n r)
theorem RepE.append {g : Gh} {sz : Nat} : ∀ {v v' : List V} {b o : Nat}, RepE g sz v b o → RepE g sz v' b (o + v.length * sz) → RepE g sz (v ++ v') b o
  | _, _, _, _, .nil, h => by simpa using h
  | _, _, b, o, .cons e a r, h => by
    refine .cons e a (RepE.append r ?_)
    rename_i x xs
    have e : o + (x :: xs).length * sz = o + sz + xs.length * sz := by simp only [List.length_cons]; rw [Nat.add_mul]; omega
    rw [← e]; exact h
theorem V.fits_len {v : V} {n : Nat} (h : v.fits n = true) : v.cells.length = n := by
  cases v <;> simp [V.fits, V.cells] at h ⊢ <;> omega

def ce (w : World) (b o : Nat) : Option Value := w.cell? ⟨b, o, none⟩
def fz (w : World) (b o : Nat) : Bool := w.frozen? ⟨b, o, none⟩

/-- the places behind a slice's end, owned -/
def Spare (g : Gh) (w : World) (tag : Ow) (sz : Nat) (u : Value) : Prop :=
  ∀ a len cap, u = .slice (some a) len cap → a.spot = none ∧ len ≤ cap ∧ ∀ k, k < (cap - len) * sz → g.own a.block (a.off + len * sz + k) = tag ∧ (ce w a.block (a.off + len * sz + k)).isSome = true ∧ fz w a.block (a.off + len * sz + k) = false

def stRel : LSt → LoopState → Prop
  | .ready, .ready => True
  | .busy, .busy => True
  | .done, .done => True
  | _, _ => False
def pendRel : Ex → Option Code → Prop
  | .normal, none => True
  | .ret, some .ret => True
  | .exit id, some (.exit id') => id = id'
  | _, _ => False

/-- an object of the heap, in the world; CR: what ties the two codes -/
def ObOk (CR : Nat → Code → IC → Prop) (g : Gh) (w : World) (id b base cap : Nat) : Ob → Prop
  | .cells cs => ∀ j c, cs[j]? = some c → ∃ u, ce w b (base + j) = some u ∧ fz w b (base + j) = false ∧ g.own b (base + j) = .heap id ∧ Rep g c u ∧ c.one = true
  | .arr sz xs => xs.length ≤ cap ∧ (∀ i x, xs[i]? = some x → x.fits sz = true ∧ ∀ j c, x.cells[j]? = some c → ∃ u, ce w b (base + i * sz + j) = some u ∧ Rep g c u ∧ c.one = true) ∧
      ∀ k, k < cap * sz → (ce w b (base + k)).isSome = true ∧ fz w b (base + k) = false ∧ g.own b (base + k) = .heap id
  | .lp L => ∃ r : Loop, w.heap[b]? = some (.loop r) ∧ g.own b 0 = .heap id ∧ stRel L.st r.state ∧ pendRel L.pend r.pending ∧ r.params.toList = L.params ∧
      (∀ t, Rep g (L.tm t) (r.tmps.getD t undef)) ∧ (∀ p, p ∈ L.params → p < r.tmps.size) ∧ CR r.tmps.size r.assign L.asg ∧ CR r.tmps.size r.body L.body

structure Base (CR : Nat → Code → IC → Prop) (g : Gh) (H : Hp) (w : World) : Prop where
  mem : ∀ b o v, g.m b o = some v → ce w b o = some v ∧ g.own b o = .imm
  fresh : ∀ id, H.next ≤ id → g.mu id = none
  heap : ∀ id ob, H.ob id = some ob → ∃ b base cap, g.mu id = some (b, base, cap) ∧ ObOk CR g w id b base cap ob

/-- what a stretch of the run keeps for everybody else -/
structure Ext (g : Gh) (w : World) (g' : Gh) (w' : World) : Prop where
  le : g.le g'
  size : w.heap.size ≤ w'.heap.size
  other : ∀ (b o : Nat), b < w.heap.size → g.own b o = .other → g'.own b o = .other ∧ ce w' b o = ce w b o
  cells : ∀ (b : Nat) (c : Array Value) (e : TypeId) (f : Nat × Nat), w.heap[b]? = some (Obj.cells c e f) → ∃ c' : Array Value, w'.heap[b]? = some (Obj.cells c' e f) ∧ c'.size = c.size
  objs : ∀ (b : Nat) (ob : Obj), w.heap[b]? = some ob → ob.isCells = false → g.own b 0 = .other → w'.heap[b]? = some ob
  loops : ∀ (b : Nat) (r : Loop), w.heap[b]? = some (.loop r) → ∃ r', w'.heap[b]? = some (.loop r')
  env : w'.os = w.os ∧ w'.output = w.output ∧ ∀ a, w'.frozen? a = w.frozen? a

theorem Ext.refl (g : Gh) (w : World) : Ext g w g w := ⟨.refl g, Nat.le_refl _, fun b o _ h => ⟨h, rfl⟩, fun b c e f h => ⟨c, h, rfl⟩, fun b ob h _ _ => h, fun b r h => ⟨r, h⟩, ⟨rfl, rfl, fun _ => rfl⟩⟩
theorem Ext.trans {g g' g'' : Gh} {w w' w'' : World} (h : Ext g w g' w') (k : Ext g' w' g'' w'') : Ext g w g'' w'' where
  le := h.le.trans k.le
  size := Nat.le_trans h.size k.size
  other b o hb ho := by
    obtain ⟨h1, h2⟩ := h.other b o hb ho
    obtain ⟨k1, k2⟩ := k.other b o (by have := h.size; omega) h1
    exact ⟨k1, k2.trans h2⟩
  cells b c e f hc := by
    obtain ⟨c', h1, h2⟩ := h.cells b c e f hc
    obtain ⟨c'', k1, k2⟩ := k.cells b c' e f h1
    exact ⟨c'', k1, by omega⟩
  objs b ob hb hn ho := by
    have hlt : b < w.heap.size := (Array.getElem?_eq_some_iff.1 hb).1
    exact k.objs b ob (h.objs b ob hb hn ho) hn (h.other b 0 hlt ho).1
  loops b r e := by
    obtain ⟨r', e'⟩ := h.loops b r e
    exact k.loops b r' e'
  env := ⟨k.env.1.trans h.env.1, k.env.2.1.trans h.env.2.1, fun a => (k.env.2.2 a).trans (h.env.2.2 a)⟩

def SRep (g : Gh) (lam : Nat → Option Nat) (v : V) (u : Value) : Prop :=
  match v with
  | .lptr t o => ∃ blk, lam t = some blk ∧ u = .pointer (some ⟨blk, o, none⟩)
  | v => Rep g v u
def SOwn (g : Gh) (w : World) (t : Nat) (v : V) (u : Value) : Prop :=
  match v with
  | .list sz xs true => xs ≠ [] → Spare g w (.spare t 0) sz u
  | .tuple vs => ∀ j sz xs, vs[j]? = some (.list sz xs true) → xs ≠ [] → ∀ us x, u = .tuple us → us[j]? = some x → Spare g w (.spare t j) sz x
  | _ => True
def BoxOk (g : Gh) (w : World) (t blk : Nat) (cs : List V) : Prop :=
  ∀ j c, cs[j]? = some c → ∃ u, ce w blk j = some u ∧ fz w blk j = false ∧ g.own blk j = .box t ∧ Rep g c u ∧ c.one = true ∧ ∀ sz xs, c = .list sz xs true → xs ≠ [] → Spare g w (.bspare t j) sz u

structure Rel (CR : Nat → Code → IC → Prop) (N : Nat) (g : Gh) (lam : Nat → Option Nat) (F : Fr) (H : Hp) (a : Act) (w : World) : Prop where
  base : Base CR g H w
  sz : a.tmps.size = N
  slot : ∀ t, SRep g lam (F.tm t) (a.tmps.getD t undef)
  sown : ∀ t, SOwn g w t (F.tm t) (a.tmps.getD t undef)
  box : ∀ t cs, F.bx t = some cs → ∃ blk, lam t = some blk ∧ BoxOk g w t blk cs
  ptr : ∀ t t' o, F.tm t = .lptr t' o → F.bx t' ≠ none
  dfr : ∀ d ∈ a.defers, ∃ r, d = { target := .collected r, args := #[] } ∧ w.heap[r]? = some (.deferred (some [])) ∧ g.own r 0 = .dfr
  dfrN : a.defers.Pairwise (fun d d' => d.target ≠ d'.target)
end Go.Iv
