/- The abstract machine: values as trees, a small code, and an executable interpreter. Nothing is proved here; no conditions. -/
import GoSem.Step
namespace Go.Iv
set_option linter.unusedVariables false

inductive V where
  | junk
  | b (x : Bool) | i (k : IntKind) (n : Int) | s (x : ByteArray)
  | agg (cs : List V)
  | list (sz : Nat) (xs : List V) (own : Bool)
  | lptr (t o : Nat) | gptr (id o : Nat) | aptr (sz id i o : Nat) | cptr (cs : List V) | nilp
  | hs (sz id off len : Nat)
  | fn (f : Fn) (first cap : List V) | yld (id : Nat) | nilf
  | iface (t : TypeId) (v : V) | nili
  | tuple (vs : List V)
  deriving Inhabited

/-- without what it owns; an owned empty list has nothing behind it, and may be copied -/
def V.clr1 : V → V
  | .list sz xs o => .list sz xs (o && xs.isEmpty)
  | v => v
def V.clr : V → V
  | .list sz xs o => .list sz xs (o && xs.isEmpty)
  | .tuple vs => .tuple (vs.map V.clr1)
  | v => v
def V.hard1 : V → V
  | .list sz xs _ => .list sz xs false
  | v => v
/-- as others see it -/
def V.hard : V → V
  | .list sz xs _ => .list sz xs false
  | .agg cs => .agg (cs.map V.hard1)
  | v => v
def V.cells : V → List V
  | .agg cs => cs
  | v => [v]
/-- may leave the frame -/
def V.free : V → Bool
  | .lptr _ _ => false
  | .junk => false
  | .tuple _ => false
  | _ => true
/-- lies in one cell -/
def V.one : V → Bool
  | .agg _ => false
  | .tuple _ => false
  | .junk => false
  | _ => true
/-- of an aggregate's size n, or a single cell -/
def V.fits (n : Nat) : V → Bool
  | .agg cs => cs.length == n
  | _ => n == 1

/-- a variable's value of n cells, for anybody -/
def V.good (n : Nat) (v : V) : Bool := v.free && v.fits n && v.cells.all V.one
inductive Rd where
  | t (n : Nat) | c (v : V)
  deriving Inhabited
/-- what a load or store may touch, said by the text -/
inductive Bs where
  | any | L (t : Nat) | C | G
  deriving Inhabited, DecidableEq

inductive BT where
  | int | bool | str | ifc | ptr | fn | agg (n : Nat)
  deriving Inhabited, DecidableEq
inductive IOp where
  | mv (x : Rd) (take : Bool)
  | pick (c x y : Rd)
  | boxL (x : Rd) | boxG (x : Rd) | allocL (zs : List V) | allocG (zs : List V)
  | build (zs : List V) (parts : List (Nat × Nat × Rd))
  | blist (sz : Nat) (xs : List Rd)
  | load (agg : Option Nat) (x : Rd) (take : Bool) (bs : Bs)
  | store (n : Nat) (x v : Rd) (take : Bool) (bs : Bs)
  | bin (bt : BT) (op : BinOp) (x y : Rd)
  | un (op : UnOp) (x : Rd)
  | conv (k : IntKind) (x : Rd)
  | ifc (t : TypeId) (x : Rd)
  | mkf (fn : Fn) (first caps : List Rd)
  | fa (off : Nat) (x : Rd)
  | fld (off : Nat) (agg : Option Nat) (x : Rd)
  | ia (sz : Nat) (x i : Rd)
  | ixs (x i : Rd)
  | slc (sz : Option Nat) (x : Rd) (lo hi : Option Rd)
  | idS (x : Rd)
  | ext (x : Rd) (i : Nat)
  | len (str : Bool) (x : Rd)
  | app (sz : Nat) (arr : Bool) (x y : Rd)
  | mks (sz : Nat) (zs : List V) (n : Rd)
  | minmax (mx : Bool) (xs : List Rd)
  | pan (x : Rd)
  | callF (k : Nat) (args : List Rd)
  | callV (x : Rd) (args : List Rd)
  deriving Inhabited

structure Ins where
  dst : Option Nat
  op : IOp
  g : Option (Nat × Bool)
  deriving Inhabited

inductive IC where
  | skip
  | reg (ops : List Ins) (keep : List Nat) (draw : Bool)
  | seq (a b : IC)
  | cond (c : Rd) (x y : IC)
  | block (id : Nat) (c : IC)
  | loop (c : IC)
  | scope (c : IC)
  | rf (f : Rd) (params : List Nat) (keep : List Nat) (asg body : IC)
  | exit (id : Nat)
  | ret
  deriving Inhabited

inductive Res where
  | tmp (t : Nat) | cell (t : Nat) (agg : Option Nat) | arr (t : Nat)
  deriving Inhabited
structure IFn where
  np : Nat
  res : List Res
  rclr : Bool
  pure : Bool
  code : IC
  deriving Inhabited

inductive Ex where
  | normal | exit (id : Nat) | ret | panic (v : V)
  deriving Inhabited
inductive LSt where
  | ready | busy | done
  deriving Inhabited, DecidableEq
structure LR where
  tm : Nat → V
  params : List Nat
  asg : IC
  body : IC
  st : LSt
  pend : Ex
inductive Ob where
  | cells (cs : List V)
  | arr (sz : Nat) (xs : List V)
  | lp (l : LR)
structure Hp where
  next : Nat
  ob : Nat → Option Ob
structure Fr where
  tm : Nat → V
  bx : Nat → Option (List V)
inductive RV where
  | ret (v : V) | pan (v : V)
  deriving Inhabited
inductive Tg where
  | fn (k : Nat) | yld (id : Nat)
  deriving Inhabited

def upd {α : Type} (f : Nat → α) (t : Nat) (v : α) : Nat → α := fun j => if j = t then v else f j
def Fr.put (F : Fr) (d : Option Nat) (v : V) : Fr := match d with | some d => { F with tm := upd F.tm d v } | none => F
def Fr.box (F : Fr) (t : Nat) (c : Option (List V)) : Fr := { F with bx := upd F.bx t c }
def Hp.put (H : Hp) (id : Nat) (o : Option Ob) : Hp := { H with ob := upd H.ob id o }
def Hp.new (H : Hp) (o : Ob) : Hp := { next := H.next + 1, ob := upd H.ob H.next (some o) }
def Hp.adv (H : Hp) (k : Nat) : Hp := { H with next := H.next + k }
def Rd.get (F : Fr) : Rd → V | .t n => F.tm n | .c v => v
def Rd.val (F : Fr) (x : Rd) : V := (x.get F).clr
def Rd.out (F : Fr) (x : Rd) : V := (x.val F).hard

/-- a part of a row of cells: one cell, or an aggregate of n -/
def part (cs : List V) (o : Nat) : Option Nat → Option V
  | none => (cs[o]?).map V.clr
  | some n => if o + n ≤ cs.length then some (.agg (((cs.drop o).take n).map V.clr)) else none
def splice (cs : List V) (o : Nat) (vs : List V) : Option (List V) :=
  if o + vs.length ≤ cs.length then some (cs.take o ++ vs ++ cs.drop (o + vs.length)) else none
def ofCells (old : V) (cs : List V) : V := match old with | .agg _ => .agg cs | _ => match cs with | [v] => v | cs => .agg cs
def stv (w : V) : List V := match w with | .agg cs => cs.map V.clr | w => [w]
def limit : Nat := 4294967296
/-- an element of these cells -/
def elemOf : List V → V
  | [z] => z
  | zs => .agg zs

def binInt (op : BinOp) (k : IntKind) (x y : Int) : Option V :=
  match op with
  | .add => some (.i k (k.wrap (x + y)))
  | .sub => some (.i k (k.wrap (x - y)))
  | .mul => some (.i k (k.wrap (x * y)))
  | .quo => if y = 0 then none else some (.i k (k.wrap (x.tdiv y)))
  | .rem => if y = 0 then none else some (.i k (x.tmod y))
  | .eql => some (.b (decide (x = y)))
  | .neq => some (.b (!decide (x = y)))
  | .lss => some (.b (decide (x < y)))
  | .leq => some (.b (decide (x ≤ y)))
  | .gtr => some (.b (decide (y < x)))
  | .geq => some (.b (decide (y ≤ x)))
  | _ => none
def eqV (op : BinOp) (r : Bool) : Option V := match op with | .eql => some (.b r) | .neq => some (.b (!r)) | _ => none
def aggEq : List V → List V → Option Bool
  | [], [] => some true
  | .i k n :: cs, .i k' n' :: cs' => if k = k' then (aggEq cs cs').map fun r => decide (n = n') && r else none
  | _, _ => none
def binV (bt : BT) (op : BinOp) (x y : V) : Option V :=
  match bt, x, y with
  | .int, .i k a, .i k' c => if k = k' then binInt op k a c else none
  | .bool, .b a, .b c => eqV op (a == c)
  | .str, .s a, .s c => match op with
    | .eql => some (.b (decide (a = c)))
    | .neq => some (.b (!decide (a = c)))
    | .add => if a.size + c.size ≤ limit then some (.s (a ++ c)) else none
    | .lss => some (.b (Op.bytesLess a.data.toList c.data.toList))
    | .leq => some (.b (Op.bytesLess a.data.toList c.data.toList || decide (a = c)))
    | .gtr => some (.b (!(Op.bytesLess a.data.toList c.data.toList || decide (a = c))))
    | .geq => some (.b (!(Op.bytesLess a.data.toList c.data.toList)))
    | _ => none
  | .ifc, .nili, .nili => eqV op true
  | .ifc, .iface _ _, .nili => eqV op false
  | .fn, .nilf, .nilf => eqV op true
  | .fn, .fn _ _ _, .nilf => eqV op false
  | .ptr, .nilp, .nilp => eqV op true
  | .ptr, .gptr _ _, .nilp => eqV op false
  | .ptr, .cptr _, .nilp => eqV op false
  | .agg n, .agg cs, .agg cs' => if cs.length = n then (aggEq cs cs').bind fun r => eqV op r else none
  | _, _, _ => none

def buildV (F : Fr) : List V → List (Nat × Nat × Rd) → Option (List V)
  | zs, [] => some zs
  | zs, (o, n, x) :: r =>
    let v := x.val F
    if v.free && v.fits n then (splice zs o v.cells).bind fun zs' => buildV F zs' r else none
def valsV (F : Fr) (sz : Nat) : List Rd → Option (List V)
  | [] => some []
  | x :: r => let v := x.out F; if v.good sz then (valsV F sz r).map (v :: ·) else none
/-- values that leave the frame -/
def argsV (F : Fr) : List Rd → Option (List V)
  | [] => some []
  | x :: r => let v := x.out F; if v.free then (argsV F r).map (v :: ·) else none
def frz (F : Fr) (t : Nat) (cs : List V) : Fr :=
  { tm := upd (fun j => match F.tm j with | .lptr t' o => if t' = t then .junk else .lptr t' o | v => v) t (.cptr (cs.map V.hard1)), bx := upd F.bx t none }
/-- what a function captures: a local box is frozen -/
def capsV (F : Fr) : List Rd → Option (List V × Fr)
  | [] => some ([], F)
  | x :: r =>
    match x with
    | .t s =>
      match F.tm s with
      | .lptr t 0 => if t = s then match F.bx t with
          | some cs => (capsV (frz F t cs) r).map fun (vs, F') => (.cptr (cs.map V.hard1) :: vs, F')
          | none => none
        else none
      | .lptr _ _ => none
      | v => (capsV F r).map fun (vs, F') => (v.clr.hard :: vs, F')
    | .c v => if v.free then (capsV F r).map fun (vs, F') => (v.clr.hard :: vs, F') else none
def idx (v : V) : Option Nat := match v with | .i _ n => if 0 ≤ n then some n.toNat else none | _ => none
def oidx (F : Fr) (d : Nat) : Option Rd → Option Nat | none => some d | some x => idx (x.get F)

def bsOk (bs : Bs) (v : V) : Bool :=
  match bs, v with
  | .any, _ => true
  | .L t, .lptr t' _ => t == t'
  | .L _, .cptr _ => true
  | .C, .cptr _ => true
  | .G, .gptr _ _ => true
  | .G, .aptr _ _ _ _ => true
  | .G, .cptr _ => true
  | _, _ => false

/-- what a store puts down, and the frame without it -/
def stVal (F : Fr) : Rd → Bool → V
  | .t s, true => F.tm s
  | .t s, false => (F.tm s).clr
  | .c c, _ => c.clr
def stFr (F : Fr) : Rd → Bool → Fr
  | .t s, true => { F with tm := upd F.tm s .junk }
  | .t _, false => F
  | .c _, _ => F
/-- one operation: its value, and what becomes of frame and heap -/
def stepV (op : IOp) (d : Option Nat) (F : Fr) (H : Hp) : Option (V × Fr × Hp) :=
  match op with
  | .mv (.t s) true => some (F.tm s, { F with tm := upd F.tm s .junk }, H)
  | .mv (.t s) false => some ((F.tm s).clr, F, H)
  | .mv (.c v) _ => some (v, F, H)
  | .pick c x y => match c.get F with | .b t => some ((if t then x else y).val F, F, H) | _ => none
  | .boxL x => match d with
    | some t => match F.bx t with
      | none => if (x.val F).free && (x.val F).cells.all V.one then some (.lptr t 0, F.box t (some ((x.val F).cells.map V.clr)), H) else none
      | some _ => none
    | none => none
  | .allocL zs => match d with
    | some t => match F.bx t with
      | none => some (.lptr t 0, F.box t (some zs), H)
      | some _ => none
    | none => none
  | .boxG x => if (x.val F).free && (x.val F).cells.all V.one then some (.gptr H.next 0, F, H.new (.cells ((x.val F).cells.map V.hard1))) else none
  | .allocG zs => some (.gptr H.next 0, F, H.new (.cells zs))
  | .build zs ps => (buildV F zs ps).map fun cs => (.agg cs, F, H)
  | .blist sz xs => (valsV F sz xs).map fun vs => (.list sz vs true, F, H)
  | .load agg x take bs =>
    let p := x.get F
    if bsOk bs p then
      match p with
      | .cptr cs => (part cs 0 agg).map fun v => (v, F, H)
      | .lptr t o => (F.bx t).bind fun cs =>
        match agg, take with
        | none, true => (cs[o]?).map fun v => (v, F.box t (some (cs.set o v.clr)), H)
        | agg, _ => (part cs o agg).map fun v => (v, F, H)
      | .gptr id o => match H.ob id with | some (.cells cs) => (part cs o agg).map fun v => (v, F, H) | _ => none
      | .aptr sz id i o => match H.ob id with | some (.arr sz' xs) => if sz' = sz then (xs[i]?).bind fun x => (part x.cells o agg).map fun v => (v, F, H) else none | _ => none
      | _ => none
    else none
  | .store n x v take bs =>
    if bsOk bs (x.get F) && (stVal F v take).good n then
      match x.get F with
      | .lptr t o => (F.bx t).bind fun cs => (splice cs o (stv (stVal F v take))).map fun cs' => (.tuple [], (stFr F v take).box t (some cs'), H)
      | .gptr id o => match H.ob id with | some (.cells cs) => (splice cs o ((stVal F v take).cells.map V.hard1)).map fun cs' => (.tuple [], stFr F v take, H.put id (some (.cells cs'))) | _ => none
      | .aptr sz id i o => match H.ob id with
        | some (.arr sz' xs) => if sz' = sz then (xs[i]?).bind fun x => (splice x.cells o ((stVal F v take).cells.map V.hard1)).map fun cs' => (.tuple [], stFr F v take, H.put id (some (.arr sz (xs.set i (ofCells x cs'))))) else none
        | _ => none
      | _ => none
    else none
  | .bin bt op x y => (binV bt op (x.get F) (y.get F)).map fun v => (v, F, H)
  | .un op x => match op, x.get F with
    | .not, .b t => some (.b (!t), F, H)
    | .neg, .i k n => some (.i k (k.wrap (0 - n)), F, H)
    | _, _ => none
  | .conv k x => match x.get F with | .i _ n => some (.i k (k.wrap n), F, H) | _ => none
  | .ifc t x => if (x.out F).free then some (.iface t (x.out F), F, H) else none
  | .mkf fn first caps => (argsV F first).bind fun fs => (capsV F caps).map fun (vs, F') => (.fn fn fs vs, F', H)
  | .fa off x => match x.get F with
    | .cptr cs => if off ≤ cs.length then some (.cptr (cs.drop off), F, H) else none
    | .lptr t o => some (.lptr t (o + off), F, H)
    | .gptr id o => some (.gptr id (o + off), F, H)
    | .aptr sz id i o => some (.aptr sz id i (o + off), F, H)
    | _ => none
  | .fld off agg x => match x.get F with | .agg cs => (part cs off agg).map fun v => (v, F, H) | _ => none
  | .ia sz x i => (idx (i.get F)).bind fun n => match x.get F with
    | .list sz' xs _ => if sz' = sz then (xs[n]?).map fun v => (.cptr v.cells, F, H) else none
    | .hs sz' id off len => if sz' = sz ∧ n < len then some (.aptr sz id (off + n) 0, F, H) else none
    | _ => none
  | .ixs x i => (idx (i.get F)).bind fun n => match x.get F with
    | .s a => (a[n]?).map fun c => (.i .u8 c.toNat, F, H)
    | _ => none
  | .slc k x lo hi => match k, x.get F with
    | some sz, .list sz' xs _ => (oidx F 0 lo).bind fun l => (oidx F xs.length hi).bind fun h =>
        if sz' = sz ∧ l ≤ h ∧ h ≤ xs.length then some (.list sz ((xs.take h).drop l) false, F, H) else none
    | none, .s a => (oidx F 0 lo).bind fun l => (oidx F a.size hi).bind fun h => if l ≤ h ∧ h ≤ a.size then some (.s (a.extract l h), F, H) else none
    | some sz, .hs sz' id off len => (oidx F 0 lo).bind fun l => (oidx F len hi).bind fun h =>
        if sz' = sz ∧ l < h ∧ h ≤ len then some (.hs sz id (off + l) (h - l), F, H) else none
    | _, _ => none
  | .idS x => match x.get F with | .s a => some (.s a, F, H) | _ => none
  | .ext x i => match x with
    | .t s => match F.tm s with
      | .tuple vs => (vs[i]?).bind fun v => match v with
        | .tuple _ => none
        | v => some (v, { F with tm := upd F.tm s (.tuple (vs.set i .junk)) }, H)
      | _ => none
    | .c _ => none
  | .len str x => match str, x.get F with
    | false, .list _ xs _ => some (.i .i64 xs.length, F, H)
    | true, .s a => some (.i .i64 a.size, F, H)
    | false, .hs _ _ _ n => some (.i .i64 n, F, H)
    | _, _ => none
  | .app sz arr x y => match x with
    | .t s => match F.tm s, y.get F with
      | .list s1 xs true, .list s2 ys _ =>
        if s1 = sz ∧ s2 = sz ∧ xs.length + ys.length ≤ limit then
          (if arr then (if xs.isEmpty && !ys.isEmpty then some (.hs sz H.next 0 ys.length, { F with tm := upd F.tm s .junk }, H.new (.arr sz ys)) else none)
           else some (.list sz (xs ++ ys) true, { F with tm := upd F.tm s .junk }, H)) else none
      | .hs s1 id off len, .list s2 ys _ => match H.ob id with
        | some (.arr s3 xs) => if s1 = sz ∧ s2 = sz ∧ s3 = sz ∧ ys.isEmpty = false ∧ off + len = xs.length ∧ arr ∧ len + ys.length ≤ limit then
            some (.hs sz H.next 0 (len + ys.length), F, (H.put id none).new (.arr sz (xs.drop off ++ ys))) else none
        | _ => none
      | _, _ => none
    | .c _ => none
  | .mks sz zs n => (idx (n.get F)).bind fun k => if k ≤ limit ∧ zs.length = sz then
      some (.hs sz H.next 0 k, F, H.new (.arr sz (List.replicate k (elemOf zs)))) else none
  | .minmax mx xs => match xs.map (Rd.get F) with
    | [.i k a, .i k' c] => if k = k' then some (.i k (if mx then (if a < c then c else a) else (if c < a then c else a)), F, H) else none
    | _ => none
  | .pan _ | .callF _ _ | .callV _ _ => none

abbrev CallF := Tg → List V → Hp → Option (RV × Hp)

def wants (F : Fr) : Option (Nat × Bool) → Option Bool
  | none => some true
  | some (j, want) => match F.tm j with | .b c => some (c == want) | .tuple _ => some false | _ => none

def calls (call : CallF) (d : Option Nat) (tg : Tg) (args : List V) (F : Fr) (H : Hp) : Option (Ex × Fr × Hp) :=
  match call tg args H with
  | some (.ret v, H') => some (.normal, F.put d v, H')
  | some (.pan v, H') => some (.panic v, F, H')
  | none => none

def stepO (call : CallF) (o : Ins) (F : Fr) (H : Hp) : Option (Ex × Fr × Hp) :=
  match wants F o.g with
  | none => none
  | some false => some (.normal, F.put o.dst (.tuple []), H)
  | some true =>
    match o.op with
    | .pan x => match x.out F with | .iface t v => some (.panic (.iface t v), F, H) | _ => none
    | .callF k xs => match argsV F xs with | some args => calls call o.dst (.fn k) args F H | none => none
    | .callV x xs => match argsV F xs, x.get F with
      | some args, .fn (.func k) first cap => calls call o.dst (.fn k) (first ++ args ++ cap) F H
      | some args, .yld id => calls call o.dst (.yld id) args F H
      | _, _ => none
    | op => match stepV op o.dst F H with
      | some (v, F', H') => some (.normal, F'.put o.dst v, H')
      | none => none

def execOps (call : CallF) : List Ins → Fr → Hp → Option (Ex × Fr × Hp)
  | [], F, H => some (.normal, F, H)
  | o :: r, F, H => match stepO call o F H with
    | some (.normal, F', H') => execOps call r F' H'
    | x => x

def look (l : List (Nat × V)) (t : Nat) : V := match l with | [] => .junk | (a, v) :: r => if t = a then v else look r t
def lookB (l : List (Nat × Option (List V))) (t : Nat) : Option (List V) := match l with | [] => none | (a, v) :: r => if t = a then v else lookB r t
/-- what is kept behind a region -/
def Fr.keep (F : Fr) (ks : List Nat) : Fr :=
  { tm := look (ks.map fun t => (t, match F.tm t with | .lptr t' o => if ks.contains t' then .lptr t' o else .junk | v => v)),
    bx := lookB (ks.map fun t => (t, F.bx t)) }

def loopN (body : Fr → Hp → Option (Ex × Fr × Hp)) : Nat → Fr → Hp → Option (Ex × Fr × Hp)
  | 0, _, _ => none
  | n + 1, F, H => match body F H with
    | some (.normal, F', H') => loopN body n F' H'
    | x => x

/-- what a loop over a function may see of the frame: no local boxes -/
def Fr.snap (F : Fr) (ks : List Nat) : Nat → V :=
  look (ks.map fun t => (t, match F.tm t with | .lptr _ _ => .junk | v => v.clr.hard))
/-- the boxes that the rounds read are frozen -/
def Fr.frzAll (F : Fr) : List Nat → Fr
  | [] => F
  | t :: r => (match F.tm t, F.bx t with | .lptr t' 0, some cs => if t' = t then frz F t cs else F | _, _ => F).frzAll r

def exec (call : CallF) (n : Nat) : IC → Fr → Hp → Option (Ex × Fr × Hp)
  | .skip, F, H => some (.normal, F, H)
  | .reg ops keep draw, F, H => match execOps call ops F H with
    | some (.normal, F', H') => some (.normal, F'.keep keep, H')
    | some (e, F', H') => if draw then none else some (e, F', H')
    | none => none
  | .seq a b, F, H => match exec call n a F H with
    | some (.normal, F', H') => exec call n b F' H'
    | x => x
  | .cond c x y, F, H => match c.get F with
    | .b true => exec call n x F H
    | .b false => exec call n y F H
    | _ => none
  | .block id c, F, H => match exec call n c F H with
    | some (.exit id', F', H') => if id' = id then some (.normal, F', H') else some (.exit id', F', H')
    | x => x
  | .loop c, F, H => loopN (exec call n c) n F H
  | .scope c, F, H => exec call n c F H
  | .rf f ps ks asg body, F0, H =>
    let F := F0.frzAll ks
    let H1 := H.new (.lp { tm := F.snap ks, params := ps, asg := asg, body := body, st := .ready, pend := .normal })
    let back : Option (RV × Hp) → Option (Ex × Fr × Hp)
      | some (.ret _, H2) => match H2.ob H.next with
        | some (.lp L) => if L.st = .busy then none else some (L.pend, F, H2.put H.next none)
        | _ => none
      | _ => none
    match f.get F with
    | .fn (.func k) first cap => back (call (.fn k) (first ++ [.yld H.next] ++ cap) H1)
    | _ => none
  | .exit id, F, H => some (.exit id, F, H)
  | .ret, F, H => some (.ret, F, H)

def resV (F : Fr) (H : Hp) : Res → Option V
  | .tmp t => if (F.tm t).free then some (F.tm t) else none
  | .cell t agg => match F.tm t with
    | .lptr t' o => if t' = t ∧ o = 0 then (F.bx t).bind fun cs => match agg with | none => cs[0]? | some n => part cs 0 (some n) else none
    | .gptr id o => match H.ob id with | some (.cells cs) => part cs o agg | _ => none
    | .cptr cs => part cs 0 agg
    | _ => none
  | .arr t => match F.tm t with
    | .hs sz id off len => match H.ob id with | some (.arr sz' xs) => if sz' = sz ∧ off + len ≤ xs.length then some (.list sz ((xs.drop off).take len) (off + len == xs.length && decide (0 < len))) else none | _ => none
    | .list sz [] o => some (.list sz [] o)
    | _ => none
def Res.melt (F : Fr) (H : Hp) : Res → Hp
  | .arr t => match F.tm t with
    | .hs _ id _ _ => H.put id none
    | _ => H
  | _ => H
/-- results; an array that is handed out becomes immutable -/
def ressV (F : Fr) (H : Hp) : List Res → Option (List V × Hp)
  | [] => some ([], H)
  | r :: rs => (resV F H r).bind fun v => (ressV F (r.melt F H) rs).map fun (vs, H') => (v :: vs, H')
/-- a result: what it owns goes along, its parts are as others see them -/
def V.give : V → V
  | .agg cs => .agg (cs.map V.hard1)
  | v => v
def packV : List V → V | [v] => v | vs => .tuple vs
def setParams (tm : Nat → V) : List Nat → List V → (Nat → V)
  | p :: ps, v :: vs => setParams (upd tm p v.clr) ps vs
  | _, _ => tm

mutual
/-- bears no name of an object of the heap -/
def V.noid : V → Bool
  | .agg cs => V.noidL cs
  | .list _ xs _ => V.noidL xs
  | .gptr _ _ => false
  | .aptr _ _ _ _ => false
  | .cptr cs => V.noidL cs
  | .hs _ _ _ _ => false
  | .fn _ fs cs => V.noidL fs && V.noidL cs
  | .yld _ => false
  | .iface _ v => V.noid v
  | .tuple vs => V.noidL vs
  | .junk => true
  | .b _ => true
  | .i _ _ => true
  | .s _ => true
  | .lptr _ _ => true
  | .nilp => true
  | .nilf => true
  | .nili => true
def V.noidL : List V → Bool
  | [] => true
  | v :: r => V.noid v && V.noidL r
end
def RV.noid : RV → Bool
  | .ret v => v.noid
  | .pan v => v.noid
def Hp.empty : Hp := { next := 0, ob := fun _ => none }

/-- a function's body, and its results -/
def runFn (ex : IC → Fr → Hp → Option (Ex × Fr × Hp)) (fi : IFn) (args : List V) (H : Hp) : Option (RV × Hp) :=
  if args.length = fi.np then
    match ex fi.code { tm := fun t => ((args[t]?).getD .junk).clr, bx := fun _ => none } H with
    | some (.normal, F, H') | some (.ret, F, H') =>
      (ressV F H' fi.res).map fun (vs, H2) => (.ret (packV (if fi.rclr then vs.map (fun v => v.clr.hard) else vs.map V.give)), H2)
    | some (.panic v, _, H') => some (.pan v, H')
    | _ => none
  else none

def run (T : Nat → Option IFn) : Nat → Tg → List V → Hp → Option (RV × Hp)
  | 0, _, _, _ => none
  | n + 1, .fn k, args, H => match T k with
    | some fi =>
      -- a pure function begins on an empty heap, and leaves ours as it was
      if fi.pure then
        if V.noidL args then match runFn (exec (run T n) n) fi args .empty with
          | some (r, _) => if r.noid then some (r, H) else none
          | none => none
        else none
      else runFn (exec (run T n) n) fi args H
    | none => none
  | n + 1, .yld id, args, H => match H.ob id with
    | some (.lp L) => if L.st = .ready ∧ args.length = L.params.length then
        match exec (run T n) n L.asg { tm := setParams (fun t => (L.tm t).clr) L.params args, bx := fun _ => none } H with
        | some (.normal, F, H1) => match H1.ob id with
          | some (.lp L1) => if L1.st = .ready then
              match exec (run T n) n L.body F (H1.put id (some (.lp { L1 with st := .busy }))) with
              | some (e, _, H2) => match H2.ob id, e with
                | some (.lp L2), .normal => some (.ret (.b true), H2.put id (some (.lp { L2 with st := .ready, pend := .normal })))
                | some (.lp L2), .ret => some (.ret (.b false), H2.put id (some (.lp { L2 with st := .done, pend := .ret })))
                | some (.lp L2), .exit j => some (.ret (.b false), H2.put id (some (.lp { L2 with st := .done, pend := .exit j })))
                | _, _ => none
              | none => none
            else none
          | _ => none
        | _ => none
      else none
    | _ => none

end Go.Iv
