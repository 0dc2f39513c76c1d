/- The program's data as Lean types: levels, terms, trees and declarations, of a size that fits, and their values in the machine. No conditions. -/
import Derived.Test.YtpgojhgfhhgomaaIvWp
import Derived.Laws.BitsLemmas
namespace Go.Iv
set_option linter.unusedVariables false
set_option linter.unusedSimpArgs false

attribute [simp] Rd.get Rd.val Rd.out Fr.put Fr.box Fr.keep binInt eqV part bsOk splice argsV valsV buildV idx_nat oidx packV ressV resV Res.melt V.noid V.noidL stepV stVal stFr
@[simp] theorem V.clr_junk  : V.clr V.junk = V.junk := rfl
@[simp] theorem V.clr1_junk  : V.clr1 V.junk = V.junk := rfl
@[simp] theorem V.hard1_junk  : V.hard1 V.junk = V.junk := rfl
@[simp] theorem V.hard_junk  : V.hard V.junk = V.junk := rfl
@[simp] theorem V.cells_junk  : V.cells V.junk = [V.junk] := rfl
@[simp] theorem V.free_junk  : V.free V.junk = false := rfl
@[simp] theorem V.one_junk  : V.one V.junk = false := rfl
@[simp] theorem stv_junk  : stv V.junk = [V.junk] := rfl
@[simp] theorem V.clr_b (x : Bool) : V.clr (V.b x) = (V.b x) := rfl
@[simp] theorem V.clr1_b (x : Bool) : V.clr1 (V.b x) = (V.b x) := rfl
@[simp] theorem V.hard1_b (x : Bool) : V.hard1 (V.b x) = (V.b x) := rfl
@[simp] theorem V.hard_b (x : Bool) : V.hard (V.b x) = (V.b x) := rfl
@[simp] theorem V.cells_b (x : Bool) : V.cells (V.b x) = [(V.b x)] := rfl
@[simp] theorem V.free_b (x : Bool) : V.free (V.b x) = true := rfl
@[simp] theorem V.one_b (x : Bool) : V.one (V.b x) = true := rfl
@[simp] theorem V.good_b (m : Nat) (x : Bool) : V.good m (V.b x) = (m == 1) := by simp [V.good, V.free, V.fits, V.cells, V.one]
@[simp] theorem V.fits_b (m : Nat) (x : Bool) : V.fits m (V.b x) = (m == 1) := rfl
@[simp] theorem stv_b (x : Bool) : stv (V.b x) = [(V.b x)] := rfl
@[simp] theorem V.clr_i (k : IntKind) (n : Int) : V.clr (V.i k n) = (V.i k n) := rfl
@[simp] theorem V.clr1_i (k : IntKind) (n : Int) : V.clr1 (V.i k n) = (V.i k n) := rfl
@[simp] theorem V.hard1_i (k : IntKind) (n : Int) : V.hard1 (V.i k n) = (V.i k n) := rfl
@[simp] theorem V.hard_i (k : IntKind) (n : Int) : V.hard (V.i k n) = (V.i k n) := rfl
@[simp] theorem V.cells_i (k : IntKind) (n : Int) : V.cells (V.i k n) = [(V.i k n)] := rfl
@[simp] theorem V.free_i (k : IntKind) (n : Int) : V.free (V.i k n) = true := rfl
@[simp] theorem V.one_i (k : IntKind) (n : Int) : V.one (V.i k n) = true := rfl
@[simp] theorem V.good_i (m : Nat) (k : IntKind) (n : Int) : V.good m (V.i k n) = (m == 1) := by simp [V.good, V.free, V.fits, V.cells, V.one]
@[simp] theorem V.fits_i (m : Nat) (k : IntKind) (n : Int) : V.fits m (V.i k n) = (m == 1) := rfl
@[simp] theorem stv_i (k : IntKind) (n : Int) : stv (V.i k n) = [(V.i k n)] := rfl
@[simp] theorem V.clr_s (x : ByteArray) : V.clr (V.s x) = (V.s x) := rfl
@[simp] theorem V.clr1_s (x : ByteArray) : V.clr1 (V.s x) = (V.s x) := rfl
@[simp] theorem V.hard1_s (x : ByteArray) : V.hard1 (V.s x) = (V.s x) := rfl
@[simp] theorem V.hard_s (x : ByteArray) : V.hard (V.s x) = (V.s x) := rfl
@[simp] theorem V.cells_s (x : ByteArray) : V.cells (V.s x) = [(V.s x)] := rfl
@[simp] theorem V.free_s (x : ByteArray) : V.free (V.s x) = true := rfl
@[simp] theorem V.one_s (x : ByteArray) : V.one (V.s x) = true := rfl
@[simp] theorem V.good_s (m : Nat) (x : ByteArray) : V.good m (V.s x) = (m == 1) := by simp [V.good, V.free, V.fits, V.cells, V.one]
@[simp] theorem V.fits_s (m : Nat) (x : ByteArray) : V.fits m (V.s x) = (m == 1) := rfl
@[simp] theorem stv_s (x : ByteArray) : stv (V.s x) = [(V.s x)] := rfl
@[simp] theorem V.clr_agg (cs : List V) : V.clr (V.agg cs) = (V.agg cs) := rfl
@[simp] theorem V.clr1_agg (cs : List V) : V.clr1 (V.agg cs) = (V.agg cs) := rfl
@[simp] theorem V.hard1_agg (cs : List V) : V.hard1 (V.agg cs) = (V.agg cs) := rfl
@[simp] theorem V.hard_agg (cs : List V) : V.hard (V.agg cs) = .agg (cs.map V.hard1) := rfl
@[simp] theorem V.cells_agg (cs : List V) : V.cells (V.agg cs) = cs := rfl
@[simp] theorem V.free_agg (cs : List V) : V.free (V.agg cs) = true := rfl
@[simp] theorem V.one_agg (cs : List V) : V.one (V.agg cs) = false := rfl
@[simp] theorem V.good_agg (n : Nat) (cs : List V) : V.good n (.agg cs) = ((cs.length == n) && cs.all V.one) := by simp [V.good, V.free, V.fits, V.cells]
@[simp] theorem V.fits_agg (n : Nat) (cs : List V) : V.fits n (.agg cs) = (cs.length == n) := rfl
@[simp] theorem stv_agg (cs : List V) : stv (V.agg cs) = cs.map V.clr := rfl
@[simp] theorem V.clr_list (sz : Nat) (xs : List V) (o : Bool) : V.clr (V.list sz xs o) = .list sz xs (o && xs.isEmpty) := rfl
@[simp] theorem V.clr1_list (sz : Nat) (xs : List V) (o : Bool) : V.clr1 (V.list sz xs o) = .list sz xs (o && xs.isEmpty) := rfl
@[simp] theorem V.hard1_list (sz : Nat) (xs : List V) (o : Bool) : V.hard1 (V.list sz xs o) = .list sz xs false := rfl
@[simp] theorem V.hard_list (sz : Nat) (xs : List V) (o : Bool) : V.hard (V.list sz xs o) = .list sz xs false := rfl
@[simp] theorem V.cells_list (sz : Nat) (xs : List V) (o : Bool) : V.cells (V.list sz xs o) = [(V.list sz xs o)] := rfl
@[simp] theorem V.free_list (sz : Nat) (xs : List V) (o : Bool) : V.free (V.list sz xs o) = true := rfl
@[simp] theorem V.one_list (sz : Nat) (xs : List V) (o : Bool) : V.one (V.list sz xs o) = true := rfl
@[simp] theorem V.good_list (m : Nat) (sz : Nat) (xs : List V) (o : Bool) : V.good m (V.list sz xs o) = (m == 1) := by simp [V.good, V.free, V.fits, V.cells, V.one]
@[simp] theorem V.fits_list (m : Nat) (sz : Nat) (xs : List V) (o : Bool) : V.fits m (V.list sz xs o) = (m == 1) := rfl
@[simp] theorem stv_list (sz : Nat) (xs : List V) (o : Bool) : stv (V.list sz xs o) = [(V.list sz xs o)] := rfl
@[simp] theorem V.clr_lptr (t o : Nat) : V.clr (V.lptr t o) = (V.lptr t o) := rfl
@[simp] theorem V.clr1_lptr (t o : Nat) : V.clr1 (V.lptr t o) = (V.lptr t o) := rfl
@[simp] theorem V.hard1_lptr (t o : Nat) : V.hard1 (V.lptr t o) = (V.lptr t o) := rfl
@[simp] theorem V.hard_lptr (t o : Nat) : V.hard (V.lptr t o) = (V.lptr t o) := rfl
@[simp] theorem V.cells_lptr (t o : Nat) : V.cells (V.lptr t o) = [(V.lptr t o)] := rfl
@[simp] theorem V.free_lptr (t o : Nat) : V.free (V.lptr t o) = false := rfl
@[simp] theorem V.one_lptr (t o : Nat) : V.one (V.lptr t o) = true := rfl
@[simp] theorem stv_lptr (t o : Nat) : stv (V.lptr t o) = [(V.lptr t o)] := rfl
@[simp] theorem V.clr_gptr (id o : Nat) : V.clr (V.gptr id o) = (V.gptr id o) := rfl
@[simp] theorem V.clr1_gptr (id o : Nat) : V.clr1 (V.gptr id o) = (V.gptr id o) := rfl
@[simp] theorem V.hard1_gptr (id o : Nat) : V.hard1 (V.gptr id o) = (V.gptr id o) := rfl
@[simp] theorem V.hard_gptr (id o : Nat) : V.hard (V.gptr id o) = (V.gptr id o) := rfl
@[simp] theorem V.cells_gptr (id o : Nat) : V.cells (V.gptr id o) = [(V.gptr id o)] := rfl
@[simp] theorem V.free_gptr (id o : Nat) : V.free (V.gptr id o) = true := rfl
@[simp] theorem V.one_gptr (id o : Nat) : V.one (V.gptr id o) = true := rfl
@[simp] theorem V.good_gptr (m : Nat) (id o : Nat) : V.good m (V.gptr id o) = (m == 1) := by simp [V.good, V.free, V.fits, V.cells, V.one]
@[simp] theorem V.fits_gptr (m : Nat) (id o : Nat) : V.fits m (V.gptr id o) = (m == 1) := rfl
@[simp] theorem stv_gptr (id o : Nat) : stv (V.gptr id o) = [(V.gptr id o)] := rfl
@[simp] theorem V.clr_aptr (sz id i o : Nat) : V.clr (V.aptr sz id i o) = (V.aptr sz id i o) := rfl
@[simp] theorem V.clr1_aptr (sz id i o : Nat) : V.clr1 (V.aptr sz id i o) = (V.aptr sz id i o) := rfl
@[simp] theorem V.hard1_aptr (sz id i o : Nat) : V.hard1 (V.aptr sz id i o) = (V.aptr sz id i o) := rfl
@[simp] theorem V.hard_aptr (sz id i o : Nat) : V.hard (V.aptr sz id i o) = (V.aptr sz id i o) := rfl
@[simp] theorem V.cells_aptr (sz id i o : Nat) : V.cells (V.aptr sz id i o) = [(V.aptr sz id i o)] := rfl
@[simp] theorem V.free_aptr (sz id i o : Nat) : V.free (V.aptr sz id i o) = true := rfl
@[simp] theorem V.one_aptr (sz id i o : Nat) : V.one (V.aptr sz id i o) = true := rfl
@[simp] theorem V.good_aptr (m : Nat) (sz id i o : Nat) : V.good m (V.aptr sz id i o) = (m == 1) := by simp [V.good, V.free, V.fits, V.cells, V.one]
@[simp] theorem V.fits_aptr (m : Nat) (sz id i o : Nat) : V.fits m (V.aptr sz id i o) = (m == 1) := rfl
@[simp] theorem stv_aptr (sz id i o : Nat) : stv (V.aptr sz id i o) = [(V.aptr sz id i o)] := rfl
@[simp] theorem V.clr_cptr (cs : List V) : V.clr (V.cptr cs) = (V.cptr cs) := rfl
@[simp] theorem V.clr1_cptr (cs : List V) : V.clr1 (V.cptr cs) = (V.cptr cs) := rfl
@[simp] theorem V.hard1_cptr (cs : List V) : V.hard1 (V.cptr cs) = (V.cptr cs) := rfl
@[simp] theorem V.hard_cptr (cs : List V) : V.hard (V.cptr cs) = (V.cptr cs) := rfl
@[simp] theorem V.cells_cptr (cs : List V) : V.cells (V.cptr cs) = [(V.cptr cs)] := rfl
@[simp] theorem V.free_cptr (cs : List V) : V.free (V.cptr cs) = true := rfl
@[simp] theorem V.one_cptr (cs : List V) : V.one (V.cptr cs) = true := rfl
@[simp] theorem V.good_cptr (m : Nat) (cs : List V) : V.good m (V.cptr cs) = (m == 1) := by simp [V.good, V.free, V.fits, V.cells, V.one]
@[simp] theorem V.fits_cptr (m : Nat) (cs : List V) : V.fits m (V.cptr cs) = (m == 1) := rfl
@[simp] theorem stv_cptr (cs : List V) : stv (V.cptr cs) = [(V.cptr cs)] := rfl
@[simp] theorem V.clr_nilp  : V.clr (V.nilp) = (V.nilp) := rfl
@[simp] theorem V.clr1_nilp  : V.clr1 (V.nilp) = (V.nilp) := rfl
@[simp] theorem V.hard1_nilp  : V.hard1 (V.nilp) = (V.nilp) := rfl
@[simp] theorem V.hard_nilp  : V.hard (V.nilp) = (V.nilp) := rfl
@[simp] theorem V.cells_nilp  : V.cells (V.nilp) = [(V.nilp)] := rfl
@[simp] theorem V.free_nilp  : V.free (V.nilp) = true := rfl
@[simp] theorem V.one_nilp  : V.one (V.nilp) = true := rfl
@[simp] theorem V.good_nilp (m : Nat)  : V.good m (V.nilp) = (m == 1) := by simp [V.good, V.free, V.fits, V.cells, V.one]
@[simp] theorem V.fits_nilp (m : Nat)  : V.fits m (V.nilp) = (m == 1) := rfl
@[simp] theorem stv_nilp  : stv (V.nilp) = [(V.nilp)] := rfl
@[simp] theorem V.clr_hs (sz id off len : Nat) : V.clr (V.hs sz id off len) = (V.hs sz id off len) := rfl
@[simp] theorem V.clr1_hs (sz id off len : Nat) : V.clr1 (V.hs sz id off len) = (V.hs sz id off len) := rfl
@[simp] theorem V.hard1_hs (sz id off len : Nat) : V.hard1 (V.hs sz id off len) = (V.hs sz id off len) := rfl
@[simp] theorem V.hard_hs (sz id off len : Nat) : V.hard (V.hs sz id off len) = (V.hs sz id off len) := rfl
@[simp] theorem V.cells_hs (sz id off len : Nat) : V.cells (V.hs sz id off len) = [(V.hs sz id off len)] := rfl
@[simp] theorem V.free_hs (sz id off len : Nat) : V.free (V.hs sz id off len) = true := rfl
@[simp] theorem V.one_hs (sz id off len : Nat) : V.one (V.hs sz id off len) = true := rfl
@[simp] theorem V.good_hs (m : Nat) (sz id off len : Nat) : V.good m (V.hs sz id off len) = (m == 1) := by simp [V.good, V.free, V.fits, V.cells, V.one]
@[simp] theorem V.fits_hs (m : Nat) (sz id off len : Nat) : V.fits m (V.hs sz id off len) = (m == 1) := rfl
@[simp] theorem stv_hs (sz id off len : Nat) : stv (V.hs sz id off len) = [(V.hs sz id off len)] := rfl
@[simp] theorem V.clr_fn (f : Fn) (first cap : List V) : V.clr (V.fn f first cap) = (V.fn f first cap) := rfl
@[simp] theorem V.clr1_fn (f : Fn) (first cap : List V) : V.clr1 (V.fn f first cap) = (V.fn f first cap) := rfl
@[simp] theorem V.hard1_fn (f : Fn) (first cap : List V) : V.hard1 (V.fn f first cap) = (V.fn f first cap) := rfl
@[simp] theorem V.hard_fn (f : Fn) (first cap : List V) : V.hard (V.fn f first cap) = (V.fn f first cap) := rfl
@[simp] theorem V.cells_fn (f : Fn) (first cap : List V) : V.cells (V.fn f first cap) = [(V.fn f first cap)] := rfl
@[simp] theorem V.free_fn (f : Fn) (first cap : List V) : V.free (V.fn f first cap) = true := rfl
@[simp] theorem V.one_fn (f : Fn) (first cap : List V) : V.one (V.fn f first cap) = true := rfl
@[simp] theorem V.good_fn (m : Nat) (f : Fn) (first cap : List V) : V.good m (V.fn f first cap) = (m == 1) := by simp [V.good, V.free, V.fits, V.cells, V.one]
@[simp] theorem V.fits_fn (m : Nat) (f : Fn) (first cap : List V) : V.fits m (V.fn f first cap) = (m == 1) := rfl
@[simp] theorem stv_fn (f : Fn) (first cap : List V) : stv (V.fn f first cap) = [(V.fn f first cap)] := rfl
@[simp] theorem V.clr_yld (id : Nat) : V.clr (V.yld id) = (V.yld id) := rfl
@[simp] theorem V.clr1_yld (id : Nat) : V.clr1 (V.yld id) = (V.yld id) := rfl
@[simp] theorem V.hard1_yld (id : Nat) : V.hard1 (V.yld id) = (V.yld id) := rfl
@[simp] theorem V.hard_yld (id : Nat) : V.hard (V.yld id) = (V.yld id) := rfl
@[simp] theorem V.cells_yld (id : Nat) : V.cells (V.yld id) = [(V.yld id)] := rfl
@[simp] theorem V.free_yld (id : Nat) : V.free (V.yld id) = true := rfl
@[simp] theorem V.one_yld (id : Nat) : V.one (V.yld id) = true := rfl
@[simp] theorem V.good_yld (m : Nat) (id : Nat) : V.good m (V.yld id) = (m == 1) := by simp [V.good, V.free, V.fits, V.cells, V.one]
@[simp] theorem V.fits_yld (m : Nat) (id : Nat) : V.fits m (V.yld id) = (m == 1) := rfl
@[simp] theorem stv_yld (id : Nat) : stv (V.yld id) = [(V.yld id)] := rfl
@[simp] theorem V.clr_nilf  : V.clr (V.nilf) = (V.nilf) := rfl
@[simp] theorem V.clr1_nilf  : V.clr1 (V.nilf) = (V.nilf) := rfl
@[simp] theorem V.hard1_nilf  : V.hard1 (V.nilf) = (V.nilf) := rfl
@[simp] theorem V.hard_nilf  : V.hard (V.nilf) = (V.nilf) := rfl
@[simp] theorem V.cells_nilf  : V.cells (V.nilf) = [(V.nilf)] := rfl
@[simp] theorem V.free_nilf  : V.free (V.nilf) = true := rfl
@[simp] theorem V.one_nilf  : V.one (V.nilf) = true := rfl
@[simp] theorem V.good_nilf (m : Nat)  : V.good m (V.nilf) = (m == 1) := by simp [V.good, V.free, V.fits, V.cells, V.one]
@[simp] theorem V.fits_nilf (m : Nat)  : V.fits m (V.nilf) = (m == 1) := rfl
@[simp] theorem stv_nilf  : stv (V.nilf) = [(V.nilf)] := rfl
@[simp] theorem V.clr_iface (t : TypeId) (v : V) : V.clr (V.iface t v) = (V.iface t v) := rfl
@[simp] theorem V.clr1_iface (t : TypeId) (v : V) : V.clr1 (V.iface t v) = (V.iface t v) := rfl
@[simp] theorem V.hard1_iface (t : TypeId) (v : V) : V.hard1 (V.iface t v) = (V.iface t v) := rfl
@[simp] theorem V.hard_iface (t : TypeId) (v : V) : V.hard (V.iface t v) = (V.iface t v) := rfl
@[simp] theorem V.cells_iface (t : TypeId) (v : V) : V.cells (V.iface t v) = [(V.iface t v)] := rfl
@[simp] theorem V.free_iface (t : TypeId) (v : V) : V.free (V.iface t v) = true := rfl
@[simp] theorem V.one_iface (t : TypeId) (v : V) : V.one (V.iface t v) = true := rfl
@[simp] theorem V.good_iface (m : Nat) (t : TypeId) (v : V) : V.good m (V.iface t v) = (m == 1) := by simp [V.good, V.free, V.fits, V.cells, V.one]
@[simp] theorem V.fits_iface (m : Nat) (t : TypeId) (v : V) : V.fits m (V.iface t v) = (m == 1) := rfl
@[simp] theorem stv_iface (t : TypeId) (v : V) : stv (V.iface t v) = [(V.iface t v)] := rfl
@[simp] theorem V.clr_nili  : V.clr (V.nili) = (V.nili) := rfl
@[simp] theorem V.clr1_nili  : V.clr1 (V.nili) = (V.nili) := rfl
@[simp] theorem V.hard1_nili  : V.hard1 (V.nili) = (V.nili) := rfl
@[simp] theorem V.hard_nili  : V.hard (V.nili) = (V.nili) := rfl
@[simp] theorem V.cells_nili  : V.cells (V.nili) = [(V.nili)] := rfl
@[simp] theorem V.free_nili  : V.free (V.nili) = true := rfl
@[simp] theorem V.one_nili  : V.one (V.nili) = true := rfl
@[simp] theorem V.good_nili (m : Nat)  : V.good m (V.nili) = (m == 1) := by simp [V.good, V.free, V.fits, V.cells, V.one]
@[simp] theorem V.fits_nili (m : Nat)  : V.fits m (V.nili) = (m == 1) := rfl
@[simp] theorem stv_nili  : stv (V.nili) = [(V.nili)] := rfl
@[simp] theorem V.clr_tuple (vs : List V) : V.clr (V.tuple vs) = .tuple (vs.map V.clr1) := rfl
@[simp] theorem V.clr1_tuple (vs : List V) : V.clr1 (V.tuple vs) = (V.tuple vs) := rfl
@[simp] theorem V.hard1_tuple (vs : List V) : V.hard1 (V.tuple vs) = (V.tuple vs) := rfl
@[simp] theorem V.hard_tuple (vs : List V) : V.hard (V.tuple vs) = (V.tuple vs) := rfl
@[simp] theorem V.cells_tuple (vs : List V) : V.cells (V.tuple vs) = [(V.tuple vs)] := rfl
@[simp] theorem V.free_tuple (vs : List V) : V.free (V.tuple vs) = false := rfl
@[simp] theorem V.one_tuple (vs : List V) : V.one (V.tuple vs) = false := rfl
@[simp] theorem stv_tuple (vs : List V) : stv (V.tuple vs) = [(V.tuple vs)] := rfl
@[simp] theorem V.isTup_junk  : V.isTup (V.junk) = false := rfl
@[simp] theorem V.isTup_b (x : Bool) : V.isTup (V.b x) = false := rfl
@[simp] theorem V.isTup_i (k : IntKind) (n : Int) : V.isTup (V.i k n) = false := rfl
@[simp] theorem V.isTup_s (x : ByteArray) : V.isTup (V.s x) = false := rfl
@[simp] theorem V.isTup_agg (cs : List V) : V.isTup (V.agg cs) = false := rfl
@[simp] theorem V.isTup_list (sz : Nat) (xs : List V) (o : Bool) : V.isTup (V.list sz xs o) = false := rfl
@[simp] theorem V.isTup_lptr (t o : Nat) : V.isTup (V.lptr t o) = false := rfl
@[simp] theorem V.isTup_gptr (id o : Nat) : V.isTup (V.gptr id o) = false := rfl
@[simp] theorem V.isTup_aptr (sz id i o : Nat) : V.isTup (V.aptr sz id i o) = false := rfl
@[simp] theorem V.isTup_cptr (cs : List V) : V.isTup (V.cptr cs) = false := rfl
@[simp] theorem V.isTup_nilp  : V.isTup (V.nilp) = false := rfl
@[simp] theorem V.isTup_hs (sz id off len : Nat) : V.isTup (V.hs sz id off len) = false := rfl
@[simp] theorem V.isTup_fn (f : Fn) (first cap : List V) : V.isTup (V.fn f first cap) = false := rfl
@[simp] theorem V.isTup_yld (id : Nat) : V.isTup (V.yld id) = false := rfl
@[simp] theorem V.isTup_nilf  : V.isTup (V.nilf) = false := rfl
@[simp] theorem V.isTup_iface (t : TypeId) (v : V) : V.isTup (V.iface t v) = false := rfl
@[simp] theorem V.isTup_nili  : V.isTup (V.nili) = false := rfl
@[simp] theorem V.isTup_tuple (vs : List V) : V.isTup (V.tuple vs) = true := rfl
@[simp] theorem V.give_junk  : V.give (V.junk) = (V.junk) := rfl
@[simp] theorem V.give_b (x : Bool) : V.give (V.b x) = (V.b x) := rfl
@[simp] theorem V.give_i (k : IntKind) (n : Int) : V.give (V.i k n) = (V.i k n) := rfl
@[simp] theorem V.give_s (x : ByteArray) : V.give (V.s x) = (V.s x) := rfl
@[simp] theorem V.give_agg (cs : List V) : V.give (V.agg cs) = .agg (cs.map V.hard1) := rfl
@[simp] theorem V.give_list (sz : Nat) (xs : List V) (o : Bool) : V.give (V.list sz xs o) = (V.list sz xs o) := rfl
@[simp] theorem V.give_lptr (t o : Nat) : V.give (V.lptr t o) = (V.lptr t o) := rfl
@[simp] theorem V.give_gptr (id o : Nat) : V.give (V.gptr id o) = (V.gptr id o) := rfl
@[simp] theorem V.give_aptr (sz id i o : Nat) : V.give (V.aptr sz id i o) = (V.aptr sz id i o) := rfl
@[simp] theorem V.give_cptr (cs : List V) : V.give (V.cptr cs) = (V.cptr cs) := rfl
@[simp] theorem V.give_nilp  : V.give (V.nilp) = (V.nilp) := rfl
@[simp] theorem V.give_hs (sz id off len : Nat) : V.give (V.hs sz id off len) = (V.hs sz id off len) := rfl
@[simp] theorem V.give_fn (f : Fn) (first cap : List V) : V.give (V.fn f first cap) = (V.fn f first cap) := rfl
@[simp] theorem V.give_yld (id : Nat) : V.give (V.yld id) = (V.yld id) := rfl
@[simp] theorem V.give_nilf  : V.give (V.nilf) = (V.nilf) := rfl
@[simp] theorem V.give_iface (t : TypeId) (v : V) : V.give (V.iface t v) = (V.iface t v) := rfl
@[simp] theorem V.give_nili  : V.give (V.nili) = (V.nili) := rfl
@[simp] theorem V.give_tuple (vs : List V) : V.give (V.tuple vs) = (V.tuple vs) := rfl
@[simp] theorem idx_0 (k : IntKind) : idx (.i k 0) = some 0 := rfl
@[simp] theorem idx_1 (k : IntKind) : idx (.i k 1) = some 1 := rfl
@[simp] theorem idx_2 (k : IntKind) : idx (.i k 2) = some 2 := rfl
@[simp] theorem idx_3 (k : IntKind) : idx (.i k 3) = some 3 := rfl
@[simp] theorem idx_4 (k : IntKind) : idx (.i k 4) = some 4 := rfl
@[simp] theorem idx_cast1 (k : IntKind) (n : Nat) : idx (.i k ((n : Int) + 1)) = some (n + 1) := by
  have : ((n : Int) + 1) = ((n + 1 : Nat) : Int) := by omega
  rw [this, idx_nat]
@[simp] theorem atEnd_ret (res : List Res) (rclr : Bool) (P : V → Prop) (F : Fr) (H : Hp) : AtEnd res rclr P .ret F H ↔ ∃ vs H2, ressV F H res = some (vs, H2) ∧ (packV (if rclr then vs.map (fun v => v.clr.hard) else vs.map V.give)).noid = true ∧ P (packV (if rclr then vs.map (fun v => v.clr.hard) else vs.map V.give)) := Iff.rfl
@[simp] theorem atEnd_normal (res : List Res) (rclr : Bool) (P : V → Prop) (F : Fr) (H : Hp) : AtEnd res rclr P .normal F H ↔ ∃ vs H2, ressV F H res = some (vs, H2) ∧ (packV (if rclr then vs.map (fun v => v.clr.hard) else vs.map V.give)).noid = true ∧ P (packV (if rclr then vs.map (fun v => v.clr.hard) else vs.map V.give)) := Iff.rfl
@[simp] theorem binV_int (op : BinOp) (k k' : IntKind) (a c : Int) : binV .int op (.i k a) (.i k' c) = if k = k' then binInt op k a c else none := rfl
@[simp] theorem binV_bool (op : BinOp) (a c : Bool) : binV .bool op (.b a) (.b c) = eqV op (a == c) := rfl
@[simp] theorem binV_seq (a c : ByteArray) : binV .str .eql (.s a) (.s c) = some (.b (decide (a = c))) := rfl
@[simp] theorem binV_sne (a c : ByteArray) : binV .str .neq (.s a) (.s c) = some (.b (!decide (a = c))) := rfl
@[simp] theorem binV_sadd (a c : ByteArray) : binV .str .add (.s a) (.s c) = if a.size + c.size ≤ limit then some (.s (a ++ c)) else none := rfl
@[simp] theorem binV_agg (n : Nat) (op : BinOp) (cs cs' : List V) : binV (.agg n) op (.agg cs) (.agg cs') = if cs.length = n then (aggEq cs cs').bind fun r => eqV op r else none := rfl
structure BL (α : Type) where
  l : List α
  h : l.length < 1073741824
theorem BL.ext {α : Type} {a b : BL α} (h : a.l = b.l) : a = b := by cases a; cases b; simp_all
theorem noidL_map {α : Type} (f : α → V) (h : ∀ x, (f x).noid = true) (l : List α) : V.noidL (l.map f) = true := by
  induction l with
  | nil => rfl
  | cons x l ih => simp [V.noidL, h, ih]
theorem noidL_all : ∀ l : List V, (∀ v ∈ l, v.noid = true) → V.noidL l = true := by
  intro l h
  induction l with
  | nil => rfl
  | cons v l ih => simp [V.noidL, h v (by simp), ih fun v hv => h v (by simp [hv])]
@[simp] theorem noid_Ss (l : List ByteArray) : V.noidL (l.map V.s) = true := noidL_map _ (fun x => by simp) l
@[simp] theorem noid_Sc {α : Type} (f : α → ByteArray) (l : List α) : V.noidL (l.map (V.s ∘ f)) = true := noidL_map _ (fun x => by simp) l
@[simp] theorem noidL_append (a b : List V) : V.noidL (a ++ b) = (V.noidL a && V.noidL b) := by
  induction a with
  | nil => simp [V.noidL]
  | cons x a ih => simp [V.noidL, ih, Bool.and_assoc]
theorem sum_ge {l : List Nat} {x : Nat} (h : x ∈ l) : x ≤ l.sum := by
  induction l with
  | nil => cases h
  | cons a l ih =>
    rcases List.mem_cons.1 h with rfl | h
    · simp
    · have := ih h; simp; omega
theorem sum_len {l : List Nat} (h : ∀ x ∈ l, 1 ≤ x) : l.length ≤ l.sum := by
  induction l with
  | nil => simp
  | cons a l ih =>
    have := ih fun x hx => h x (List.mem_cons_of_mem _ hx)
    have := h a (by simp)
    simp; omega
/-- the next index -/
theorem wrap_succ (j n : Nat) (h : j < n) (hn : n < 1073741824) : IntKind.i64.wrap ((j : Int) + 1) = ((j + 1 : Nat) : Int) := by
  rw [IntKind.wrap_i64]; omega
theorem wrap_of (j n : Nat) (h : j < n) (hn : n < 1073741824) : IntKind.i64.wrap (j : Int) = (j : Int) := by
  rw [IntKind.wrap_i64]; omega
theorem get_some {α : Type} {l : List α} {j : Nat} (h : j < l.length) : l[j]? = some l[j] := by simp [h]

structure LV where
  index : Int
  plus : Int
  deriving DecidableEq
structure Level where
  const : Int
  bvars : BL LV
def Level.vars (l : Level) : List LV := l.bvars.l
@[simp] theorem Level.vars_len (l : Level) : l.vars.length < 1073741824 := l.bvars.h
def encLV (x : LV) : V := .agg [.i .i64 x.index, .i .i64 x.plus]
@[simp] theorem encLV_refold (x : LV) : V.agg [.i .i64 x.index, .i .i64 x.plus] = encLV x := rfl
theorem encLV_def (x : LV) : encLV x = V.agg [.i .i64 x.index, .i .i64 x.plus] := rfl
@[simp] theorem encLV_cells (x : LV) : (encLV x).cells = [.i .i64 x.index, .i .i64 x.plus] := by rw [encLV_def]; rfl
@[simp] theorem encLV_clr (x : LV) : (encLV x).clr = encLV x := by rw [encLV_def]; rfl
@[simp] theorem encLV_hard (x : LV) : (encLV x).hard = encLV x := by rw [encLV_def]; rfl
@[simp] theorem encLV_give (x : LV) : (encLV x).give = encLV x := by rw [encLV_def]; rfl
@[simp] theorem encLV_free (x : LV) : (encLV x).free = true := by rw [encLV_def]; rfl
@[simp] theorem encLV_tup (x : LV) : (encLV x).isTup = false := by rw [encLV_def]; rfl
@[simp] theorem encLV_good (x : LV) : (encLV x).good 2 = true := by rw [encLV_def]; rfl
@[simp] theorem encLV_fits (x : LV) : (encLV x).fits 2 = true := by rw [encLV_def]; rfl
@[simp] theorem encLV_stv (x : LV) : stv (encLV x) = [.i .i64 x.index, .i .i64 x.plus] := by rw [encLV_def]; rfl
@[simp] theorem encLV_nlt (x : LV) (t o : Nat) : (encLV x = V.lptr t o) = False := by rw [encLV_def]; exact eq_false nofun
@[simp] theorem noid_LVs (l : List LV) : V.noidL (l.map encLV) = true := noidL_map _ (fun x => rfl) l
def encL (x : Level) : V := .agg [.i .i64 x.const, .list 2 (List.map encLV x.vars) false]
@[simp] theorem encL_refold (x : Level) : V.agg [.i .i64 x.const, .list 2 (List.map encLV x.vars) false] = encL x := rfl
theorem encL_def (x : Level) : encL x = V.agg [.i .i64 x.const, .list 2 (List.map encLV x.vars) false] := rfl
@[simp] theorem encL_cells (x : Level) : (encL x).cells = [.i .i64 x.const, .list 2 (List.map encLV x.vars) false] := by rw [encL_def]; rfl
@[simp] theorem encL_clr (x : Level) : (encL x).clr = encL x := by rw [encL_def]; rfl
@[simp] theorem encL_hard (x : Level) : (encL x).hard = encL x := by rw [encL_def]; rfl
@[simp] theorem encL_give (x : Level) : (encL x).give = encL x := by rw [encL_def]; rfl
@[simp] theorem encL_free (x : Level) : (encL x).free = true := by rw [encL_def]; rfl
@[simp] theorem encL_tup (x : Level) : (encL x).isTup = false := by rw [encL_def]; rfl
@[simp] theorem encL_good (x : Level) : (encL x).good 2 = true := by rw [encL_def]; rfl
@[simp] theorem encL_fits (x : Level) : (encL x).fits 2 = true := by rw [encL_def]; rfl
@[simp] theorem encL_stv (x : Level) : stv (encL x) = [.i .i64 x.const, .list 2 (List.map encLV x.vars) false] := by rw [encL_def]; rfl
@[simp] theorem encL_nlt (x : Level) (t o : Nat) : (encL x = V.lptr t o) = False := by rw [encL_def]; exact eq_false nofun
@[simp] theorem encL_noid (x : Level) : (encL x).noid = true := by simp [encL_def, -encL_refold]
@[simp] theorem noid_Ls (l : List Level) : V.noidL (l.map encL) = true := noidL_map _ (fun x => by simp) l
inductive Term where
  | mk (kind index : Int) (name : ByteArray) (levels : BL Level) (n : Nat) (f : Fin n → Term)
def Term.sz : Term → Nat
  | .mk _ _ _ _ n f => 1 + (List.ofFn fun i => (f i).sz).sum
def encR : Term → V
  | .mk k i s lv n f => .agg [.i .i64 k, .i .i64 i, .s s, .list 2 (lv.l.map encL) false, .list 5 (List.ofFn fun i => encR (f i)) false]
theorem Term.sz_pos : ∀ t : Term, 1 ≤ t.sz
  | .mk _ _ _ _ n f => by simp [Term.sz]
theorem Term.sz_kid (k i : Int) (s : ByteArray) (lv : BL Level) (n : Nat) (f : Fin n → Term) (j : Fin n) : (f j).sz < (Term.mk k i s lv n f).sz := by
  have := sum_ge (l := List.ofFn fun i => (f i).sz) (x := (f j).sz) (by simp)
  simp only [Term.sz]; omega
/-- a term of a size that fits -/
structure Tm where
  raw : Term
  h : raw.sz < 1073741824
def Tm.kind (t : Tm) : Int := match t.raw with | .mk k _ _ _ _ _ => k
def Tm.index (t : Tm) : Int := match t.raw with | .mk _ i _ _ _ _ => i
def Tm.name (t : Tm) : ByteArray := match t.raw with | .mk _ _ s _ _ _ => s
def Tm.levels (t : Tm) : List Level := match t.raw with | .mk _ _ _ l _ _ => l.l
def Tm.sz (t : Tm) : Nat := t.raw.sz
def Tm.kids : Tm → List Tm
  | ⟨.mk k i s l n f, h⟩ => List.ofFn fun j => ⟨f j, Nat.lt_trans (Term.sz_kid k i s l n f j) h⟩
theorem Tm.kid_sz : ∀ {t x : Tm}, x ∈ t.kids → x.sz < t.sz
  | ⟨.mk k i s l n f, h⟩, x, hx => by
    simp only [Tm.kids, List.mem_ofFn] at hx
    obtain ⟨j, rfl⟩ := hx
    exact Term.sz_kid k i s l n f j
theorem Tm.sz_kids : ∀ t : Tm, t.sz = 1 + (t.kids.map Tm.sz).sum
  | ⟨.mk k i s l n f, h⟩ => by simp only [Tm.sz, Term.sz, Tm.kids, List.map_ofFn]; rfl
theorem Tm.sz_pos (t : Tm) : 1 ≤ t.sz := t.raw.sz_pos
theorem Tm.sz_lt (t : Tm) : t.sz < 1073741824 := t.h
@[simp] theorem Tm.kids_len (t : Tm) : t.kids.length < 1073741824 := by
  have := t.sz_kids
  have h2 := sum_len (l := t.kids.map Tm.sz) (by intro x hx; obtain ⟨y, _, rfl⟩ := List.mem_map.1 hx; exact y.sz_pos)
  have := t.sz_lt
  simp at h2; omega
@[simp] theorem Tm.levels_len : ∀ t : Tm, t.levels.length < 1073741824
  | ⟨.mk k i s l n f, h⟩ => l.h
def encT (t : Tm) : V := encR t.raw
theorem encT_def : ∀ x : Tm, encT x = .agg [.i .i64 x.kind, .i .i64 x.index, .s x.name, .list 2 (List.map encL x.levels) false, .list 5 (List.map encT x.kids) false]
  | ⟨.mk k i s l n f, h⟩ => by simp only [encT, encR, Tm.kind, Tm.index, Tm.name, Tm.levels, Tm.kids, List.map_ofFn]; rfl
@[simp] theorem encT_refold (x : Tm) : V.agg [.i .i64 x.kind, .i .i64 x.index, .s x.name, .list 2 (List.map encL x.levels) false, .list 5 (List.map encT x.kids) false] = encT x := (encT_def x).symm
@[simp] theorem encT_cells (x : Tm) : (encT x).cells = [.i .i64 x.kind, .i .i64 x.index, .s x.name, .list 2 (List.map encL x.levels) false, .list 5 (List.map encT x.kids) false] := by rw [encT_def]; rfl
@[simp] theorem encT_clr (x : Tm) : (encT x).clr = encT x := by rw [encT_def]; rfl
@[simp] theorem encT_hard (x : Tm) : (encT x).hard = encT x := by rw [encT_def]; rfl
@[simp] theorem encT_give (x : Tm) : (encT x).give = encT x := by rw [encT_def]; rfl
@[simp] theorem encT_free (x : Tm) : (encT x).free = true := by rw [encT_def]; rfl
@[simp] theorem encT_tup (x : Tm) : (encT x).isTup = false := by rw [encT_def]; rfl
@[simp] theorem encT_good (x : Tm) : (encT x).good 5 = true := by rw [encT_def]; rfl
@[simp] theorem encT_fits (x : Tm) : (encT x).fits 5 = true := by rw [encT_def]; rfl
@[simp] theorem encT_stv (x : Tm) : stv (encT x) = [.i .i64 x.kind, .i .i64 x.index, .s x.name, .list 2 (List.map encL x.levels) false, .list 5 (List.map encT x.kids) false] := by rw [encT_def]; rfl
@[simp] theorem encT_nlt (x : Tm) (t o : Nat) : (encT x = V.lptr t o) = False := by rw [encT_def]; exact eq_false nofun
theorem Tm.ind {P : Tm → Prop} (h : ∀ t, (∀ x ∈ t.kids, P x) → P t) (t : Tm) : P t := by
  have : ∀ n (t : Tm), t.sz < n → P t := by
    intro n
    induction n with
    | zero => intro t h; omega
    | succ n ih => intro t ht; exact h t fun x hx => ih x (by have := Tm.kid_sz hx; omega)
  exact this _ t (Nat.lt_succ_self _)
theorem noid_R : ∀ t : Term, (encR t).noid = true
  | .mk k i s l n f => by
    simp only [encR, V.noid, V.noidL, noid_Ls, Bool.and_true, Bool.true_and]
    apply noidL_all
    intro v hv
    simp only [List.mem_ofFn] at hv
    obtain ⟨j, rfl⟩ := hv
    exact noid_R (f j)
@[simp] theorem encT_noid (x : Tm) : (encT x).noid = true := noid_R x.raw
@[simp] theorem noid_Ts (l : List Tm) : V.noidL (l.map encT) = true := noidL_map encT (fun x => noid_R x.raw) l
def noName : ByteArray := ⟨#[]⟩
def Tm.flat (k i : Int) (s : ByteArray) (l : BL Level) : Tm := ⟨.mk k i s l 0 (fun j => j.elim0), by simp [Term.sz]⟩
theorem encT_flat (k i : Int) (s : ByteArray) (l : BL Level) : encT (.flat k i s l) = .agg [.i .i64 k, .i .i64 i, .s s, .list 2 (List.map encL l.l) false, .list 5 [] false] := rfl
/-- the zero term -/
def Tm.zero : Tm := .flat 0 0 noName ⟨[], by simp⟩
theorem encT_zero : encT .zero = .agg [.i .i64 0, .i .i64 0, .s ⟨#[]⟩, .list 2 [] false, .list 5 [] false] := rfl

structure Ctor where
  name : ByteArray
  type : Tm
def encC (x : Ctor) : V := .agg [.s x.name, .i .i64 x.type.kind, .i .i64 x.type.index, .s x.type.name, .list 2 (List.map encL x.type.levels) false, .list 5 (List.map encT x.type.kids) false]
@[simp] theorem encC_refold (x : Ctor) : V.agg [.s x.name, .i .i64 x.type.kind, .i .i64 x.type.index, .s x.type.name, .list 2 (List.map encL x.type.levels) false, .list 5 (List.map encT x.type.kids) false] = encC x := rfl
theorem encC_def (x : Ctor) : encC x = V.agg [.s x.name, .i .i64 x.type.kind, .i .i64 x.type.index, .s x.type.name, .list 2 (List.map encL x.type.levels) false, .list 5 (List.map encT x.type.kids) false] := rfl
@[simp] theorem encC_cells (x : Ctor) : (encC x).cells = [.s x.name, .i .i64 x.type.kind, .i .i64 x.type.index, .s x.type.name, .list 2 (List.map encL x.type.levels) false, .list 5 (List.map encT x.type.kids) false] := by rw [encC_def]; rfl
@[simp] theorem encC_clr (x : Ctor) : (encC x).clr = encC x := by rw [encC_def]; rfl
@[simp] theorem encC_hard (x : Ctor) : (encC x).hard = encC x := by rw [encC_def]; rfl
@[simp] theorem encC_give (x : Ctor) : (encC x).give = encC x := by rw [encC_def]; rfl
@[simp] theorem encC_free (x : Ctor) : (encC x).free = true := by rw [encC_def]; rfl
@[simp] theorem encC_tup (x : Ctor) : (encC x).isTup = false := by rw [encC_def]; rfl
@[simp] theorem encC_good (x : Ctor) : (encC x).good 6 = true := by rw [encC_def]; rfl
@[simp] theorem encC_fits (x : Ctor) : (encC x).fits 6 = true := by rw [encC_def]; rfl
@[simp] theorem encC_stv (x : Ctor) : stv (encC x) = [.s x.name, .i .i64 x.type.kind, .i .i64 x.type.index, .s x.type.name, .list 2 (List.map encL x.type.levels) false, .list 5 (List.map encT x.type.kids) false] := by rw [encC_def]; rfl
@[simp] theorem encC_nlt (x : Ctor) (t o : Nat) : (encC x = V.lptr t o) = False := by rw [encC_def]; exact eq_false nofun
@[simp] theorem encC_noid (x : Ctor) : (encC x).noid = true := by simp [encC_def, -encC_refold]
@[simp] theorem noid_Cs (l : List Ctor) : V.noidL (l.map encC) = true := noidL_map _ (fun x => by simp) l
structure Recur where
  params : Int
  type : Tm
  brules : BL Tm
def Recur.rules (r : Recur) : List Tm := r.brules.l
@[simp] theorem Recur.rules_len (l : Recur) : l.rules.length < 1073741824 := l.brules.h
def encRec (x : Recur) : V := .agg [.i .i64 x.params, .i .i64 x.type.kind, .i .i64 x.type.index, .s x.type.name, .list 2 (List.map encL x.type.levels) false, .list 5 (List.map encT x.type.kids) false, .list 5 (List.map encT x.rules) false]
@[simp] theorem encRec_refold (x : Recur) : V.agg [.i .i64 x.params, .i .i64 x.type.kind, .i .i64 x.type.index, .s x.type.name, .list 2 (List.map encL x.type.levels) false, .list 5 (List.map encT x.type.kids) false, .list 5 (List.map encT x.rules) false] = encRec x := rfl
theorem encRec_def (x : Recur) : encRec x = V.agg [.i .i64 x.params, .i .i64 x.type.kind, .i .i64 x.type.index, .s x.type.name, .list 2 (List.map encL x.type.levels) false, .list 5 (List.map encT x.type.kids) false, .list 5 (List.map encT x.rules) false] := rfl
@[simp] theorem encRec_cells (x : Recur) : (encRec x).cells = [.i .i64 x.params, .i .i64 x.type.kind, .i .i64 x.type.index, .s x.type.name, .list 2 (List.map encL x.type.levels) false, .list 5 (List.map encT x.type.kids) false, .list 5 (List.map encT x.rules) false] := by rw [encRec_def]; rfl
@[simp] theorem encRec_clr (x : Recur) : (encRec x).clr = encRec x := by rw [encRec_def]; rfl
@[simp] theorem encRec_hard (x : Recur) : (encRec x).hard = encRec x := by rw [encRec_def]; rfl
@[simp] theorem encRec_give (x : Recur) : (encRec x).give = encRec x := by rw [encRec_def]; rfl
@[simp] theorem encRec_free (x : Recur) : (encRec x).free = true := by rw [encRec_def]; rfl
@[simp] theorem encRec_tup (x : Recur) : (encRec x).isTup = false := by rw [encRec_def]; rfl
@[simp] theorem encRec_good (x : Recur) : (encRec x).good 7 = true := by rw [encRec_def]; rfl
@[simp] theorem encRec_fits (x : Recur) : (encRec x).fits 7 = true := by rw [encRec_def]; rfl
@[simp] theorem encRec_stv (x : Recur) : stv (encRec x) = [.i .i64 x.params, .i .i64 x.type.kind, .i .i64 x.type.index, .s x.type.name, .list 2 (List.map encL x.type.levels) false, .list 5 (List.map encT x.type.kids) false, .list 5 (List.map encT x.rules) false] := by rw [encRec_def]; rfl
@[simp] theorem encRec_nlt (x : Recur) (t o : Nat) : (encRec x = V.lptr t o) = False := by rw [encRec_def]; exact eq_false nofun
@[simp] theorem encRec_noid (x : Recur) : (encRec x).noid = true := by simp [encRec_def, -encRec_refold]
inductive Tree where
  | mk (kind : Int) (body : Tm) (tvar : Int) (n : Nat) (names : Fin n → ByteArray × Bool) (f : Fin n → Tree)
def Tree.sz : Tree → Nat
  | .mk _ _ _ n _ f => 1 + (List.ofFn fun i => (f i).sz).sum
def encQ : Tree → List V
  | .mk k b v n a f => [.i .i64 k, .i .i64 b.kind, .i .i64 b.index, .s b.name, .list 2 (List.map encL b.levels) false, .list 5 (List.map encT b.kids) false, .i .i64 v, .list 10 (List.ofFn fun i => .agg (.s (a i).1 :: .b (a i).2 :: encQ (f i))) false]
theorem Tree.sz_pos : ∀ t : Tree, 1 ≤ t.sz
  | .mk _ _ _ n _ f => by simp [Tree.sz]
theorem Tree.sz_kid (k : Int) (b : Tm) (v : Int) (n : Nat) (a : Fin n → ByteArray × Bool) (f : Fin n → Tree) (j : Fin n) : (f j).sz < (Tree.mk k b v n a f).sz := by
  have := sum_ge (l := List.ofFn fun i => (f i).sz) (x := (f j).sz) (by simp)
  simp only [Tree.sz]; omega
structure Tre where
  raw : Tree
  h : raw.sz < 1073741824
structure Brn where
  ctor : ByteArray
  absurd : Bool
  tree : Tre
def Tre.kind (t : Tre) : Int := match t.raw with | .mk k _ _ _ _ _ => k
def Tre.body (t : Tre) : Tm := match t.raw with | .mk _ b _ _ _ _ => b
def Tre.tvar (t : Tre) : Int := match t.raw with | .mk _ _ v _ _ _ => v
def Tre.sz (t : Tre) : Nat := t.raw.sz
def Tre.branches : Tre → List Brn
  | ⟨.mk k b v n a f, h⟩ => List.ofFn fun j => ⟨(a j).1, (a j).2, ⟨f j, Nat.lt_trans (Tree.sz_kid k b v n a f j) h⟩⟩
theorem Tre.kid_sz : ∀ {t : Tre} {x : Brn}, x ∈ t.branches → x.tree.sz < t.sz
  | ⟨.mk k b v n a f, h⟩, x, hx => by
    simp only [Tre.branches, List.mem_ofFn] at hx
    obtain ⟨j, rfl⟩ := hx
    exact Tree.sz_kid k b v n a f j
theorem Tre.sz_pos (t : Tre) : 1 ≤ t.sz := t.raw.sz_pos
theorem Tre.sz_lt (t : Tre) : t.sz < 1073741824 := t.h
theorem Tre.sz_kids : ∀ t : Tre, t.sz = 1 + (t.branches.map fun b => b.tree.sz).sum
  | ⟨.mk k b v n a f, h⟩ => by simp only [Tre.sz, Tree.sz, Tre.branches, List.map_ofFn]; rfl
@[simp] theorem Tre.branches_len (t : Tre) : t.branches.length < 1073741824 := by
  have := t.sz_kids
  have h2 := sum_len (l := t.branches.map fun b => b.tree.sz) (by intro x hx; obtain ⟨y, _, rfl⟩ := List.mem_map.1 hx; exact y.tree.sz_pos)
  have := t.sz_lt
  simp at h2; omega
def encTr (t : Tre) : V := .agg (encQ t.raw)
def encB (x : Brn) : V := .agg (.s x.ctor :: .b x.absurd :: encQ x.tree.raw)
theorem encTr_def : ∀ x : Tre, encTr x = .agg [.i .i64 x.kind, .i .i64 x.body.kind, .i .i64 x.body.index, .s x.body.name, .list 2 (List.map encL x.body.levels) false, .list 5 (List.map encT x.body.kids) false, .i .i64 x.tvar, .list 10 (List.map encB x.branches) false]
  | ⟨.mk k b v n a f, h⟩ => by simp only [encTr, encQ, Tre.kind, Tre.body, Tre.tvar, Tre.branches, List.map_ofFn]; rfl
theorem encB_def (x : Brn) : encB x = .agg [.s x.ctor, .b x.absurd, .i .i64 x.tree.kind, .i .i64 x.tree.body.kind, .i .i64 x.tree.body.index, .s x.tree.body.name, .list 2 (List.map encL x.tree.body.levels) false, .list 5 (List.map encT x.tree.body.kids) false, .i .i64 x.tree.tvar, .list 10 (List.map encB x.tree.branches) false] := by
  have := encTr_def x.tree
  simp only [encTr, V.agg.injEq] at this
  simp only [encB, this]
@[simp] theorem encTr_refold (x : Tre) : V.agg [.i .i64 x.kind, .i .i64 x.body.kind, .i .i64 x.body.index, .s x.body.name, .list 2 (List.map encL x.body.levels) false, .list 5 (List.map encT x.body.kids) false, .i .i64 x.tvar, .list 10 (List.map encB x.branches) false] = encTr x := (encTr_def x).symm
@[simp] theorem encTr_cells (x : Tre) : (encTr x).cells = [.i .i64 x.kind, .i .i64 x.body.kind, .i .i64 x.body.index, .s x.body.name, .list 2 (List.map encL x.body.levels) false, .list 5 (List.map encT x.body.kids) false, .i .i64 x.tvar, .list 10 (List.map encB x.branches) false] := by rw [encTr_def]; rfl
@[simp] theorem encTr_clr (x : Tre) : (encTr x).clr = encTr x := by rw [encTr_def]; rfl
@[simp] theorem encTr_hard (x : Tre) : (encTr x).hard = encTr x := by rw [encTr_def]; rfl
@[simp] theorem encTr_give (x : Tre) : (encTr x).give = encTr x := by rw [encTr_def]; rfl
@[simp] theorem encTr_free (x : Tre) : (encTr x).free = true := by rw [encTr_def]; rfl
@[simp] theorem encTr_tup (x : Tre) : (encTr x).isTup = false := by rw [encTr_def]; rfl
@[simp] theorem encTr_good (x : Tre) : (encTr x).good 8 = true := by rw [encTr_def]; rfl
@[simp] theorem encTr_fits (x : Tre) : (encTr x).fits 8 = true := by rw [encTr_def]; rfl
@[simp] theorem encTr_stv (x : Tre) : stv (encTr x) = [.i .i64 x.kind, .i .i64 x.body.kind, .i .i64 x.body.index, .s x.body.name, .list 2 (List.map encL x.body.levels) false, .list 5 (List.map encT x.body.kids) false, .i .i64 x.tvar, .list 10 (List.map encB x.branches) false] := by rw [encTr_def]; rfl
@[simp] theorem encTr_nlt (x : Tre) (t o : Nat) : (encTr x = V.lptr t o) = False := by rw [encTr_def]; exact eq_false nofun
@[simp] theorem encB_refold (x : Brn) : V.agg [.s x.ctor, .b x.absurd, .i .i64 x.tree.kind, .i .i64 x.tree.body.kind, .i .i64 x.tree.body.index, .s x.tree.body.name, .list 2 (List.map encL x.tree.body.levels) false, .list 5 (List.map encT x.tree.body.kids) false, .i .i64 x.tree.tvar, .list 10 (List.map encB x.tree.branches) false] = encB x := (encB_def x).symm
@[simp] theorem encB_cells (x : Brn) : (encB x).cells = [.s x.ctor, .b x.absurd, .i .i64 x.tree.kind, .i .i64 x.tree.body.kind, .i .i64 x.tree.body.index, .s x.tree.body.name, .list 2 (List.map encL x.tree.body.levels) false, .list 5 (List.map encT x.tree.body.kids) false, .i .i64 x.tree.tvar, .list 10 (List.map encB x.tree.branches) false] := by rw [encB_def]; rfl
@[simp] theorem encB_clr (x : Brn) : (encB x).clr = encB x := by rw [encB_def]; rfl
@[simp] theorem encB_hard (x : Brn) : (encB x).hard = encB x := by rw [encB_def]; rfl
@[simp] theorem encB_give (x : Brn) : (encB x).give = encB x := by rw [encB_def]; rfl
@[simp] theorem encB_free (x : Brn) : (encB x).free = true := by rw [encB_def]; rfl
@[simp] theorem encB_tup (x : Brn) : (encB x).isTup = false := by rw [encB_def]; rfl
@[simp] theorem encB_good (x : Brn) : (encB x).good 10 = true := by rw [encB_def]; rfl
@[simp] theorem encB_fits (x : Brn) : (encB x).fits 10 = true := by rw [encB_def]; rfl
@[simp] theorem encB_stv (x : Brn) : stv (encB x) = [.s x.ctor, .b x.absurd, .i .i64 x.tree.kind, .i .i64 x.tree.body.kind, .i .i64 x.tree.body.index, .s x.tree.body.name, .list 2 (List.map encL x.tree.body.levels) false, .list 5 (List.map encT x.tree.body.kids) false, .i .i64 x.tree.tvar, .list 10 (List.map encB x.tree.branches) false] := by rw [encB_def]; rfl
@[simp] theorem encB_nlt (x : Brn) (t o : Nat) : (encB x = V.lptr t o) = False := by rw [encB_def]; exact eq_false nofun
theorem Tre.ind {P : Tre → Prop} (h : ∀ t, (∀ x ∈ t.branches, P x.tree) → P t) (t : Tre) : P t := by
  have : ∀ n (t : Tre), t.sz < n → P t := by
    intro n
    induction n with
    | zero => intro t h; omega
    | succ n ih => intro t ht; exact h t fun x hx => ih x.tree (by have := Tre.kid_sz hx; omega)
  exact this _ t (Nat.lt_succ_self _)
theorem noid_Q : ∀ t : Tree, V.noidL (encQ t) = true
  | .mk k b v n a f => by
    simp only [encQ, V.noid, V.noidL, noid_Ls, noid_Ts, Bool.and_true, Bool.true_and]
    apply noidL_all
    intro w hw
    simp only [List.mem_ofFn] at hw
    obtain ⟨j, rfl⟩ := hw
    simp only [V.noid, V.noidL, noid_Q (f j), Bool.and_true]
@[simp] theorem encTr_noid (x : Tre) : (encTr x).noid = true := by simp [encTr, noid_Q]
@[simp] theorem encB_noid (x : Brn) : (encB x).noid = true := by simp [encB, noid_Q]
@[simp] theorem noid_Bs (l : List Brn) : V.noidL (l.map encB) = true := noidL_map encB (fun x => by simp) l
def Tre.zero : Tre := ⟨.mk 0 .zero 0 0 (fun j => j.elim0) (fun j => j.elim0), by simp [Tree.sz]⟩
theorem encTr_zero : encTr .zero = .agg [.i .i64 0, .i .i64 0, .i .i64 0, .s ⟨#[]⟩, .list 2 [] false, .list 5 [] false, .i .i64 0, .list 10 [] false] := rfl
structure Fun where
  name : ByteArray
  type : Tm
  arity : Int
  tree : Tre
def encF (x : Fun) : V := .agg [.s x.name, .i .i64 x.type.kind, .i .i64 x.type.index, .s x.type.name, .list 2 (List.map encL x.type.levels) false, .list 5 (List.map encT x.type.kids) false, .i .i64 x.arity, .i .i64 x.tree.kind, .i .i64 x.tree.body.kind, .i .i64 x.tree.body.index, .s x.tree.body.name, .list 2 (List.map encL x.tree.body.levels) false, .list 5 (List.map encT x.tree.body.kids) false, .i .i64 x.tree.tvar, .list 10 (List.map encB x.tree.branches) false]
@[simp] theorem encF_refold (x : Fun) : V.agg [.s x.name, .i .i64 x.type.kind, .i .i64 x.type.index, .s x.type.name, .list 2 (List.map encL x.type.levels) false, .list 5 (List.map encT x.type.kids) false, .i .i64 x.arity, .i .i64 x.tree.kind, .i .i64 x.tree.body.kind, .i .i64 x.tree.body.index, .s x.tree.body.name, .list 2 (List.map encL x.tree.body.levels) false, .list 5 (List.map encT x.tree.body.kids) false, .i .i64 x.tree.tvar, .list 10 (List.map encB x.tree.branches) false] = encF x := rfl
theorem encF_def (x : Fun) : encF x = V.agg [.s x.name, .i .i64 x.type.kind, .i .i64 x.type.index, .s x.type.name, .list 2 (List.map encL x.type.levels) false, .list 5 (List.map encT x.type.kids) false, .i .i64 x.arity, .i .i64 x.tree.kind, .i .i64 x.tree.body.kind, .i .i64 x.tree.body.index, .s x.tree.body.name, .list 2 (List.map encL x.tree.body.levels) false, .list 5 (List.map encT x.tree.body.kids) false, .i .i64 x.tree.tvar, .list 10 (List.map encB x.tree.branches) false] := rfl
@[simp] theorem encF_cells (x : Fun) : (encF x).cells = [.s x.name, .i .i64 x.type.kind, .i .i64 x.type.index, .s x.type.name, .list 2 (List.map encL x.type.levels) false, .list 5 (List.map encT x.type.kids) false, .i .i64 x.arity, .i .i64 x.tree.kind, .i .i64 x.tree.body.kind, .i .i64 x.tree.body.index, .s x.tree.body.name, .list 2 (List.map encL x.tree.body.levels) false, .list 5 (List.map encT x.tree.body.kids) false, .i .i64 x.tree.tvar, .list 10 (List.map encB x.tree.branches) false] := by rw [encF_def]; rfl
@[simp] theorem encF_clr (x : Fun) : (encF x).clr = encF x := by rw [encF_def]; rfl
@[simp] theorem encF_hard (x : Fun) : (encF x).hard = encF x := by rw [encF_def]; rfl
@[simp] theorem encF_give (x : Fun) : (encF x).give = encF x := by rw [encF_def]; rfl
@[simp] theorem encF_free (x : Fun) : (encF x).free = true := by rw [encF_def]; rfl
@[simp] theorem encF_tup (x : Fun) : (encF x).isTup = false := by rw [encF_def]; rfl
@[simp] theorem encF_good (x : Fun) : (encF x).good 15 = true := by rw [encF_def]; rfl
@[simp] theorem encF_fits (x : Fun) : (encF x).fits 15 = true := by rw [encF_def]; rfl
@[simp] theorem encF_stv (x : Fun) : stv (encF x) = [.s x.name, .i .i64 x.type.kind, .i .i64 x.type.index, .s x.type.name, .list 2 (List.map encL x.type.levels) false, .list 5 (List.map encT x.type.kids) false, .i .i64 x.arity, .i .i64 x.tree.kind, .i .i64 x.tree.body.kind, .i .i64 x.tree.body.index, .s x.tree.body.name, .list 2 (List.map encL x.tree.body.levels) false, .list 5 (List.map encT x.tree.body.kids) false, .i .i64 x.tree.tvar, .list 10 (List.map encB x.tree.branches) false] := by rw [encF_def]; rfl
@[simp] theorem encF_nlt (x : Fun) (t o : Nat) : (encF x = V.lptr t o) = False := by rw [encF_def]; exact eq_false nofun
@[simp] theorem encF_noid (x : Fun) : (encF x).noid = true := by simp [encF_def, -encF_refold]
@[simp] theorem noid_Fs (l : List Fun) : V.noidL (l.map encF) = true := noidL_map _ (fun x => by simp) l
structure BN where
  s : ByteArray
  h : s.size < 1073741824
structure Decl where
  kind : Int
  bname : BN
  params : Int
  type : Tm
  value : Tm
  fixed : Int
  bctors : BL Ctor
  recur : Recur
  bfuns : BL Fun
def Decl.name (d : Decl) : ByteArray := d.bname.s
@[simp] theorem Decl.name_len (d : Decl) : d.name.size < 1073741824 := d.bname.h
def Decl.ctors (d : Decl) : List Ctor := d.bctors.l
def Decl.funs (d : Decl) : List Fun := d.bfuns.l
@[simp] theorem Decl.ctors_len (d : Decl) : d.ctors.length < 1073741824 := d.bctors.h
@[simp] theorem Decl.funs_len (d : Decl) : d.funs.length < 1073741824 := d.bfuns.h
def encD (x : Decl) : V := .agg [.i .i64 x.kind, .s x.name, .i .i64 x.params, .i .i64 x.type.kind, .i .i64 x.type.index, .s x.type.name, .list 2 (List.map encL x.type.levels) false, .list 5 (List.map encT x.type.kids) false, .i .i64 x.value.kind, .i .i64 x.value.index, .s x.value.name, .list 2 (List.map encL x.value.levels) false, .list 5 (List.map encT x.value.kids) false, .i .i64 x.fixed, .list 6 (List.map encC x.ctors) false, .i .i64 x.recur.params, .i .i64 x.recur.type.kind, .i .i64 x.recur.type.index, .s x.recur.type.name, .list 2 (List.map encL x.recur.type.levels) false, .list 5 (List.map encT x.recur.type.kids) false, .list 5 (List.map encT x.recur.rules) false, .list 15 (List.map encF x.funs) false]
@[simp] theorem encD_refold (x : Decl) : V.agg [.i .i64 x.kind, .s x.name, .i .i64 x.params, .i .i64 x.type.kind, .i .i64 x.type.index, .s x.type.name, .list 2 (List.map encL x.type.levels) false, .list 5 (List.map encT x.type.kids) false, .i .i64 x.value.kind, .i .i64 x.value.index, .s x.value.name, .list 2 (List.map encL x.value.levels) false, .list 5 (List.map encT x.value.kids) false, .i .i64 x.fixed, .list 6 (List.map encC x.ctors) false, .i .i64 x.recur.params, .i .i64 x.recur.type.kind, .i .i64 x.recur.type.index, .s x.recur.type.name, .list 2 (List.map encL x.recur.type.levels) false, .list 5 (List.map encT x.recur.type.kids) false, .list 5 (List.map encT x.recur.rules) false, .list 15 (List.map encF x.funs) false] = encD x := rfl
theorem encD_def (x : Decl) : encD x = V.agg [.i .i64 x.kind, .s x.name, .i .i64 x.params, .i .i64 x.type.kind, .i .i64 x.type.index, .s x.type.name, .list 2 (List.map encL x.type.levels) false, .list 5 (List.map encT x.type.kids) false, .i .i64 x.value.kind, .i .i64 x.value.index, .s x.value.name, .list 2 (List.map encL x.value.levels) false, .list 5 (List.map encT x.value.kids) false, .i .i64 x.fixed, .list 6 (List.map encC x.ctors) false, .i .i64 x.recur.params, .i .i64 x.recur.type.kind, .i .i64 x.recur.type.index, .s x.recur.type.name, .list 2 (List.map encL x.recur.type.levels) false, .list 5 (List.map encT x.recur.type.kids) false, .list 5 (List.map encT x.recur.rules) false, .list 15 (List.map encF x.funs) false] := rfl
@[simp] theorem encD_cells (x : Decl) : (encD x).cells = [.i .i64 x.kind, .s x.name, .i .i64 x.params, .i .i64 x.type.kind, .i .i64 x.type.index, .s x.type.name, .list 2 (List.map encL x.type.levels) false, .list 5 (List.map encT x.type.kids) false, .i .i64 x.value.kind, .i .i64 x.value.index, .s x.value.name, .list 2 (List.map encL x.value.levels) false, .list 5 (List.map encT x.value.kids) false, .i .i64 x.fixed, .list 6 (List.map encC x.ctors) false, .i .i64 x.recur.params, .i .i64 x.recur.type.kind, .i .i64 x.recur.type.index, .s x.recur.type.name, .list 2 (List.map encL x.recur.type.levels) false, .list 5 (List.map encT x.recur.type.kids) false, .list 5 (List.map encT x.recur.rules) false, .list 15 (List.map encF x.funs) false] := by rw [encD_def]; rfl
@[simp] theorem encD_clr (x : Decl) : (encD x).clr = encD x := by rw [encD_def]; rfl
@[simp] theorem encD_hard (x : Decl) : (encD x).hard = encD x := by rw [encD_def]; rfl
@[simp] theorem encD_give (x : Decl) : (encD x).give = encD x := by rw [encD_def]; rfl
@[simp] theorem encD_free (x : Decl) : (encD x).free = true := by rw [encD_def]; rfl
@[simp] theorem encD_tup (x : Decl) : (encD x).isTup = false := by rw [encD_def]; rfl
@[simp] theorem encD_good (x : Decl) : (encD x).good 23 = true := by rw [encD_def]; rfl
@[simp] theorem encD_fits (x : Decl) : (encD x).fits 23 = true := by rw [encD_def]; rfl
@[simp] theorem encD_stv (x : Decl) : stv (encD x) = [.i .i64 x.kind, .s x.name, .i .i64 x.params, .i .i64 x.type.kind, .i .i64 x.type.index, .s x.type.name, .list 2 (List.map encL x.type.levels) false, .list 5 (List.map encT x.type.kids) false, .i .i64 x.value.kind, .i .i64 x.value.index, .s x.value.name, .list 2 (List.map encL x.value.levels) false, .list 5 (List.map encT x.value.kids) false, .i .i64 x.fixed, .list 6 (List.map encC x.ctors) false, .i .i64 x.recur.params, .i .i64 x.recur.type.kind, .i .i64 x.recur.type.index, .s x.recur.type.name, .list 2 (List.map encL x.recur.type.levels) false, .list 5 (List.map encT x.recur.type.kids) false, .list 5 (List.map encT x.recur.rules) false, .list 15 (List.map encF x.funs) false] := by rw [encD_def]; rfl
@[simp] theorem encD_nlt (x : Decl) (t o : Nat) : (encD x = V.lptr t o) = False := by rw [encD_def]; exact eq_false nofun
@[simp] theorem encD_noid (x : Decl) : (encD x).noid = true := by simp [encD_def, -encD_refold]
@[simp] theorem noid_Ds (l : List Decl) : V.noidL (l.map encD) = true := noidL_map _ (fun x => by simp) l
structure Entry where
  kind : Int
  decl : Int
  item : Int
  params : Int
  type : Tm
def encE (x : Entry) : V := .agg [.i .i64 x.kind, .i .i64 x.decl, .i .i64 x.item, .i .i64 x.params, .i .i64 x.type.kind, .i .i64 x.type.index, .s x.type.name, .list 2 (List.map encL x.type.levels) false, .list 5 (List.map encT x.type.kids) false]
@[simp] theorem encE_refold (x : Entry) : V.agg [.i .i64 x.kind, .i .i64 x.decl, .i .i64 x.item, .i .i64 x.params, .i .i64 x.type.kind, .i .i64 x.type.index, .s x.type.name, .list 2 (List.map encL x.type.levels) false, .list 5 (List.map encT x.type.kids) false] = encE x := rfl
theorem encE_def (x : Entry) : encE x = V.agg [.i .i64 x.kind, .i .i64 x.decl, .i .i64 x.item, .i .i64 x.params, .i .i64 x.type.kind, .i .i64 x.type.index, .s x.type.name, .list 2 (List.map encL x.type.levels) false, .list 5 (List.map encT x.type.kids) false] := rfl
@[simp] theorem encE_cells (x : Entry) : (encE x).cells = [.i .i64 x.kind, .i .i64 x.decl, .i .i64 x.item, .i .i64 x.params, .i .i64 x.type.kind, .i .i64 x.type.index, .s x.type.name, .list 2 (List.map encL x.type.levels) false, .list 5 (List.map encT x.type.kids) false] := by rw [encE_def]; rfl
@[simp] theorem encE_clr (x : Entry) : (encE x).clr = encE x := by rw [encE_def]; rfl
@[simp] theorem encE_hard (x : Entry) : (encE x).hard = encE x := by rw [encE_def]; rfl
@[simp] theorem encE_give (x : Entry) : (encE x).give = encE x := by rw [encE_def]; rfl
@[simp] theorem encE_free (x : Entry) : (encE x).free = true := by rw [encE_def]; rfl
@[simp] theorem encE_tup (x : Entry) : (encE x).isTup = false := by rw [encE_def]; rfl
@[simp] theorem encE_good (x : Entry) : (encE x).good 9 = true := by rw [encE_def]; rfl
@[simp] theorem encE_fits (x : Entry) : (encE x).fits 9 = true := by rw [encE_def]; rfl
@[simp] theorem encE_stv (x : Entry) : stv (encE x) = [.i .i64 x.kind, .i .i64 x.decl, .i .i64 x.item, .i .i64 x.params, .i .i64 x.type.kind, .i .i64 x.type.index, .s x.type.name, .list 2 (List.map encL x.type.levels) false, .list 5 (List.map encT x.type.kids) false] := by rw [encE_def]; rfl
@[simp] theorem encE_nlt (x : Entry) (t o : Nat) : (encE x = V.lptr t o) = False := by rw [encE_def]; exact eq_false nofun
@[simp] theorem encE_noid (x : Entry) : (encE x).noid = true := by simp [encE_def, -encE_refold]
structure Scope where
  env : List Decl
  own : List ByteArray
  d : Decl
def encSc (x : Scope) : V := .agg [.list 23 (List.map encD x.env) false, .list 1 (List.map V.s x.own) false, .i .i64 x.d.kind, .s x.d.name, .i .i64 x.d.params, .i .i64 x.d.type.kind, .i .i64 x.d.type.index, .s x.d.type.name, .list 2 (List.map encL x.d.type.levels) false, .list 5 (List.map encT x.d.type.kids) false, .i .i64 x.d.value.kind, .i .i64 x.d.value.index, .s x.d.value.name, .list 2 (List.map encL x.d.value.levels) false, .list 5 (List.map encT x.d.value.kids) false, .i .i64 x.d.fixed, .list 6 (List.map encC x.d.ctors) false, .i .i64 x.d.recur.params, .i .i64 x.d.recur.type.kind, .i .i64 x.d.recur.type.index, .s x.d.recur.type.name, .list 2 (List.map encL x.d.recur.type.levels) false, .list 5 (List.map encT x.d.recur.type.kids) false, .list 5 (List.map encT x.d.recur.rules) false, .list 15 (List.map encF x.d.funs) false]
@[simp] theorem encSc_refold (x : Scope) : V.agg [.list 23 (List.map encD x.env) false, .list 1 (List.map V.s x.own) false, .i .i64 x.d.kind, .s x.d.name, .i .i64 x.d.params, .i .i64 x.d.type.kind, .i .i64 x.d.type.index, .s x.d.type.name, .list 2 (List.map encL x.d.type.levels) false, .list 5 (List.map encT x.d.type.kids) false, .i .i64 x.d.value.kind, .i .i64 x.d.value.index, .s x.d.value.name, .list 2 (List.map encL x.d.value.levels) false, .list 5 (List.map encT x.d.value.kids) false, .i .i64 x.d.fixed, .list 6 (List.map encC x.d.ctors) false, .i .i64 x.d.recur.params, .i .i64 x.d.recur.type.kind, .i .i64 x.d.recur.type.index, .s x.d.recur.type.name, .list 2 (List.map encL x.d.recur.type.levels) false, .list 5 (List.map encT x.d.recur.type.kids) false, .list 5 (List.map encT x.d.recur.rules) false, .list 15 (List.map encF x.d.funs) false] = encSc x := rfl
theorem encSc_def (x : Scope) : encSc x = V.agg [.list 23 (List.map encD x.env) false, .list 1 (List.map V.s x.own) false, .i .i64 x.d.kind, .s x.d.name, .i .i64 x.d.params, .i .i64 x.d.type.kind, .i .i64 x.d.type.index, .s x.d.type.name, .list 2 (List.map encL x.d.type.levels) false, .list 5 (List.map encT x.d.type.kids) false, .i .i64 x.d.value.kind, .i .i64 x.d.value.index, .s x.d.value.name, .list 2 (List.map encL x.d.value.levels) false, .list 5 (List.map encT x.d.value.kids) false, .i .i64 x.d.fixed, .list 6 (List.map encC x.d.ctors) false, .i .i64 x.d.recur.params, .i .i64 x.d.recur.type.kind, .i .i64 x.d.recur.type.index, .s x.d.recur.type.name, .list 2 (List.map encL x.d.recur.type.levels) false, .list 5 (List.map encT x.d.recur.type.kids) false, .list 5 (List.map encT x.d.recur.rules) false, .list 15 (List.map encF x.d.funs) false] := rfl
@[simp] theorem encSc_cells (x : Scope) : (encSc x).cells = [.list 23 (List.map encD x.env) false, .list 1 (List.map V.s x.own) false, .i .i64 x.d.kind, .s x.d.name, .i .i64 x.d.params, .i .i64 x.d.type.kind, .i .i64 x.d.type.index, .s x.d.type.name, .list 2 (List.map encL x.d.type.levels) false, .list 5 (List.map encT x.d.type.kids) false, .i .i64 x.d.value.kind, .i .i64 x.d.value.index, .s x.d.value.name, .list 2 (List.map encL x.d.value.levels) false, .list 5 (List.map encT x.d.value.kids) false, .i .i64 x.d.fixed, .list 6 (List.map encC x.d.ctors) false, .i .i64 x.d.recur.params, .i .i64 x.d.recur.type.kind, .i .i64 x.d.recur.type.index, .s x.d.recur.type.name, .list 2 (List.map encL x.d.recur.type.levels) false, .list 5 (List.map encT x.d.recur.type.kids) false, .list 5 (List.map encT x.d.recur.rules) false, .list 15 (List.map encF x.d.funs) false] := by rw [encSc_def]; rfl
@[simp] theorem encSc_clr (x : Scope) : (encSc x).clr = encSc x := by rw [encSc_def]; rfl
@[simp] theorem encSc_hard (x : Scope) : (encSc x).hard = encSc x := by rw [encSc_def]; rfl
@[simp] theorem encSc_give (x : Scope) : (encSc x).give = encSc x := by rw [encSc_def]; rfl
@[simp] theorem encSc_free (x : Scope) : (encSc x).free = true := by rw [encSc_def]; rfl
@[simp] theorem encSc_tup (x : Scope) : (encSc x).isTup = false := by rw [encSc_def]; rfl
@[simp] theorem encSc_good (x : Scope) : (encSc x).good 25 = true := by rw [encSc_def]; rfl
@[simp] theorem encSc_fits (x : Scope) : (encSc x).fits 25 = true := by rw [encSc_def]; rfl
@[simp] theorem encSc_stv (x : Scope) : stv (encSc x) = [.list 23 (List.map encD x.env) false, .list 1 (List.map V.s x.own) false, .i .i64 x.d.kind, .s x.d.name, .i .i64 x.d.params, .i .i64 x.d.type.kind, .i .i64 x.d.type.index, .s x.d.type.name, .list 2 (List.map encL x.d.type.levels) false, .list 5 (List.map encT x.d.type.kids) false, .i .i64 x.d.value.kind, .i .i64 x.d.value.index, .s x.d.value.name, .list 2 (List.map encL x.d.value.levels) false, .list 5 (List.map encT x.d.value.kids) false, .i .i64 x.d.fixed, .list 6 (List.map encC x.d.ctors) false, .i .i64 x.d.recur.params, .i .i64 x.d.recur.type.kind, .i .i64 x.d.recur.type.index, .s x.d.recur.type.name, .list 2 (List.map encL x.d.recur.type.levels) false, .list 5 (List.map encT x.d.recur.type.kids) false, .list 5 (List.map encT x.d.recur.rules) false, .list 15 (List.map encF x.d.funs) false] := by rw [encSc_def]; rfl
@[simp] theorem encSc_nlt (x : Scope) (t o : Nat) : (encSc x = V.lptr t o) = False := by rw [encSc_def]; exact eq_false nofun
@[simp] theorem encSc_noid (x : Scope) : (encSc x).noid = true := by simp [encSc_def, -encSc_refold]
@[simp] theorem binV_LVne (a b : LV) : binV (.agg 2) .neq (encLV a) (encLV b) = some (.b (!decide (a = b))) := by
  cases a; cases b
  simp [encLV_def, -encLV_refold, aggEq]
@[simp] theorem binV_LVeq (a b : LV) : binV (.agg 2) .eql (encLV a) (encLV b) = some (.b (decide (a = b))) := by
  cases a; cases b
  simp [encLV_def, -encLV_refold, aggEq]
def Eqv (w v : V) : Prop := v = w
@[simp] theorem eqv_b (x y : Bool) : Eqv (.b x) (.b y) ↔ y = x := by simp [Eqv]
@[simp] theorem eqv_i (x y : Int) : Eqv (.i .i64 x) (.i .i64 y) ↔ y = x := by simp [Eqv]
theorem eqv_ret {T : Nat → Option IFn} {k : Nat} {args : List V} {w : V} (h : ∃ v, Ret T k args v ∧ Eqv w v) : Ret T k args w := by
  obtain ⟨_, h, rfl⟩ := h; exact h
/-- the first of a name -/
def first {α : Type} (nm : α → ByteArray) (n : ByteArray) : List α → Nat → Option (Nat × α)
  | [], _ => none
  | x :: r, i => if nm x = n then some (i, x) else first nm n r (i + 1)
/-- none of the first j has the name -/
def NB {α : Type} (nm : α → ByteArray) (n : ByteArray) (l : List α) (j : Nat) : Prop := ∀ i x, i < j → l[i]? = some x → nm x ≠ n
theorem nb_zero {α : Type} {nm : α → ByteArray} {n : ByteArray} {l : List α} : NB nm n l 0 := fun i x h => by omega
theorem nb_succ {α : Type} {nm : α → ByteArray} {n : ByteArray} {l : List α} {j : Nat} {x : α} (h : NB nm n l j) (hj : l[j]? = some x) (hx : nm x ≠ n) : NB nm n l (j + 1) := by
  intro i y hi hy
  by_cases e : i = j
  · subst e; rw [hj] at hy; cases hy; exact hx
  · exact h i y (by omega) hy
theorem first_hit {α : Type} {nm : α → ByteArray} {n : ByteArray} : ∀ {l : List α} {j k : Nat} {x : α}, NB nm n l j → l[j]? = some x → nm x = n → first nm n l k = some (k + j, x)
  | [], j, k, x, h, hj, hx => by simp at hj
  | y :: r, 0, k, x, h, hj, hx => by simp at hj; subst hj; simp [first, hx]
  | y :: r, j + 1, k, x, h, hj, hx => by
    have hy : nm y ≠ n := h 0 y (by omega) (by simp)
    simp only [first, hy, if_false]
    rw [first_hit (j := j) (fun i x hi hx => h (i + 1) x (by omega) (by simpa using hx)) (by simpa using hj) hx]
    simp; omega
theorem first_none {α : Type} {nm : α → ByteArray} {n : ByteArray} : ∀ {l : List α} {j k : Nat}, NB nm n l j → l.length ≤ j → first nm n l k = none
  | [], j, k, h, hj => rfl
  | y :: r, j, k, h, hj => by
    simp at hj
    have hy : nm y ≠ n := h 0 y (by omega) (by simp)
    simp only [first, hy, if_false]
    exact first_none (j := j - 1) (fun i x hi hx => h (i + 1) x (by omega) (by simpa using hx)) (by omega)
theorem first_some {α : Type} {nm : α → ByteArray} {n : ByteArray} : ∀ {l : List α} {k i : Nat} {x : α}, first nm n l k = some (i, x) → k ≤ i ∧ l[i - k]? = some x ∧ nm x = n
  | [], k, i, x, h => by simp [first] at h
  | y :: r, k, i, x, h => by
    simp only [first] at h
    split at h
    · rename_i e; simp at h; obtain ⟨rfl, rfl⟩ := h; simp [e]
    · have := first_some h
      refine ⟨by omega, ?_, this.2.2⟩
      have e : i - k = (i - (k + 1)) + 1 := by omega
      rw [e]; simpa using this.2.1
def dotRec : ByteArray := ⟨#[46, 114, 101, 99]⟩
/-- a declaration's names -/
def namesD (d : Decl) : List ByteArray :=
  if d.kind = 0 ∨ d.kind = 1 ∨ d.kind = 2 then [d.name]
  else if d.kind = 3 then d.name :: d.ctors.map Ctor.name ++ [d.name ++ dotRec]
  else if d.kind = 4 then d.funs.map Fun.name
  else []
/-- the entry of a name -/
def entryOf (d : Decl) (at_ : Int) (n : ByteArray) : Option Entry :=
  if d.kind = 0 ∨ d.kind = 1 ∨ d.kind = 2 then (if n = d.name then some ⟨d.kind, at_, 0, d.params, d.type⟩ else none)
  else if d.kind = 3 then
    if n = d.name then some ⟨3, at_, 0, d.params, d.type⟩
    else match first Ctor.name n d.ctors 0 with
      | some (i, c) => some ⟨4, at_, i, d.params, c.type⟩
      | none => if n = d.name ++ dotRec then some ⟨5, at_, 0, d.recur.params, d.recur.type⟩ else none
  else if d.kind = 4 then match first Fun.name n d.funs 0 with
    | some (i, f) => some ⟨6, at_, i, d.params, f.type⟩
    | none => none
  else none
/-- the first entry of a name in a list of declarations -/
def findE (n : ByteArray) : List Decl → Nat → Option Entry
  | [], _ => none
  | d :: r, k => match entryOf d k n with
    | some e => some e
    | none => findE n r (k + 1)
def Entry.zero : Entry := ⟨0, 0, 0, 0, .zero⟩
theorem encE_zero : encE .zero = .agg [.i .i64 0, .i .i64 0, .i .i64 0, .i .i64 0, .i .i64 0, .i .i64 0, .s ⟨#[]⟩, .list 2 [] false, .list 5 [] false] := rfl
def Decl.zero : Decl := ⟨0, ⟨noName, by decide⟩, 0, .zero, .zero, 0, ⟨[], by simp⟩, ⟨0, .zero, ⟨[], by simp⟩⟩, ⟨[], by simp⟩⟩
theorem entryOf_some (d : Decl) (a b : Int) (n : ByteArray) : (entryOf d a n).isSome = (entryOf d b n).isSome := by
  unfold entryOf
  split
  · split <;> rfl
  · split
    · split
      · rfl
      · split
        · rfl
        · split <;> rfl
    · split
      · split <;> rfl
      · rfl
/-- what a search returns -/
def findR (env : List Decl) (n : ByteArray) : Entry × Int := match findE n env 0 with
  | some e => (e, 0)
  | none => (.zero, 9)
/-- none of the first j declares the name -/
def NF (n : ByteArray) (l : List Decl) (j : Nat) : Prop := ∀ i d, i < j → l[i]? = some d → (entryOf d 0 n).isSome = false
theorem nf_zero {n : ByteArray} {l : List Decl} : NF n l 0 := fun i x h => by omega
theorem nf_succ {n : ByteArray} {l : List Decl} {j : Nat} {x : Decl} (h : NF n l j) (hj : l[j]? = some x) (hx : (entryOf x 0 n).isSome = false) : NF n l (j + 1) := by
  intro i y hi hy
  by_cases e : i = j
  · subst e; rw [hj] at hy; cases hy; exact hx
  · exact h i y (by omega) hy
theorem findE_hit {n : ByteArray} : ∀ {l : List Decl} {j k : Nat} {x : Decl} {e : Entry}, NF n l j → l[j]? = some x → entryOf x ((k + j : Nat) : Int) n = some e → findE n l k = some e
  | [], j, k, x, e, h, hj, hx => by simp at hj
  | y :: r, 0, k, x, e, h, hj, hx => by simp at hj; subst hj; simp at hx; simp [findE, hx]
  | y :: r, j + 1, k, x, e, h, hj, hx => by
    have hy : (entryOf y k n).isSome = false := by rw [entryOf_some y k 0]; exact h 0 y (by omega) (by simp)
    have hy : entryOf y k n = none := by simpa using hy
    simp only [findE, hy]
    refine findE_hit (j := j) (fun i x hi hx => h (i + 1) x (by omega) (by simpa using hx)) (by simpa using hj) ?_
    rw [show k + 1 + j = k + (j + 1) by omega]; exact hx
theorem findE_none {n : ByteArray} : ∀ {l : List Decl} {j k : Nat}, NF n l j → l.length ≤ j → findE n l k = none
  | [], j, k, h, hj => rfl
  | y :: r, j, k, h, hj => by
    simp at hj
    have hy : (entryOf y k n).isSome = false := by rw [entryOf_some y k 0]; exact h 0 y (by omega) (by simp)
    have hy : entryOf y k n = none := by simpa using hy
    simp only [findE, hy]
    exact findE_none (j := j - 1) (fun i x hi hx => h (i + 1) x (by omega) (by simpa using hx)) (by omega)
theorem findE_some {n : ByteArray} : ∀ {l : List Decl} {k : Nat} {e : Entry}, findE n l k = some e → ∃ i d, l[i]? = some d ∧ entryOf d ((k + i : Nat) : Int) n = some e
  | [], k, e, h => by simp [findE] at h
  | y :: r, k, e, h => by
    simp only [findE] at h
    split at h
    · rename_i e' he; cases h; exact ⟨0, y, by simp, by simpa using he⟩
    · obtain ⟨i, d, hi, he⟩ := findE_some h
      exact ⟨i + 1, d, by simpa using hi, by rw [show k + (i + 1) = k + 1 + i by omega]; exact he⟩
/-- what an entry says of its declaration -/
theorem entryOf_facts {d : Decl} {a : Int} {n : ByteArray} {e : Entry} (h : entryOf d a n = some e) : e.decl = a ∧ (e.kind = 4 → ∃ i : Nat, e.item = i ∧ i < d.ctors.length) ∧ (e.kind = 3 → d.kind = 3) := by
  unfold entryOf at h
  split at h
  · rename_i hk
    split at h
    · cases h; refine ⟨rfl, fun c => ?_, fun c => c⟩; simp only at c; omega
    · cases h
  · split at h
    · rename_i hk
      split at h
      · cases h; exact ⟨rfl, fun c => by simp at c, fun _ => hk⟩
      · split at h
        · rename_i i c hf
          cases h
          have := first_some hf
          simp at this
          refine ⟨rfl, fun _ => ⟨i, rfl, (List.getElem?_eq_some_iff.1 this.1).1⟩, fun c => by simp at c⟩
        · split at h
          · cases h; exact ⟨rfl, fun c => by simp at c, fun _ => hk⟩
          · cases h
    · split at h
      · split at h
        · cases h; exact ⟨rfl, fun c => by simp at c, fun c => by simp at c⟩
        · cases h
      · cases h
theorem findR_facts {env : List Decl} {n : ByteArray} (h : (findR env n).2 = 0) : ∃ (i : Nat) (d : Decl), env[i]? = some d ∧ (findR env n).1.decl = i ∧ ((findR env n).1.kind = 4 → ∃ k : Nat, (findR env n).1.item = k ∧ k < d.ctors.length) ∧ ((findR env n).1.kind = 3 → d.kind = 3) := by
  unfold findR at h ⊢
  cases hf : findE n env 0 with
  | none => rw [hf] at h; simp at h
  | some e =>
    obtain ⟨i, d, hi, he⟩ := findE_some hf
    have := entryOf_facts he
    simp at this
    exact ⟨i, d, hi, this.1, this.2.1, this.2.2⟩
def IsI (v : V) : Prop := ∃ e, v = .i .i64 e
def IsB (v : V) : Prop := ∃ e, v = .b e
@[simp] theorem isI_i (n : Int) : IsI (.i .i64 n) := ⟨n, rfl⟩
@[simp] theorem isB_b (n : Bool) : IsB (.b n) := ⟨n, rfl⟩
theorem ex_i {T : Nat → Option IFn} {k : Nat} {args : List V} (h : ∃ v, Ret T k args v ∧ IsI v) : ∃ e, Ret T k args (.i .i64 e) := by
  obtain ⟨_, h, e, rfl⟩ := h; exact ⟨e, h⟩
theorem ex_b {T : Nat → Option IFn} {k : Nat} {args : List V} (h : ∃ v, Ret T k args v ∧ IsB v) : ∃ e, Ret T k args (.b e) := by
  obtain ⟨_, h, e, rfl⟩ := h; exact ⟨e, h⟩
theorem ret_eq {T : Nat → Option IFn} {k : Nat} {args : List V} {v w : V} (h : Ret T k args v) (h' : Ret T k args w) : v = w := by
  obtain ⟨n, h⟩ := h; obtain ⟨m, h'⟩ := h'
  have := run_det (h .empty) (h' .empty)
  cases this; rfl
theorem byte_some {a : ByteArray} {j : Nat} (h : j < a.size) : a[j]? = some a[j] := by simp [h]
end Go.Iv
