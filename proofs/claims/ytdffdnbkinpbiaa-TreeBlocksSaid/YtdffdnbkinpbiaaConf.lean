import Derived.Test.YtdffdnbkinpbiaaRank
set_option linter.unusedVariables false
set_option linter.unusedSimpArgs false
namespace Go.Proofs.Ytdffdnbkinpbiaa
open Go Go.RowKit Sx

def iOr (k : IntKind) (a b : Int) : Int := k.wrap ((BitVec.ofInt k.bits a ||| BitVec.ofInt k.bits b).toNat : Int)
def iAnd (k : IntKind) (a b : Int) : Int := k.wrap ((BitVec.ofInt k.bits a &&& BitVec.ofInt k.bits b).toNat : Int)
def iShl (k : IntKind) (a : Int) (n : Nat) : Int := k.wrap (a * 2 ^ min n k.bits)
def bridgeId (prio addr : Int) : Int := iOr .u64 (iShl .u64 (IntKind.u64.wrap prio) 48) (iAnd .u64 addr 281474976710655)
theorem bridgeId_ac (p a : Int) : CX 34 [.one (dI .u16 p), .one (dI .u64 a)] (vI .u64 (bridgeId p a)) := ac_of {} .nil (by kernel_rfl)
def portId (prio i : Int) : Int := iOr .u16 (iShl .u16 (IntKind.u16.wrap prio) 8) (IntKind.u16.wrap (IntKind.u8.wrap (IntKind.i64.wrap (i + 1))))
theorem portId_ac (p i : Int) : CX 35 [.one (dI .u8 p), .one (dI .i64 i)] (vI .u16 (portId p i)) := ac_of {} .nil (by kernel_rfl)
def confId (c : Conf) : Int := bridgeId c.prio c.addr
theorem confId_ac (c : Conf) : CX 27 [.agg c.ds] (vI .u64 (confId c)) := ac_of {orc := [cal (vI .u64 (confId c))]} (.cons (bridgeId_ac c.prio c.addr) .nil) (by kernel_rfl)
theorem ge_f {i n : Nat} (h : i < n) : decide ((i : Int) ≥ (n : Int)) = false := by
  simp
  omega
theorem neg_f (i : Nat) : decide ((i : Int) < 0) = false := by
  simp
theorem confPortId_ac (c : Conf) (i : Nat) (p : PConf) (h : c.ports[i]? = some p) : CX 30 [.agg c.ds, .one (dI .i64 i)] (vI .u16 (portId p.prio i)) := by
  have hi : i < (rowC c.ports).length := by
    have := (List.getElem?_eq_some_iff.1 h).1
    simpa [rowC] using this
  exact ac_of {path := [false, false], orc := [.elem p.ds, cal (vI .u16 (portId p.prio i))]} (.cons (neg_f i) (.cons (ge_f hi) (.cons (nn i) (.cons (by omega : ((i : Nat) : Int) < ((rowC c.ports).length : Int)) (.cons (row_get (f := PConf.ds) h) (.cons (portId_ac p.prio i) .nil)))))) (by kernel_rfl)
def spanOf (n : Int) : Int := bif decide (n > 255) then 65535 else IntKind.i64.wrap (imax n 0 * 256)
theorem spanOf_ac (n : Int) : CX 28 [.one (dI .i64 n)] (vI .i64 (spanOf n)) := by
  unfold spanOf
  cases h : decide (n > 255)
  · exact ac_of {path := [false]} (.cons h .nil) (by kernel_rfl)
  · exact ac_of {path := [true]} (.cons h .nil) (by kernel_rfl)
def fits (t : Timer) : Bool := bif decide (t.val ≥ 0) then bif decide (t.val ≤ 1073741824) then bif t.on then true else t.val == 0 else false else false
theorem fits_ac (t : Timer) : CX 17 [.agg t.ds] (vB (fits t)) := by
  unfold fits
  cases h : decide (t.val ≥ 0)
  · exact ac_of {path := [false]} (.cons h .nil) (by kernel_rfl)
  · cases h2 : decide (t.val ≤ 1073741824)
    · exact ac_of {path := [true, false]} (.cons h (.cons h2 .nil)) (by kernel_rfl)
    · cases h3 : t.on
      · exact ac_of {path := [true, true, false]} (.cons h (.cons h2 (.cons h3 .nil))) (by kernel_rfl)
      · exact ac_of {path := [true, true, true]} (.cons h (.cons h2 (.cons h3 .nil))) (by kernel_rfl)
/-! tree.Copy -/
abbrev tSV (t : Tree) (ports : SV) : List SV := t.hs.map .d ++ [ports]
theorem ds_len (p : Port) : p.ds.length = 15 := rfl
theorem rowP_all (l : List Port) : ∀ el ∈ rowP l, el.length = 15 := row_all (f := Port.ds) (n := 15) ds_len
/-- Few enough for the machine's memory. -/
theorem few {l : List Port} (h : l.length ≤ 1000000) : (0 + (rowP l).length) * 112 ≤ 140737488355328 := by
  have : (rowP l).length = l.length := by simp [rowP]
  omega
abbrev pRow (l : List Port) : Blk := .row 15 42 (rowP l)
theorem copy_ac (t : Tree) (h : t.ports.length ≤ 1000000) : AC PG GL 11 [.agg t.ds] [] (.agg (tSV t (.own 0))) [pRow t.ports] :=
  ac_of {eds := [.re [3], .unlit]} (.cons (few h) (.cons (rowP_all t.ports) .nil)) (by kernel_rfl)
end Go.Proofs.Ytdffdnbkinpbiaa
