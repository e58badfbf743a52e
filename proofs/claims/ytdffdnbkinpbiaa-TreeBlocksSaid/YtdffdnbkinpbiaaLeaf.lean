import Derived.Test.YtdffdnbkinpbiaaHead
set_option linter.unusedVariables false
set_option linter.unusedSimpArgs false
namespace Go.Proofs.Ytdffdnbkinpbiaa
open Go Go.RowKit Sx

/-! timer -/
theorem stop_ac : CX 19 [] (sA (Timer.ds ⟨false, 0⟩)) := ac_of {} .nil (by kernel_rfl)
def imax (a b : Int) : Int := if b > a then b else a
def imin (a b : Int) : Int := if b < a then b else a
def tstart (n : Int) : Timer := ⟨true, imin (imax n 0) 1073741824⟩
theorem start_ac (n : Int) : CX 31 [.one (dI .i64 n)] (sA (tstart n).ds) := ac_of {} .nil (by kernel_rfl)
/-! port -/
def designated (p : Port) (own : Int) : Bool := bif p.held.bridge == own then p.held.port == p.id else false
theorem designated_ac (p : Port) (own : Int) : CX 9 [.agg p.ds, .one (dI .u64 own)] (vB (designated p own)) := by
  unfold designated
  cases h : p.held.bridge == own
  · exact ac_of {path := [false]} (.cons h .nil) (by kernel_rfl)
  · exact ac_of {path := [true]} (.cons h .nil) (by kernel_rfl)
def rise (p : Port) : Port := bif p.state == 1 then { p with state := 2, delay := tstart 0 } else p
theorem rise_ac (p : Port) : CX 18 [.agg p.ds] (sA (rise p).ds) := by
  unfold rise
  cases h : p.state == 1
  · exact ac_of {path := [false]} (.cons h .nil) (by kernel_rfl)
  · exact ac_of {path := [true], orc := [cal (sA (tstart 0).ds)]} (.cons h (.cons (start_ac 0) .nil)) (by kernel_rfl)
def blocked (p : Port) : Port := { p with state := 1, delay := ⟨false, 0⟩ }
def block (p : Port) : Port × Bool := bif p.state == 0 then (p, false) else bif p.state == 1 then (p, false) else (blocked p, bif p.state == 3 then true else p.state == 4)
abbrev sPB (r : Port × Bool) : SV := .tup [sA r.1.ds, vB r.2]
theorem block_ac (p : Port) : CX 20 [.agg p.ds] (sPB (block p)) := by
  unfold block
  cases h0 : p.state == 0
  · cases h1 : p.state == 1
    · cases h3 : p.state == 3
      · exact ac_of {path := [false, false, false], orc := [cal (sA (Timer.ds ⟨false, 0⟩))]} (.cons h0 (.cons h1 (.cons h3 (.cons stop_ac .nil)))) (by kernel_rfl)
      · exact ac_of {path := [false, false, true], orc := [cal (sA (Timer.ds ⟨false, 0⟩))]} (.cons h0 (.cons h1 (.cons h3 (.cons stop_ac .nil)))) (by kernel_rfl)
    · exact ac_of {path := [false, true]} (.cons h0 (.cons h1 .nil)) (by kernel_rfl)
  · exact ac_of {path := [true]} (.cons h0 .nil) (by kernel_rfl)
def become (p : Port) (v : Vect) : Port := { p with held := { v with port := p.id } }
theorem become_ac (p : Port) (v : Vect) : CX 23 [.agg p.ds, .agg v.ds] (sA (become p v).ds) := ac_of {} .nil (by kernel_rfl)
def timer0 : Timer := ⟨false, 0⟩
def port0 (id cost : Int) : Port := { id := id, state := 0, cost := cost, held := ⟨0, 0, 0, 0⟩, ack := false, pending := false, age := timer0, delay := timer0, hold := timer0 }
def portNew (id cost : Int) (on : Bool) (v : Vect) : Port := bif on then { become (port0 id cost) v with state := 1 } else become (port0 id cost) v
theorem portNew_ac (id cost : Int) (on : Bool) (v : Vect) : CX 29 [.one (dI .u16 id), .one (dI .u32 cost), .one (dB on), .agg v.ds] (sA (portNew id cost on v).ds) := by
  unfold portNew
  cases on
  · exact ac_of {path := [false], orc := [cal (sA (become (port0 id cost) v).ds)]} (.cons (become_ac (port0 id cost) v) (.cons (rfl : false = false) .nil)) (by kernel_rfl)
  · exact ac_of {path := [true], orc := [cal (sA (become (port0 id cost) v).ds)]} (.cons (become_ac (port0 id cost) v) (.cons (rfl : true = true) .nil)) (by kernel_rfl)
/-! cmp -/
theorem nanB_ac (a : Int) : CX 40 [.one (dI .u64 a)] (vB (!(a == a))) := ac_of {} .nil (by kernel_rfl)
theorem nanC_ac (a : Int) : CX 41 [.one (dI .u32 a)] (vB (!(a == a))) := ac_of {} .nil (by kernel_rfl)
theorem nanP_ac (a : Int) : CX 42 [.one (dI .u16 a)] (vB (!(a == a))) := ac_of {} .nil (by kernel_rfl)
def cmp3 (a b : Int) : Int := bif decide (a < b) then -1 else bif decide (a > b) then 1 else 0
theorem ne_self (a : Int) : (!(a == a)) = false := by simp
theorem cmpB_ac (a b : Int) : CX 37 [.one (dI .u64 a), .one (dI .u64 b)] (vI .i64 (cmp3 a b)) := by
  unfold cmp3
  cases h : decide (a < b)
  · cases h2 : decide (a > b)
    · exact ac_of {path := [false, false, false, false], orc := [cal (vB (!(a == a))), cal (vB (!(b == b)))]} (.cons (nanB_ac a) (.cons (nanB_ac b) (.cons (ne_self a) (.cons (ne_self b) (.cons h (.cons h2 .nil)))))) (by kernel_rfl)
    · exact ac_of {path := [false, false, false, true], orc := [cal (vB (!(a == a))), cal (vB (!(b == b)))]} (.cons (nanB_ac a) (.cons (nanB_ac b) (.cons (ne_self a) (.cons (ne_self b) (.cons h (.cons h2 .nil)))))) (by kernel_rfl)
  · exact ac_of {path := [false, false, true], orc := [cal (vB (!(a == a))), cal (vB (!(b == b)))]} (.cons (nanB_ac a) (.cons (nanB_ac b) (.cons (ne_self a) (.cons (ne_self b) (.cons h .nil))))) (by kernel_rfl)
theorem cmpC_ac (a b : Int) : CX 38 [.one (dI .u32 a), .one (dI .u32 b)] (vI .i64 (cmp3 a b)) := by
  unfold cmp3
  cases h : decide (a < b)
  · cases h2 : decide (a > b)
    · exact ac_of {path := [false, false, false, false], orc := [cal (vB (!(a == a))), cal (vB (!(b == b)))]} (.cons (nanC_ac a) (.cons (nanC_ac b) (.cons (ne_self a) (.cons (ne_self b) (.cons h (.cons h2 .nil)))))) (by kernel_rfl)
    · exact ac_of {path := [false, false, false, true], orc := [cal (vB (!(a == a))), cal (vB (!(b == b)))]} (.cons (nanC_ac a) (.cons (nanC_ac b) (.cons (ne_self a) (.cons (ne_self b) (.cons h (.cons h2 .nil)))))) (by kernel_rfl)
  · exact ac_of {path := [false, false, true], orc := [cal (vB (!(a == a))), cal (vB (!(b == b)))]} (.cons (nanC_ac a) (.cons (nanC_ac b) (.cons (ne_self a) (.cons (ne_self b) (.cons h .nil))))) (by kernel_rfl)
theorem cmpP_ac (a b : Int) : CX 39 [.one (dI .u16 a), .one (dI .u16 b)] (vI .i64 (cmp3 a b)) := by
  unfold cmp3
  cases h : decide (a < b)
  · cases h2 : decide (a > b)
    · exact ac_of {path := [false, false, false, false], orc := [cal (vB (!(a == a))), cal (vB (!(b == b)))]} (.cons (nanP_ac a) (.cons (nanP_ac b) (.cons (ne_self a) (.cons (ne_self b) (.cons h (.cons h2 .nil)))))) (by kernel_rfl)
    · exact ac_of {path := [false, false, false, true], orc := [cal (vB (!(a == a))), cal (vB (!(b == b)))]} (.cons (nanP_ac a) (.cons (nanP_ac b) (.cons (ne_self a) (.cons (ne_self b) (.cons h (.cons h2 .nil)))))) (by kernel_rfl)
  · exact ac_of {path := [false, false, true], orc := [cal (vB (!(a == a))), cal (vB (!(b == b)))]} (.cons (nanP_ac a) (.cons (nanP_ac b) (.cons (ne_self a) (.cons (ne_self b) (.cons h .nil))))) (by kernel_rfl)
end Go.Proofs.Ytdffdnbkinpbiaa
