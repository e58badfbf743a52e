import Derived.Test.YtdffdnbkinpbiaaOr
set_option linter.unusedVariables false
set_option linter.unusedSimpArgs false
namespace Go.Proofs.Ytdffdnbkinpbiaa
open Go Go.RowKit Sx

def compare (v w : Vect) : Int := orI [cmp3 v.root w.root, cmp3 v.cost w.cost, cmp3 v.bridge w.bridge, cmp3 v.port w.port]
theorem free_compare : staticOk (opsAt PG 32 1) = true := by kernel_rfl
theorem compare_ac (v w : Vect) : CX 32 [.agg v.ds, .agg w.ds] (vI .i64 (compare v w)) :=
  ac_of {orc := [cal (vI .i64 (cmp3 v.root w.root)), cal (vI .i64 (cmp3 v.cost w.cost)), cal (vI .i64 (cmp3 v.bridge w.bridge)), cal (vI .i64 (cmp3 v.port w.port)), cal (vI .i64 (compare v w))]}
    (.cons free_compare <| .cons (cmpB_ac v.root w.root) (.cons (cmpC_ac v.cost w.cost) (.cons (cmpB_ac v.bridge w.bridge) (.cons (cmpP_ac v.port w.port) (.cons (or_ac [cmp3 v.root w.root, cmp3 v.cost w.cost, cmp3 v.bridge w.bridge, cmp3 v.port w.port] (by simp)) .nil))))) (by kernel_rfl)
def keeps (v w : Vect) : Bool := decide (compare v w ≤ 0)
theorem keeps_ac (v w : Vect) : CX 22 [.agg v.ds, .agg w.ds] (vB (keeps v w)) :=
  ac_of {orc := [cal (vI .i64 (compare v w))]} (.cons (compare_ac v w) .nil) (by kernel_rfl)
def far (a b : Int) : Int := bif decide (b > IntKind.u32.wrap (4294967295 - a)) then 4294967295 else IntKind.u32.wrap (a + b)
theorem far_ac (a b : Int) : CX 26 [.one (dI .u32 a), .one (dI .u32 b)] (vI .u32 (far a b)) := by
  unfold far
  cases h : decide (b > IntKind.u32.wrap (4294967295 - a))
  · exact ac_of {path := [false]} (.cons h .nil) (by kernel_rfl)
  · exact ac_of {path := [true]} (.cons h .nil) (by kernel_rfl)
def via (v : Vect) (c : Int) : Vect := { v with cost := far v.cost c }
theorem via_ac (v : Vect) (c : Int) : CX 33 [.agg v.ds, .one (dI .u32 c)] (sA (via v c).ds) :=
  ac_of {orc := [cal (vI .u32 (far v.cost c))]} (.cons (far_ac v.cost c) .nil) (by kernel_rfl)
/-! tree -/
def better (p q : Port) : Bool :=
  bif decide (compare (via p.held p.cost) (via q.held q.cost) < 0) then true
  else bif compare (via p.held p.cost) (via q.held q.cost) == 0 then decide (p.id < q.id) else false
theorem free_better : staticOk (opsAt PG 25 1) = true := by kernel_rfl
theorem better_ac (p q : Port) : CX 25 [.agg p.ds, .agg q.ds] (vB (better p q)) := by
  unfold better
  cases h : decide (compare (via p.held p.cost) (via q.held q.cost) < 0)
  · cases h2 : compare (via p.held p.cost) (via q.held q.cost) == 0
    · exact ac_of {path := [false, false], orc := [cal (sA (via p.held p.cost).ds), cal (sA (via q.held q.cost).ds), cal (vI .i64 (compare (via p.held p.cost) (via q.held q.cost)))]}
        (.cons free_better <| .cons (via_ac p.held p.cost) (.cons (via_ac q.held q.cost) (.cons (compare_ac (via p.held p.cost) (via q.held q.cost)) (.cons h (.cons h2 .nil))))) (by kernel_rfl)
    · exact ac_of {path := [false, true], orc := [cal (sA (via p.held p.cost).ds), cal (sA (via q.held q.cost).ds), cal (vI .i64 (compare (via p.held p.cost) (via q.held q.cost)))]}
        (.cons free_better <| .cons (via_ac p.held p.cost) (.cons (via_ac q.held q.cost) (.cons (compare_ac (via p.held p.cost) (via q.held q.cost)) (.cons h (.cons h2 .nil))))) (by kernel_rfl)
  · exact ac_of {path := [true], orc := [cal (sA (via p.held p.cost).ds), cal (sA (via q.held q.cost).ds), cal (vI .i64 (compare (via p.held p.cost) (via q.held q.cost)))]}
        (.cons free_better <| .cons (via_ac p.held p.cost) (.cons (via_ac q.held q.cost) (.cons (compare_ac (via p.held p.cost) (via q.held q.cost)) (.cons h .nil)))) (by kernel_rfl)
def candidate (own : Int) (p : Port) : Bool := bif !designated p own then bif p.state != 0 then decide (p.held.root < own) else false else false
theorem candidate_ac (t : Tree) (p : Port) : CX 24 [.agg t.ds, .agg p.ds] (vB (candidate t.own p)) := by
  unfold candidate
  cases h : !designated p t.own
  · exact ac_of {path := [false], orc := [cal (vB (designated p t.own))]} (.cons (designated_ac p t.own) (.cons h .nil)) (by kernel_rfl)
  · cases h2 : p.state != 0
    · exact ac_of {path := [true, false], orc := [cal (vB (designated p t.own))]} (.cons (designated_ac p t.own) (.cons h (.cons h2 .nil))) (by kernel_rfl)
    · exact ac_of {path := [true, true], orc := [cal (vB (designated p t.own))]} (.cons (designated_ac p t.own) (.cons h (.cons h2 .nil))) (by kernel_rfl)
def telling (t : Tree) : Vect := ⟨t.root, t.cost, t.own, 0⟩
theorem telling_ac (t : Tree) : CX 21 [.agg t.ds] (sA (telling t).ds) := ac_of {} .nil (by kernel_rfl)
def isRoot (t : Tree) : Bool := t.root == t.own
theorem isRoot_ac (t : Tree) : CX 16 [.agg t.ds] (vB (isRoot t)) := ac_of {} .nil (by kernel_rfl)
end Go.Proofs.Ytdffdnbkinpbiaa
