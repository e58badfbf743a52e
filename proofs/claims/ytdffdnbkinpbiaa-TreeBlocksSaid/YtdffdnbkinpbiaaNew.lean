import Derived.Test.YtdffdnbkinpbiaaStates
set_option linter.unusedVariables false
set_option linter.unusedSimpArgs false
namespace Go.Proofs.Ytdffdnbkinpbiaa
open Go Go.RowKit Sx

/-! tree.New -/
def newV (c : Conf) : Vect := ⟨confId c, 0, confId c, 0⟩
def newP (c : Conf) (i : Nat) (p : PConf) : Port := portNew (portId p.prio i) p.cost p.on (newV c)
def newPorts (c : Conf) : List Port := c.ports.mapIdx (newP c)
def newTimes (c : Conf) : Times := ⟨spanOf c.maxAge, spanOf c.hello, spanOf c.delay⟩
def treeNew (c : Conf) : Tree := ⟨confId c, confId c, 0, -1, newTimes c, newTimes c, false, false, timer0, timer0, timer0, newPorts c⟩
theorem newPorts_len (c : Conf) : (newPorts c).length = c.ports.length := by simp [newPorts]
/-- The first ones, and the next one behind them. -/
theorem take_next {l : List Port} {i : Nat} {q : Port} (h : l[i]? = some q) : rowP (l.take i) ++ [q.ds] = rowP (l.take (i + 1)) := by
  unfold rowP
  rw [List.take_add_one, h]
  simp
theorem take_few {l : List Port} {i : Nat} (h : l.length ≤ 1000000) : ((rowP (l.take i)).length + 1) * 112 ≤ 140737488355328 := by
  have : (rowP (l.take i)).length ≤ l.length := by simp [rowP]; omega
  omega
theorem one_all (q : Port) : ∀ el ∈ [q.ds], el.length = 15 := by
  intro el he
  simp at he
  subst he
  rfl
theorem take_all (l : List Port) : rowP (l.take l.length) = rowP l := by rw [List.take_length]
def newS (c : Conf) (i : Nat) : St := ⟨hd 50 [(1, .ptr 0 0), (2, .ptr 1 0), (5, .ptr 2 0), (26, .d (.row (rowC c.ports))), (27, vI .i64 c.ports.length), (28, vI .i64 i)],
  [.box (c.ds.map .d), .box (tSV tree0 (.d .nil)), .box (tSV (treeNew c) (.own 3)), pRow ((newPorts c).take i)]⟩
def newQ (c : Conf) : St := ⟨hd 50 [(2, .ptr 0 0), (5, .ptr 1 0)], [.box (tSV tree0 (.d .nil)), .box (tSV (treeNew c) (.own 2)), pRow (newPorts c)]⟩
theorem free_new1 : staticOk (opsAt PG 15 2) = true := by kernel_rfl
theorem free_new2 : staticOk (opsAt PG 15 7) = true := by kernel_rfl
theorem new_step (c : Conf) (hl : c.ports.length ≤ 1000000) {i : Nat} (h : i < c.ports.length) {p : PConf} (hp : c.ports[i]? = some p) :
    AL PG GL 0 (loopAt PG 15 0) (newS c i) .normal (newS c (i + 1)) := by
  have hP : (newPorts c)[i]? = some (newP c i p) := by simp [newPorts, hp]
  exact al_of {path := [true], orc := [.elem p.ds, cal (vI .u16 (portId p.prio i)), cal (sA (newV c).ds), cal (sA (newP c i p).ds)], eds := [.keep [1, 2, 5, 26, 27, 28], .re [0, 1, 2, 18], .unlit], says := [.d (.t 28) (dI .i64 (i + 1 : Nat)), .row 3 (rowP ((newPorts c).take (i + 1)))]}
    (.cons (lt_t h) <| .cons (nn i) <| .cons (row_lt (f := PConf.ds) h) <| .cons (row_get (f := PConf.ds) hp) <| .cons free_new2 <| .cons (confPortId_ac c i p hp) <| .cons (telling_ac { treeNew c with ports := (newPorts c).take i }) <| .cons (portNew_ac (portId p.prio i) p.cost p.on (newV c)) <|
      .cons (take_few (l := newPorts c) (i := i) (by rw [newPorts_len]; exact hl)) <| .cons (one_all (newP c i p)) <| .cons (next_i h (by omega)) <| .cons (take_next hP) <| .nil) (by kernel_rfl)
theorem new_loop (c : Conf) (hl : c.ports.length ≤ 1000000) : AL PG GL 0 (.loop (loopAt PG 15 0)) (newS c 0) (.exit 0) (newQ c) := by
  refine al_loop (n := c.ports.length) (newS c) (by simp) (fun i hi => ?_) ?_
  · obtain ⟨p, hp⟩ := some_at (l := c.ports) (i := i) hi
    exact new_step c hl hi hp
  · have := take_all (newPorts c)
    rw [newPorts_len] at this
    exact al_of {path := [false], eds := [.keep [2, 5], .re [1, 2, 3], .unlit], says := [.row 2 (rowP (newPorts c))]} (.cons (lt_ff c.ports.length) <| .cons this <| .nil) (by kernel_rfl)
theorem rowC_len (l : List PConf) : dI .i64 ((rowC l).length : Int) = dI .i64 (l.length : Int) := row_len PConf.ds l
theorem treeNew_ac (c : Conf) (hl : c.ports.length ≤ 1000000) : CX 15 [.agg c.ds] (sA (treeNew c).ds) :=
  ac_of {orc := [cal (vI .u64 (confId c)), cal (vI .i64 (spanOf c.maxAge)), cal (vI .i64 (spanOf c.hello)), cal (vI .i64 (spanOf c.delay))], ls := [⟨[.keep [1, 2, 5, 26, 27, 28], .re [0, 1, 14], .unlit, .at_ (.b 2 18) (.adopt 15 42)], [.d (.t 27) (dI .i64 c.ports.length)], .exit 0, newQ c⟩], eds := [.at_ (.ta 0 18) .exp, .re [], .unlit]}
    (.cons (confId_ac c) <| .cons free_new1 <| .cons (spanOf_ac c.maxAge) <| .cons (spanOf_ac c.hello) <| .cons (spanOf_ac c.delay) <| .cons (rowC_len c.ports) <| .cons (new_loop c hl) <| .nil) (by kernel_rfl)
end Go.Proofs.Ytdffdnbkinpbiaa
