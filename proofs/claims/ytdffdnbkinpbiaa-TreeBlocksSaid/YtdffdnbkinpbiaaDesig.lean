import Derived.Test.YtdffdnbkinpbiaaSel
set_option linter.unusedVariables false
set_option linter.unusedSimpArgs false
namespace Go.Proofs.Ytdffdnbkinpbiaa
open Go Go.RowKit Sx

theorem hw_lt (g : Port → Port) {l : List Port} {i : Nat} (h : i < l.length) : ((i : Nat) : Int) < ((rowP (halfway g l i)).length : Int) := by
  simp [rowP, halfway_length]
  omega
theorem hw_nat (g : Port → Port) {l : List Port} {i : Nat} (h : i < l.length) : ((i : Nat) : Int).toNat < (rowP (halfway g l i)).length := by
  simp [rowP, halfway_length]
  omega
theorem hw_get (g : Port → Port) {l : List Port} {i : Nat} {p : Port} (h : l[i]? = some p) : (rowP (halfway g l i))[((i : Nat) : Int).toNat]? = some p.ds := by
  simp [rowP, halfway_get g h]
theorem hw_set (g : Port → Port) {l : List Port} {i : Nat} {p q : Port} (h : l[i]? = some p) (e : q = g p) : (rowP (halfway g l i)).set i q.ds = rowP (halfway g l (i + 1)) := by
  subst e
  unfold rowP
  rw [map_set, halfway_set g h]
theorem hw_same (g : Port → Port) {l : List Port} {i : Nat} {p : Port} (h : l[i]? = some p) (e : g p = p) : rowP (halfway g l i) = rowP (halfway g l (i + 1)) := by
  rw [← hw_set g h e.symm]
  apply List.ext_getElem?
  intro j
  rw [List.getElem?_set]
  split
  · rename_i e2
    subst e2
    have := hw_get g h
    simp only [Int.toNat_natCast] at this
    rw [this]
    have hi : i < (rowP (halfway g l i)).length := (List.getElem?_eq_some_iff.1 this).1
    rw [if_pos hi]
  · rfl
theorem hw_all (g : Port → Port) (l : List Port) : rowP (halfway g l l.length) = rowP (l.map g) := by rw [halfway_all]
theorem hw_zero (g : Port → Port) (l : List Port) : rowP l = rowP (halfway g l 0) := by rw [halfway_zero]
theorem rowP_len (l : List Port) : dI .i64 ((rowP l).length : Int) = dI .i64 (l.length : Int) := row_len Port.ds l
/-! tree.Designate -/
def ownV (t : Tree) (p : Port) : Vect := { telling t with port := p.id }
def desig1 (t : Tree) (p : Port) : Port :=
  bif designated p t.own then become p (ownV t p) else bif p.held.root != t.root then become p (ownV t p) else bif keeps (ownV t p) p.held then become p (ownV t p) else p
def designate (t : Tree) : Tree := { t with ports := t.ports.map (desig1 t) }
def desS (t : Tree) (i : Nat) : St :=
  ⟨hd 48 [(1, .ptr 0 0), (2, .ptr 1 0), (9, .own 2), (10, vI .i64 t.ports.length), (11, vI .i64 i)], [.box (tSV t (.own 2)), .box (tSV tree0 (.d .nil)), pRow (halfway (desig1 t) t.ports i)]⟩
abbrev desE : List Ed := [.keep [1, 2, 9, 10, 11], .re [0, 1, 2], .unlit]
def desQ (t : Tree) : St := ⟨hd 48 [(1, .ptr 0 0), (2, .ptr 1 0)], [.box (tSV t (.own 2)), .box (tSV tree0 (.d .nil)), pRow (t.ports.map (desig1 t))]⟩
theorem free_des : staticOk (opsAt PG 13 8) = true := by kernel_rfl
theorem des_step (t : Tree) (hl : t.ports.length ≤ 1000000) {i : Nat} (h : i < t.ports.length) {p : Port} (hp : t.ports[i]? = some p) :
    AL PG GL 0 (loopAt PG 13 0) (desS t i) .normal (desS t (i + 1)) := by
  have q1 := lt_t h
  have q3 := hw_lt (desig1 t) h
  have q4 := hw_get (desig1 t) hp
  have q5 := next_i h (by omega)
  have q6 := designated_ac p t.own
  have q7 := become_ac p (ownV t p)
  have q9 := hw_nat (desig1 t) h
  have q8 := telling_ac { t with ports := halfway (desig1 t) t.ports i }
  cases h1 : designated p t.own
  · cases h2 : p.held.root != t.root
    · cases h3 : keeps (ownV t p) p.held
      · exact al_of {path := [true, false, false, false], orc := [.elem p.ds, cal (sA (telling t).ds), cal (vB (designated p t.own)), cal (vB (keeps (ownV t p) p.held))], eds := desE, says := [.d (.t 11) (dI .i64 (i + 1 : Nat)), .row 2 (rowP (halfway (desig1 t) t.ports (i + 1)))]}
          (.cons q1 (.cons (nn i) (.cons q3 (.cons q4 (.cons q8 (.cons q6 (.cons h1 (.cons h2 (.cons (keeps_ac (ownV t p) p.held) (.cons h3 (.cons q5 (.cons (hw_same (desig1 t) hp (by simp [desig1, h1, h2, h3])) .nil)))))))))))) (by kernel_rfl)
      · exact al_of {path := [true, false, false, true], orc := [.elem p.ds, cal (sA (telling t).ds), cal (vB (designated p t.own)), cal (vB (keeps (ownV t p) p.held)), cal (sA (become p (ownV t p)).ds)], eds := desE, says := [.d (.t 11) (dI .i64 (i + 1 : Nat)), .row 2 (rowP (halfway (desig1 t) t.ports (i + 1)))]}
          (.cons q1 (.cons (nn i) (.cons q3 (.cons q4 (.cons q8 (.cons q6 (.cons h1 (.cons h2 (.cons (keeps_ac (ownV t p) p.held) (.cons h3 (.cons free_des <| .cons q7 (.cons (nn i) (.cons q3 (.cons q9 (.cons q5 (.cons (hw_set (desig1 t) (q := become p (ownV t p)) hp (by simp [desig1, h1, h2, h3])) .nil)))))))))))))))) (by kernel_rfl)
    · exact al_of {path := [true, false, true], orc := [.elem p.ds, cal (sA (telling t).ds), cal (vB (designated p t.own)), cal (sA (become p (ownV t p)).ds)], eds := desE, says := [.d (.t 11) (dI .i64 (i + 1 : Nat)), .row 2 (rowP (halfway (desig1 t) t.ports (i + 1)))]}
        (.cons q1 (.cons (nn i) (.cons q3 (.cons q4 (.cons q8 (.cons q6 (.cons h1 (.cons h2 (.cons free_des <| .cons q7 (.cons (nn i) (.cons q3 (.cons q9 (.cons q5 (.cons (hw_set (desig1 t) (q := become p (ownV t p)) hp (by simp [desig1, h1, h2])) .nil)))))))))))))) (by kernel_rfl)
  · exact al_of {path := [true, true], orc := [.elem p.ds, cal (sA (telling t).ds), cal (vB (designated p t.own)), cal (sA (become p (ownV t p)).ds)], eds := desE, says := [.d (.t 11) (dI .i64 (i + 1 : Nat)), .row 2 (rowP (halfway (desig1 t) t.ports (i + 1)))]}
      (.cons q1 (.cons (nn i) (.cons q3 (.cons q4 (.cons q8 (.cons q6 (.cons h1 (.cons free_des <| .cons q7 (.cons (nn i) (.cons q3 (.cons q9 (.cons q5 (.cons (hw_set (desig1 t) (q := become p (ownV t p)) hp (by simp [desig1, h1])) .nil))))))))))))) (by kernel_rfl)
theorem des_loop (t : Tree) (hl : t.ports.length ≤ 1000000) : AL PG GL 0 (.loop (loopAt PG 13 0)) (desS t 0) (.exit 0) (desQ t) := by
  refine al_loop (n := t.ports.length) (desS t) (by simp) (fun i hi => ?_) ?_
  · obtain ⟨p, hp⟩ := some_at (l := t.ports) (i := i) hi
    exact des_step t hl hi hp
  · exact al_of {path := [false], eds := [.keep [1, 2], .re [0, 1, 2], .unlit], says := [.row 2 (rowP (t.ports.map (desig1 t)))]} (.cons (lt_ff t.ports.length) (.cons (hw_all (desig1 t) t.ports) .nil)) (by kernel_rfl)
theorem designate_ac (t : Tree) (hl : t.ports.length ≤ 1000000) : CX 13 [.agg t.ds] (sA (designate t).ds) :=
  ac_of {orc := [.call [] [] (.agg (tSV t (.own 0))) [pRow t.ports]], ls := [⟨[.keep [1, 2, 9, 10, 11], .re [0, 1, 2], .unlit], [.d (.t 10) (dI .i64 t.ports.length), .row 2 (rowP (halfway (desig1 t) t.ports 0))], .exit 0, desQ t⟩], eds := [.at_ (.ta 0 18) .exp, .re [], .unlit]}
    (.cons (copy_ac t hl) (.cons (rowP_len t.ports) (.cons (hw_zero (desig1 t) t.ports) (.cons (des_loop t hl) .nil)))) (by kernel_rfl)
def update (t : Tree) : Tree := designate (select t)
theorem select_ports (t : Tree) : (select t).ports = t.ports := by
  unfold select
  cases decide (selRP t.own t.ports t.ports.length < 0) <;> rfl
theorem update_ac (t : Tree) (hl : t.ports.length ≤ 1000000) : CX 8 [.agg t.ds] (sA (update t).ds) :=
  ac_of {orc := [cal (sA (select t).ds), cal (sA (update t).ds)]} (.cons (select_ac t hl) (.cons (designate_ac (select t) (by rw [select_ports]; exact hl)) .nil)) (by kernel_rfl)
end Go.Proofs.Ytdffdnbkinpbiaa
