import Derived.Test.YtdffdnbkinpbiaaDoorPSend
import Derived.Test.YtdffdnbkinpbiaaDoorRef14
import Derived.Test.YtdffdnbkinpbiaaDoorRsame
import Derived.Test.YtdffdnbkinpbiaaDoorShp
import Derived.Test.YtdffdnbkinpbiaaDoorLOnceA
set_option linter.unusedVariables false
set_option linter.unusedSimpArgs false
namespace Go.Proofs.YtdffdnbkinpbiaaDoor
open Go Go.RowKit Sx

/-! treelinelaw14.SendDetects -/
theorem split_own {n : Int} (h : wfI .u64 n) : (split n).2 = n.tmod 281474976710656 := by
  have hh : (decide (0 ≤ n) && decide (n ≤ 18446744073709551615)) = true := h
  simp only [Bool.and_eq_true, decide_eq_true_eq] at hh
  obtain ⟨h0, h1⟩ := hh
  obtain ⟨m, rfl⟩ := Int.eq_ofNat_of_zero_le h0
  unfold split
  simp only [BitVec.toNat_and, BitVec.toNat_ofInt]
  have e1 : ((m : Int) % ((2 ^ 64 : Nat) : Int)).toNat = m := by omega
  have e2 : ((281474976710655 : Int) % ((2 ^ 64 : Nat) : Int)).toNat = 2 ^ 48 - 1 := by decide
  rw [e1, e2, Nat.and_two_pow_sub_one_eq_mod]
  have e3 : m % 2 ^ 48 < 2 ^ 48 := Nat.mod_lt _ (by decide)
  rw [wrap_u rfl (by omega) (by show ((m % 2 ^ 48 : Nat) : Int) < 18446744073709551616; omega)]
  rw [Int.tmod_eq_emod_of_nonneg (by omega)]
  omega
def tcnB : Bpdu := { tcn := true, change := false, ack := false, root := 0, cost := 0, bridge := 0, port := 0, age := 0, maxAge := 0, hello := 0, delay := 0 : Bpdu }
theorem rout_tcn (t : Tree) (h : wfI .u64 t.own) (i : Int) : rout t i tcnB = out14 t i tcnB := by
  unfold rout out14 wrap
  rw [split_own h]
  rfl
theorem rtcn_eq (t : Tree) (h : wfI .u64 t.own) : rtcn t = sendTcn t := by
  have e := rout_tcn t h t.rootPort
  unfold tcnB at e
  unfold rtcn sendTcn
  rw [e]
theorem rdetect_eq (t : Tree) (h : wfI .u64 t.own) : rdetect t = detect t := by
  unfold rdetect detect
  have e := rtcn_eq { own := t.own, root := t.root, cost := t.cost, rootPort := t.rootPort, now := t.now, mine := t.mine, detected := true, change := t.change, hello := t.hello, tcn := { on := true, val := 0 : Timer }, told := t.told, ports := t.ports : Tree } h
  rw [e]
  rfl
theorem sendTcn_len (t : Tree) : (sendTcn t).length ≤ 1 := by
  unfold sendTcn
  cases decide (t.rootPort < 0) <;> cases decide (t.rootPort ≥ (↑(rowP t.ports).length : Int)) <;> simp
theorem detect_len (t : Tree) : (detect t).2.length ≤ 1 := by
  unfold detect
  cases isRoot t <;> cases t.detected <;> simp [sendTcn_len]
theorem detect_ports (t : Tree) : (detect t).1.ports = t.ports := by
  unfold detect
  cases isRoot t <;> cases t.detected <;> simp
theorem samePorts_refl : ∀ l : List Port, samePorts l l = true
  | [] => rfl
  | p :: l => by
    have e : eqPort p p = true := by simp [eqPort, eqVect, eqTimer]
    simp [samePorts, e, samePorts_refl l]
theorem rsame_refl (t : Tree) : rsame t t = true := by
  simp [rsame, eqTimes, eqTimer, samePorts_refl]
def sendDetectsN (t : Tree) : Bool := true
theorem sendDetectsN_pre (t : Tree) (hf : (!fit t) = true) : AC PG GL 4 [AD.agg t.ds] [] (vB (sendDetectsN t)) [] := by
  unfold sendDetectsN
  exact ac_of {path := [false, true], orc := [cal (vB awake14), cal (vB (fit t)), cal (vB awake14)], eds := [.re [], .unlit]}
    (.cons awake14_ac <| .cons (by simp : (false) = false) <| .cons (fit_ac t) <| .cons hf <| .cons awake14_ac <| .nil) (by kernel_rfl)
theorem free_sendDetectsY_9 : staticOk (opsAt PG 4 9) = true := by kernel_rfl
def sendDetectsY (t : Tree) : Bool := true
theorem sendDetectsY_pre (t : Tree) (hf : (!fit t) = false) (hd : AC PG GL 20 [.agg t.ds] [] (.tup [sA (detect t).fst.ds, sO (detect t).snd]) []) (ht : AC PG GL 25 [.agg t.ds] [] (sO (sendTcn t)) []) (hs1 : AC PG GL 22 [.agg (detect t).fst.ds, .agg (detect t).fst.ds] [] (vB true) []) (hs2 : AC PG GL 22 [.agg (acked t).ds, .agg (acked t).ds] [] (vB true) []) (ho1 : AC PG GL 23 [.one (.row (rowO (detect t).snd)), .one (.row (rowO (detect t).snd))] [] (vB true) []) (ho2 : AC PG GL 23 [.one (.row (rowO (sendTcn t))), .one (.row (rowO (sendTcn t)))] [] (vB true) []) : AC PG GL 4 [AD.agg t.ds] [] (vB (sendDetectsY t)) [] := by
  unfold sendDetectsY
  exact ac_of {path := [false, false, true, true, true], orc := [cal (vB awake14), cal (vB (fit t)), cal (SV.tup [sA (detect t).fst.ds, sO (detect t).snd]), cal (SV.tup [sA (detect t).fst.ds, sO (detect t).snd]), cal (sA (acked t).ds), cal (vB true), cal (vB true), cal (vB true), cal (sO (sendTcn t)), cal (sO (sendTcn t)), cal (vB true)], eds := [.re [], .unlit]}
    (.cons awake14_ac <| .cons (by simp : (false) = false) <| .cons (fit_ac t) <| .cons hf <| .cons (detect_ac t) <| .cons hd <| .cons (acked_ac t) <| .cons free_sendDetectsY_9 <| .cons hs1 <| .cons (by simp : (true) = true) <| .cons ho1 <| .cons (by simp : (true) = true) <| .cons hs2 <| .cons (by simp : (true) = true) <| .cons (sendTcn_ac t) <| .cons ht <| .cons ho2 <| .nil) (by kernel_rfl)
theorem sendDetects_ac (t : Tree) (h : t.ok) : CX 4 [.agg t.ds] (vB true) := by
  cases hf : fit t
  · exact sendDetectsN_pre t (by simp [hf])
  · have hl := fit_few hf
    have hd := rdetect_ac t
    have ht := rtcn_ac t
    rw [rdetect_eq t h.1] at hd
    rw [rtcn_eq t h.1] at ht
    have h1 := detect_len t
    have h2 := sendTcn_len t
    have s1 := rsame_ac (detect t).fst (detect t).fst (by rw [detect_ports]; omega)
    have s2 := rsame_ac (acked t) (acked t) (by show t.ports.length ≤ _; omega)
    rw [rsame_refl] at s1 s2
    exact sendDetectsY_pre t (by simp [hf]) hd ht s1 s2 (osame_ac _ (by omega)) (osame_ac _ (by omega))
theorem sendDetects_all (xs : List (List D)) (h : ShpAll PG 8 Tryd.f4.params.toList xs) : AC PG GL 4 (adAll PG Tryd.f4.params.toList xs) [] (vB true) [] :=
  one_tree (by rw [Tryd.params4]) (fun t ht => sendDetects_ac t ht) xs h
end Go.Proofs.YtdffdnbkinpbiaaDoor
