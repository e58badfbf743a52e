import Derived.Test.YtdffdnbkinpbiaaDoorPSend
set_option linter.unusedVariables false
set_option linter.unusedSimpArgs false
namespace Go.Proofs.YtdffdnbkinpbiaaDoor
open Go Go.RowKit Sx

/-! treelinelaw14.SendOnce -/
def soS1 (t u v : Tree) (l more : List Out) (i : Int) : St := ⟨hd 92 [(1, .ptr 0 0), (4, sO l), (5, .ptr 1 0), (6, sO more), (7, vI .i64 i)], [.box (t.ds.map .d), .box (v.ds.map .d)]⟩
def soQ (t u v : Tree) (l more : List Out) : St := ⟨hd 92 [(1, .ptr 0 0), (4, sO l), (5, .ptr 1 0), (6, sO more)], [.box (t.ds.map .d), .box (v.ds.map .d)]⟩
def soS2 (t u v : Tree) (l more : List Out) (i : Int) : St := ⟨hd 92 [(1, .ptr 0 0), (4, sO l), (5, .ptr 1 0), (6, sO more), (9, vI .i64 i)], [.box (t.ds.map .d), .box (v.ds.map .d)]⟩
def soA (t u v : Tree) (l more : List Out) : LO (Unit) (Unit) := .leave (())
theorem soA_al (t u v : Tree) (l more : List Out) (hc : decide ((0 : Int) < ((rowO more).length : Int)) = false) : AL PG GL 0 (loopAt PG 3 0) (soS1 t u v l more 0) (LO.ex (fun (x : Unit) => (Ex.exit 0, soQ t u v l more)) (soA t u v l more)) (LO.st (fun (x : Unit) => soS1 t u v l more 0) (fun (x : Unit) => (Ex.exit 0, soQ t u v l more)) (soA t u v l more)) := by
  unfold soA
  exact al_of {path := [false], orc := [], eds := [.keep [1, 4, 5, 6], .re [0, 1], .unlit]}
    (.cons hc <| .nil) (by kernel_rfl)
theorem free_soB_16 : staticOk (opsAt PG 3 16) = true := by kernel_rfl
def soB (t u v : Tree) (l more : List Out) (k : Nat) (o : Out) (p : Port) : LO (Unit) (Unit) := .next (())
theorem soB_al (t u v : Tree) (l more : List Out) (k : Nat) (o : Out) (ho : l[k]? = some o) (hk : k < l.length) (p : Port) (h0 : 0 ≤ o.port) (h1 : o.port < v.ports.length) (hp : v.ports[o.port.toNat]? = some p) (hc : decide ((k : Int) < ((rowO l).length : Int)) = true) (hpe : (!p.pending) = false) (hho : (!p.hold.on) = false) : AL PG GL 0 (loopAt PG 3 2) (soS2 t u v l more (↑k : Int)) (LO.ex (fun (x : Unit) => (Ex.exit 4, soQ t u v l more)) (soB t u v l more k o p)) (LO.st (fun (x : Unit) => soS2 t u v l more (IntKind.i64.wrap ((↑k : Int) + 1))) (fun (x : Unit) => (Ex.exit 4, soQ t u v l more)) (soB t u v l more k o p)) := by
  unfold soB
  exact al_of {path := [true, false, false], orc := [.elem o.ds, .elem p.ds, .elem o.ds, .elem p.ds], eds := [.keep [1, 4, 5, 6, 9], .re [0, 1], .unlit]}
    (.cons hc <| .cons free_soB_16 <| .cons (by omega : (0 : Int) ≤ (↑k : Int)) <| .cons (by simp [rowP, rowC, rowB, rowI, rowO]; omega : (↑k : Int) < (↑(rowO l).length : Int)) <| .cons (row_at Out.ds ho) <| .cons h0 <| .cons (by simp [rowP, rowC, rowB, rowI, rowO]; omega : o.port < (↑(rowP v.ports).length : Int)) <| .cons (row_at Port.ds hp) <| .cons hpe <| .cons (by omega : (0 : Int) ≤ (↑k : Int)) <| .cons (by simp [rowP, rowC, rowB, rowI, rowO]; omega : (↑k : Int) < (↑(rowO l).length : Int)) <| .cons (row_at Out.ds ho) <| .cons h0 <| .cons (by simp [rowP, rowC, rowB, rowI, rowO]; omega : o.port < (↑(rowP v.ports).length : Int)) <| .cons (row_at Port.ds hp) <| .cons hho <| .nil) (by kernel_rfl)
def soC (t u v : Tree) (l more : List Out) : LO (Unit) (Unit) := .leave (())
theorem soC_al (t u v : Tree) (l more : List Out) (hc : decide ((l.length : Int) < ((rowO l).length : Int)) = false) : AL PG GL 0 (loopAt PG 3 2) (soS2 t u v l more (↑l.length : Int)) (LO.ex (fun (x : Unit) => (Ex.exit 4, soQ t u v l more)) (soC t u v l more)) (LO.st (fun (x : Unit) => soS2 t u v l more 0) (fun (x : Unit) => (Ex.exit 4, soQ t u v l more)) (soC t u v l more)) := by
  unfold soC
  exact al_of {path := [false], orc := [], eds := [.keep [1, 4, 5, 6], .re [0, 1], .unlit]}
    (.cons hc <| .nil) (by kernel_rfl)
def sendOnceN (t : Tree) : Bool := true
theorem sendOnceN_pre (t : Tree) (hf : (!fit t) = true) : AC PG GL 3 [AD.agg t.ds] [] (vB (sendOnceN t)) [] := by
  unfold sendOnceN
  exact ac_of {path := [false, true], orc := [cal (vB awake14), cal (vB (fit t)), cal (vB awake14)]}
    (.cons awake14_ac <| .cons (by simp : (false) = false) <| .cons (fit_ac t) <| .cons hf <| .cons awake14_ac <| .nil) (by kernel_rfl)
theorem free_sendOnceY_18 : staticOk (opsAt PG 3 18) = true := by kernel_rfl
def sendOnceY (t : Tree) : Bool := bif (↑(rowO (sendAll (sendAll t).fst).snd).length : Int) == 0 then (telling (sendAll (sendAll t).fst).fst).root == (telling t).root && ((telling (sendAll (sendAll t).fst).fst).cost == (telling t).cost && ((telling (sendAll (sendAll t).fst).fst).bridge == (telling t).bridge && ((telling (sendAll (sendAll t).fst).fst).port == (telling t).port && true))) else false
theorem sendOnceY_pre (t : Tree) (hf : (!fit t) = false) (hl : t.ports.length ≤ 1000000) (hl2 : (sendAll t).1.ports.length ≤ 1000000) (hlp1 : AL PG GL 0 (.loop (loopAt PG 3 0)) (soS1 t (sendAll t).1 (sendAll (sendAll t).1).1 (sendAll t).2 (sendAll (sendAll t).1).2 0) (.exit 0) (soQ t (sendAll t).1 (sendAll (sendAll t).1).1 (sendAll t).2 (sendAll (sendAll t).1).2)) (hlp2 : AL PG GL 0 (.loop (loopAt PG 3 2)) (soS2 t (sendAll t).1 (sendAll (sendAll t).1).1 (sendAll t).2 (sendAll (sendAll t).1).2 0) (.exit 4) (soQ t (sendAll t).1 (sendAll (sendAll t).1).1 (sendAll t).2 (sendAll (sendAll t).1).2)) : AC PG GL 3 [AD.agg t.ds] [] (vB (sendOnceY t)) [] := by
  unfold sendOnceY
  cases hc2 : (↑(rowO (sendAll (sendAll t).fst).snd).length : Int) == 0
  · exact ac_of {path := [false, false, false], orc := [cal (vB awake14), cal (vB (fit t)), cal (SV.tup [sA (sendAll t).fst.ds, sO (sendAll t).snd]), cal (SV.tup [sA (sendAll (sendAll t).fst).fst.ds, sO (sendAll (sendAll t).fst).snd])], ls := [⟨[.keep [1, 4, 5, 6, 7], .re [0, 2], .unlit], [], Ex.exit 0, soQ t (sendAll t).fst (sendAll (sendAll t).fst).fst (sendAll t).snd (sendAll (sendAll t).fst).snd⟩, ⟨[.keep [1, 4, 5, 6, 9], .re [0, 1], .unlit], [], Ex.exit 4, soQ t (sendAll t).fst (sendAll (sendAll t).fst).fst (sendAll t).snd (sendAll (sendAll t).fst).snd⟩]}
      (.cons awake14_ac <| .cons (by simp : (false) = false) <| .cons (fit_ac t) <| .cons hf <| .cons (sendAll_ac t hl) <| .cons (sendAll_ac ((sendAll t).fst) hl2) <| .cons hlp1 <| .cons hlp2 <| .cons free_sendOnceY_18 <| .cons hc2 <| .nil) (by kernel_rfl)
  · exact ac_of {path := [false, false, true], orc := [cal (vB awake14), cal (vB (fit t)), cal (SV.tup [sA (sendAll t).fst.ds, sO (sendAll t).snd]), cal (SV.tup [sA (sendAll (sendAll t).fst).fst.ds, sO (sendAll (sendAll t).fst).snd]), cal (sA (telling (sendAll (sendAll t).fst).fst).ds), cal (sA (telling t).ds)], ls := [⟨[.keep [1, 4, 5, 6, 7], .re [0, 2], .unlit], [], Ex.exit 0, soQ t (sendAll t).fst (sendAll (sendAll t).fst).fst (sendAll t).snd (sendAll (sendAll t).fst).snd⟩, ⟨[.keep [1, 4, 5, 6, 9], .re [0, 1], .unlit], [], Ex.exit 4, soQ t (sendAll t).fst (sendAll (sendAll t).fst).fst (sendAll t).snd (sendAll (sendAll t).fst).snd⟩]}
      (.cons awake14_ac <| .cons (by simp : (false) = false) <| .cons (fit_ac t) <| .cons hf <| .cons (sendAll_ac t hl) <| .cons (sendAll_ac ((sendAll t).fst) hl2) <| .cons hlp1 <| .cons hlp2 <| .cons free_sendOnceY_18 <| .cons hc2 <| .cons (telling_ac ((sendAll (sendAll t).fst).fst)) <| .cons (telling_ac t) <| .nil) (by kernel_rfl)
theorem so_loop1 (t u v : Tree) (l : List Out) : AL PG GL 0 (.loop (loopAt PG 3 0)) (soS1 t u v l [] 0) (.exit 0) (soQ t u v l []) :=
  (ALE.stop (soA_al t u v l [] rfl) (by simp [soA, LO.ex])).al
def soStep (v : Tree) (k : Nat) (o : Out) (u : Unit) : LO Unit Unit := .next ()
theorem rng_unit {α : Type} (step : Nat → α → Unit → LO Unit Unit) : ∀ (xs : List α) (i : Nat) (u : Unit), rng step (fun _ => ()) xs i u = () := fun _ _ _ => rfl
theorem so_loop2 (t : Tree) (hl : (sendAll t).2.length ≤ 4611686018427387904) : AL PG GL 0 (.loop (loopAt PG 3 2)) (soS2 t (sendAll t).1 (sendAll (sendAll t).1).1 (sendAll t).2 [] 0) (.exit 4) (soQ t (sendAll t).1 (sendAll (sendAll t).1).1 (sendAll t).2 []) := by
  refine (ale_range (sendAll t).2 hl (fun k (_ : Unit) => soS2 t (sendAll t).1 (sendAll (sendAll t).1).1 (sendAll t).2 [] k) (fun _ : Unit => (.exit 4, soQ t (sendAll t).1 (sendAll (sendAll t).1).1 (sendAll t).2 [])) (soStep t) (fun _ => ()) (fun _ _ => True) (fun b => by simp) ?_ ?_ ?_ _ 0 () rfl (by omega) trivial).al
  · intro k o u ho _
    have hk := (List.getElem?_eq_some_iff.1 ho).1
    obtain ⟨p, h0, hp, h1, h2⟩ := sendAll_owes t o (List.mem_of_getElem? ho)
    have hlt := (List.getElem?_eq_some_iff.1 hp).1
    exact soB_al t (sendAll t).1 (sendAll (sendAll t).1).1 (sendAll t).2 [] k o ho hk p h0 (by omega) hp (by simp [rowO]; omega) (by simp [h1]) (by simp [h2])
  · intros
    trivial
  · intro u _
    exact soC_al t (sendAll t).1 (sendAll (sendAll t).1).1 (sendAll t).2 [] (by simp [rowO])
theorem outsOf_len (t : Tree) : ∀ (ps : List Port) (i : Nat), (outsOf t ps i).length ≤ ps.length
  | [], i => by simp [outsOf]
  | p :: ps, i => by
    have := outsOf_len t ps (i + 1)
    simp only [outsOf]
    cases tells t p <;> simp <;> omega
theorem sendAll_count (t : Tree) : (sendAll t).2.length ≤ t.ports.length := by
  rw [sendAll_eq]
  exact outsOf_len t t.ports 0
theorem sendAll_ports (t : Tree) : (sendAll t).1.ports.length = t.ports.length := by
  rw [sendAll_eq]
  simp
theorem sendOnce_ac (t : Tree) : CX 3 [.agg t.ds] (vB true) := by
  cases hf : fit t
  · exact sendOnceN_pre t (by simp [hf])
  · have hl := fit_few hf
    have hc := sendAll_count t
    have h := sendOnceY_pre t (by simp [hf]) (by omega) (by rw [sendAll_ports]; omega) (by rw [sendAll_twice]; exact so_loop1 t _ _ _) (by rw [sendAll_twice]; exact so_loop2 t (by omega))
    have e : sendOnceY t = true := by
      unfold sendOnceY
      rw [sendAll_twice, sendAll_telling, sendAll_telling]
      simp [rowO]
    rw [e] at h
    exact h
end Go.Proofs.YtdffdnbkinpbiaaDoor
