import Derived.Test.YtdffdnbkinpbiaaFit
import Derived.Test.YtdffdnbkinpbiaaTsame
import Derived.Test.YtdffdnbkinpbiaaRsame
import Derived.Test.YtdffdnbkinpbiaaShp
import Derived.Test.YtdffdnbkinpbiaaOne
set_option linter.unusedVariables false
set_option linter.unusedSimpArgs false
namespace Go.Proofs.Ytdffdnbkinpbiaa
open Go Go.RowKit Sx

/-! treelinelaw13.awake -/
def awake13  : Bool := true
theorem awake13_ac  : AC PG GL 5 [] [] (vB (awake13)) [] := by
  unfold awake13
  exact ac_of {path := [true, true, true, true], orc := [cal (sA (treeNew { addr := 7, prio := 0, maxAge := 20, hello := 2, delay := 15, ageing := 300, table := 0, ports := [{ prio := 0, cost := 19, on := true : PConf }] : Conf }).ds), cal (vB (isRoot { own := 7, root := 7, cost := 0, rootPort := -1, now := { maxAge := 5120, hello := 512, delay := 3840 : Times }, mine := { maxAge := 5120, hello := 512, delay := 3840 : Times }, detected := false, change := false, hello := { on := false, val := 0 : Timer }, tcn := { on := false, val := 0 : Timer }, told := { on := false, val := 0 : Timer }, ports := (treeNew { addr := 7, prio := 0, maxAge := 20, hello := 2, delay := 15, ageing := 300, table := 0, ports := [{ prio := 0, cost := 19, on := true : PConf }] : Conf }).ports : Tree })), .elem [D.v (Value.int IntKind.u16 1), D.v (Value.int IntKind.i64 1), D.v (Value.int IntKind.u32 19), D.v (Value.int IntKind.u64 7), D.v (Value.int IntKind.u32 0), D.v (Value.int IntKind.u64 7), D.v (Value.int IntKind.u16 1), D.v (Value.bool false), D.v (Value.bool false), D.v (Value.bool false), D.v (Value.int IntKind.i64 0), D.v (Value.bool false), D.v (Value.int IntKind.i64 0), D.v (Value.bool false), D.v (Value.int IntKind.i64 0)], .elem [D.v (Value.int IntKind.u16 1), D.v (Value.int IntKind.i64 1), D.v (Value.int IntKind.u32 19), D.v (Value.int IntKind.u64 7), D.v (Value.int IntKind.u32 0), D.v (Value.int IntKind.u64 7), D.v (Value.int IntKind.u16 1), D.v (Value.bool false), D.v (Value.bool false), D.v (Value.bool false), D.v (Value.int IntKind.i64 0), D.v (Value.bool false), D.v (Value.int IntKind.i64 0), D.v (Value.bool false), D.v (Value.int IntKind.i64 0)]], eds := [.re [], .unlit]}
    (.cons (treeNew_ac { addr := 7, prio := 0, maxAge := 20, hello := 2, delay := 15, ageing := 300, table := 0, ports := [{ prio := 0, cost := 19, on := true : PConf }] : Conf } (by simp)) <| .cons (isRoot_ac { own := 7, root := 7, cost := 0, rootPort := -1, now := { maxAge := 5120, hello := 512, delay := 3840 : Times }, mine := { maxAge := 5120, hello := 512, delay := 3840 : Times }, detected := false, change := false, hello := { on := false, val := 0 : Timer }, tcn := { on := false, val := 0 : Timer }, told := { on := false, val := 0 : Timer }, ports := (treeNew { addr := 7, prio := 0, maxAge := 20, hello := 2, delay := 15, ageing := 300, table := 0, ports := [{ prio := 0, cost := 19, on := true : PConf }] : Conf }).ports : Tree }) <| .cons (by simp : (true) = true) <| .cons (by simp : (true) = true) <| .cons (by omega : (0 : Int) ≤ (0 : Int)) <| .cons (by omega : (0 : Int) < (1 : Int)) <| .cons (by kernel_rfl : (rowP (treeNew { addr := 7, prio := 0, maxAge := 20, hello := 2, delay := 15, ageing := 300, table := 0, ports := [{ prio := 0, cost := 19, on := true : PConf }] : Conf }).ports)[(0 : Nat)]? = some [D.v (Value.int IntKind.u16 1), D.v (Value.int IntKind.i64 1), D.v (Value.int IntKind.u32 19), D.v (Value.int IntKind.u64 7), D.v (Value.int IntKind.u32 0), D.v (Value.int IntKind.u64 7), D.v (Value.int IntKind.u16 1), D.v (Value.bool false), D.v (Value.bool false), D.v (Value.bool false), D.v (Value.int IntKind.i64 0), D.v (Value.bool false), D.v (Value.int IntKind.i64 0), D.v (Value.bool false), D.v (Value.int IntKind.i64 0)]) <| .cons (by simp : (true) = true) <| .cons (by omega : (0 : Int) ≤ (0 : Int)) <| .cons (by omega : (0 : Int) < (1 : Int)) <| .cons (by kernel_rfl : (rowP (treeNew { addr := 7, prio := 0, maxAge := 20, hello := 2, delay := 15, ageing := 300, table := 0, ports := [{ prio := 0, cost := 19, on := true : PConf }] : Conf }).ports)[(0 : Nat)]? = some [D.v (Value.int IntKind.u16 1), D.v (Value.int IntKind.i64 1), D.v (Value.int IntKind.u32 19), D.v (Value.int IntKind.u64 7), D.v (Value.int IntKind.u32 0), D.v (Value.int IntKind.u64 7), D.v (Value.int IntKind.u16 1), D.v (Value.bool false), D.v (Value.bool false), D.v (Value.bool false), D.v (Value.int IntKind.i64 0), D.v (Value.bool false), D.v (Value.int IntKind.i64 0), D.v (Value.bool false), D.v (Value.int IntKind.i64 0)]) <| .cons (by simp : (true) = true) <| .nil) (by kernel_rfl)
/-! treelinelaw13.TreeBlocks -/
def tbS (t s : Tree) (i : Int) : St := ⟨hd 107 [(1, .ptr 0 0), (3, .ptr 1 0), (5, vI .i64 i)], [.box (t.ds.map .d), .box (s.ds.map .d)]⟩
abbrev tbE (s : Tree) : Sum Unit Bool → Sx.Ex × St := fun x => Sum.casesOn x (fun _ => (.exit 0, ⟨hd 107 [(3, .ptr 0 0)], [.box (s.ds.map .d)]⟩)) (fun b => (.ret, ⟨hd 107 [(2, vB b)], []⟩))
theorem free_tbR_13 : staticOk (opsAt PG 3 13) = true := by kernel_rfl
def tbR (t s : Tree) (i : Nat) (p q : Port) : LO (Unit) (Unit ⊕ Bool) := bif (↑i : Int) == s.rootPort then (bif decide (p.state < 0) then .leave (Sum.inr (true)) else (bif decide (p.state > 4) then .leave (Sum.inr (true)) else (bif q.state != 0 then (bif (q.state == 1) == true then .leave (Sum.inr (false)) else (bif !(q.state == 0) == (p.state == 0) then .leave (Sum.inr (false)) else .next (()))) else (bif !(q.state == 0) == (p.state == 0) then .leave (Sum.inr (false)) else .next (()))))) else (bif decide (p.state < 0) then .leave (Sum.inr (true)) else (bif decide (p.state > 4) then .leave (Sum.inr (true)) else (bif q.state != 0 then (bif (q.state == 1) == designated q s.own then .leave (Sum.inr (false)) else (bif !(q.state == 0) == (p.state == 0) then .leave (Sum.inr (false)) else (bif !designated q s.own then (bif q.pending then .leave (Sum.inr (false)) else (bif q.ack then .leave (Sum.inr (false)) else .next (()))) else .next (())))) else (bif !(q.state == 0) == (p.state == 0) then .leave (Sum.inr (false)) else (bif !designated q s.own then (bif q.pending then .leave (Sum.inr (false)) else (bif q.ack then .leave (Sum.inr (false)) else .next (()))) else .next (()))))))
theorem tbR_al (t s : Tree) (i : Nat) (p q : Port) (hp : t.ports[i]? = some p) (hi : i < t.ports.length) (hq : s.ports[i]? = some q) (hj : i < s.ports.length) (hc : decide ((i : Int) < ((rowP s.ports).length : Int)) = true) : AL PG GL 0 (loopAt PG 3 0) (tbS t s (↑i : Int)) (LO.ex (tbE s) (tbR t s i p q)) (LO.st (fun (x : Unit) => tbS t s (IntKind.i64.wrap ((↑i : Int) + 1))) (tbE s) (tbR t s i p q)) := by
  unfold tbR
  cases hc1 : (↑i : Int) == s.rootPort
  · cases hc2 : decide (p.state < 0)
    · cases hc3 : decide (p.state > 4)
      · cases hc4 : q.state != 0
        · cases hc5 : !(q.state == 0) == (p.state == 0)
          · cases hc6 : !designated q s.own
            · exact al_of {path := [true, false, false, false, false, false, false], orc := [.elem q.ds, cal (vB (designated q s.own)), .elem p.ds, .elem p.ds, .elem p.ds], eds := [.keep [1, 3, 5], .re [0, 1], .unlit]}
                (.cons hc <| .cons (by omega : (0 : Int) ≤ (↑i : Int)) <| .cons (by simp [rowP, rowC, rowB, rowI, rowO]; omega : (↑i : Int) < (↑(rowP s.ports).length : Int)) <| .cons (row_at Port.ds hq) <| .cons hc1 <| .cons (designated_ac q s.own) <| .cons (by omega : (0 : Int) ≤ (↑i : Int)) <| .cons (by simp [rowP, rowC, rowB, rowI, rowO]; omega : (↑i : Int) < (↑(rowP t.ports).length : Int)) <| .cons (row_at Port.ds hp) <| .cons hc2 <| .cons (by omega : (0 : Int) ≤ (↑i : Int)) <| .cons (by simp [rowP, rowC, rowB, rowI, rowO]; omega : (↑i : Int) < (↑(rowP t.ports).length : Int)) <| .cons (row_at Port.ds hp) <| .cons hc3 <| .cons hc4 <| .cons free_tbR_13 <| .cons (by omega : (0 : Int) ≤ (↑i : Int)) <| .cons (by simp [rowP, rowC, rowB, rowI, rowO]; omega : (↑i : Int) < (↑(rowP t.ports).length : Int)) <| .cons (row_at Port.ds hp) <| .cons hc5 <| .cons hc6 <| .nil) (by kernel_rfl)
            · cases hc7 : q.pending
              · cases hc8 : q.ack
                · exact al_of {path := [true, false, false, false, false, false, true, false, false], orc := [.elem q.ds, cal (vB (designated q s.own)), .elem p.ds, .elem p.ds, .elem p.ds], eds := [.keep [1, 3, 5], .re [0, 1], .unlit]}
                    (.cons hc <| .cons (by omega : (0 : Int) ≤ (↑i : Int)) <| .cons (by simp [rowP, rowC, rowB, rowI, rowO]; omega : (↑i : Int) < (↑(rowP s.ports).length : Int)) <| .cons (row_at Port.ds hq) <| .cons hc1 <| .cons (designated_ac q s.own) <| .cons (by omega : (0 : Int) ≤ (↑i : Int)) <| .cons (by simp [rowP, rowC, rowB, rowI, rowO]; omega : (↑i : Int) < (↑(rowP t.ports).length : Int)) <| .cons (row_at Port.ds hp) <| .cons hc2 <| .cons (by omega : (0 : Int) ≤ (↑i : Int)) <| .cons (by simp [rowP, rowC, rowB, rowI, rowO]; omega : (↑i : Int) < (↑(rowP t.ports).length : Int)) <| .cons (row_at Port.ds hp) <| .cons hc3 <| .cons hc4 <| .cons free_tbR_13 <| .cons (by omega : (0 : Int) ≤ (↑i : Int)) <| .cons (by simp [rowP, rowC, rowB, rowI, rowO]; omega : (↑i : Int) < (↑(rowP t.ports).length : Int)) <| .cons (row_at Port.ds hp) <| .cons hc5 <| .cons hc6 <| .cons hc7 <| .cons hc8 <| .nil) (by kernel_rfl)
                · exact al_of {path := [true, false, false, false, false, false, true, false, true], orc := [.elem q.ds, cal (vB (designated q s.own)), .elem p.ds, .elem p.ds, .elem p.ds], eds := [.keep [2], .re [], .unlit]}
                    (.cons hc <| .cons (by omega : (0 : Int) ≤ (↑i : Int)) <| .cons (by simp [rowP, rowC, rowB, rowI, rowO]; omega : (↑i : Int) < (↑(rowP s.ports).length : Int)) <| .cons (row_at Port.ds hq) <| .cons hc1 <| .cons (designated_ac q s.own) <| .cons (by omega : (0 : Int) ≤ (↑i : Int)) <| .cons (by simp [rowP, rowC, rowB, rowI, rowO]; omega : (↑i : Int) < (↑(rowP t.ports).length : Int)) <| .cons (row_at Port.ds hp) <| .cons hc2 <| .cons (by omega : (0 : Int) ≤ (↑i : Int)) <| .cons (by simp [rowP, rowC, rowB, rowI, rowO]; omega : (↑i : Int) < (↑(rowP t.ports).length : Int)) <| .cons (row_at Port.ds hp) <| .cons hc3 <| .cons hc4 <| .cons free_tbR_13 <| .cons (by omega : (0 : Int) ≤ (↑i : Int)) <| .cons (by simp [rowP, rowC, rowB, rowI, rowO]; omega : (↑i : Int) < (↑(rowP t.ports).length : Int)) <| .cons (row_at Port.ds hp) <| .cons hc5 <| .cons hc6 <| .cons hc7 <| .cons hc8 <| .nil) (by kernel_rfl)
              · exact al_of {path := [true, false, false, false, false, false, true, true], orc := [.elem q.ds, cal (vB (designated q s.own)), .elem p.ds, .elem p.ds, .elem p.ds], eds := [.keep [2], .re [], .unlit]}
                  (.cons hc <| .cons (by omega : (0 : Int) ≤ (↑i : Int)) <| .cons (by simp [rowP, rowC, rowB, rowI, rowO]; omega : (↑i : Int) < (↑(rowP s.ports).length : Int)) <| .cons (row_at Port.ds hq) <| .cons hc1 <| .cons (designated_ac q s.own) <| .cons (by omega : (0 : Int) ≤ (↑i : Int)) <| .cons (by simp [rowP, rowC, rowB, rowI, rowO]; omega : (↑i : Int) < (↑(rowP t.ports).length : Int)) <| .cons (row_at Port.ds hp) <| .cons hc2 <| .cons (by omega : (0 : Int) ≤ (↑i : Int)) <| .cons (by simp [rowP, rowC, rowB, rowI, rowO]; omega : (↑i : Int) < (↑(rowP t.ports).length : Int)) <| .cons (row_at Port.ds hp) <| .cons hc3 <| .cons hc4 <| .cons free_tbR_13 <| .cons (by omega : (0 : Int) ≤ (↑i : Int)) <| .cons (by simp [rowP, rowC, rowB, rowI, rowO]; omega : (↑i : Int) < (↑(rowP t.ports).length : Int)) <| .cons (row_at Port.ds hp) <| .cons hc5 <| .cons hc6 <| .cons hc7 <| .nil) (by kernel_rfl)
          · exact al_of {path := [true, false, false, false, false, true], orc := [.elem q.ds, cal (vB (designated q s.own)), .elem p.ds, .elem p.ds, .elem p.ds], eds := [.keep [2], .re [], .unlit]}
              (.cons hc <| .cons (by omega : (0 : Int) ≤ (↑i : Int)) <| .cons (by simp [rowP, rowC, rowB, rowI, rowO]; omega : (↑i : Int) < (↑(rowP s.ports).length : Int)) <| .cons (row_at Port.ds hq) <| .cons hc1 <| .cons (designated_ac q s.own) <| .cons (by omega : (0 : Int) ≤ (↑i : Int)) <| .cons (by simp [rowP, rowC, rowB, rowI, rowO]; omega : (↑i : Int) < (↑(rowP t.ports).length : Int)) <| .cons (row_at Port.ds hp) <| .cons hc2 <| .cons (by omega : (0 : Int) ≤ (↑i : Int)) <| .cons (by simp [rowP, rowC, rowB, rowI, rowO]; omega : (↑i : Int) < (↑(rowP t.ports).length : Int)) <| .cons (row_at Port.ds hp) <| .cons hc3 <| .cons hc4 <| .cons free_tbR_13 <| .cons (by omega : (0 : Int) ≤ (↑i : Int)) <| .cons (by simp [rowP, rowC, rowB, rowI, rowO]; omega : (↑i : Int) < (↑(rowP t.ports).length : Int)) <| .cons (row_at Port.ds hp) <| .cons hc5 <| .nil) (by kernel_rfl)
        · cases hc5 : (q.state == 1) == designated q s.own
          · cases hc6 : !(q.state == 0) == (p.state == 0)
            · cases hc7 : !designated q s.own
              · exact al_of {path := [true, false, false, false, true, false, false, false], orc := [.elem q.ds, cal (vB (designated q s.own)), .elem p.ds, .elem p.ds, .elem p.ds], eds := [.keep [1, 3, 5], .re [0, 1], .unlit]}
                  (.cons hc <| .cons (by omega : (0 : Int) ≤ (↑i : Int)) <| .cons (by simp [rowP, rowC, rowB, rowI, rowO]; omega : (↑i : Int) < (↑(rowP s.ports).length : Int)) <| .cons (row_at Port.ds hq) <| .cons hc1 <| .cons (designated_ac q s.own) <| .cons (by omega : (0 : Int) ≤ (↑i : Int)) <| .cons (by simp [rowP, rowC, rowB, rowI, rowO]; omega : (↑i : Int) < (↑(rowP t.ports).length : Int)) <| .cons (row_at Port.ds hp) <| .cons hc2 <| .cons (by omega : (0 : Int) ≤ (↑i : Int)) <| .cons (by simp [rowP, rowC, rowB, rowI, rowO]; omega : (↑i : Int) < (↑(rowP t.ports).length : Int)) <| .cons (row_at Port.ds hp) <| .cons hc3 <| .cons hc4 <| .cons hc5 <| .cons free_tbR_13 <| .cons (by omega : (0 : Int) ≤ (↑i : Int)) <| .cons (by simp [rowP, rowC, rowB, rowI, rowO]; omega : (↑i : Int) < (↑(rowP t.ports).length : Int)) <| .cons (row_at Port.ds hp) <| .cons hc6 <| .cons hc7 <| .nil) (by kernel_rfl)
              · cases hc8 : q.pending
                · cases hc9 : q.ack
                  · exact al_of {path := [true, false, false, false, true, false, false, true, false, false], orc := [.elem q.ds, cal (vB (designated q s.own)), .elem p.ds, .elem p.ds, .elem p.ds], eds := [.keep [1, 3, 5], .re [0, 1], .unlit]}
                      (.cons hc <| .cons (by omega : (0 : Int) ≤ (↑i : Int)) <| .cons (by simp [rowP, rowC, rowB, rowI, rowO]; omega : (↑i : Int) < (↑(rowP s.ports).length : Int)) <| .cons (row_at Port.ds hq) <| .cons hc1 <| .cons (designated_ac q s.own) <| .cons (by omega : (0 : Int) ≤ (↑i : Int)) <| .cons (by simp [rowP, rowC, rowB, rowI, rowO]; omega : (↑i : Int) < (↑(rowP t.ports).length : Int)) <| .cons (row_at Port.ds hp) <| .cons hc2 <| .cons (by omega : (0 : Int) ≤ (↑i : Int)) <| .cons (by simp [rowP, rowC, rowB, rowI, rowO]; omega : (↑i : Int) < (↑(rowP t.ports).length : Int)) <| .cons (row_at Port.ds hp) <| .cons hc3 <| .cons hc4 <| .cons hc5 <| .cons free_tbR_13 <| .cons (by omega : (0 : Int) ≤ (↑i : Int)) <| .cons (by simp [rowP, rowC, rowB, rowI, rowO]; omega : (↑i : Int) < (↑(rowP t.ports).length : Int)) <| .cons (row_at Port.ds hp) <| .cons hc6 <| .cons hc7 <| .cons hc8 <| .cons hc9 <| .nil) (by kernel_rfl)
                  · exact al_of {path := [true, false, false, false, true, false, false, true, false, true], orc := [.elem q.ds, cal (vB (designated q s.own)), .elem p.ds, .elem p.ds, .elem p.ds], eds := [.keep [2], .re [], .unlit]}
                      (.cons hc <| .cons (by omega : (0 : Int) ≤ (↑i : Int)) <| .cons (by simp [rowP, rowC, rowB, rowI, rowO]; omega : (↑i : Int) < (↑(rowP s.ports).length : Int)) <| .cons (row_at Port.ds hq) <| .cons hc1 <| .cons (designated_ac q s.own) <| .cons (by omega : (0 : Int) ≤ (↑i : Int)) <| .cons (by simp [rowP, rowC, rowB, rowI, rowO]; omega : (↑i : Int) < (↑(rowP t.ports).length : Int)) <| .cons (row_at Port.ds hp) <| .cons hc2 <| .cons (by omega : (0 : Int) ≤ (↑i : Int)) <| .cons (by simp [rowP, rowC, rowB, rowI, rowO]; omega : (↑i : Int) < (↑(rowP t.ports).length : Int)) <| .cons (row_at Port.ds hp) <| .cons hc3 <| .cons hc4 <| .cons hc5 <| .cons free_tbR_13 <| .cons (by omega : (0 : Int) ≤ (↑i : Int)) <| .cons (by simp [rowP, rowC, rowB, rowI, rowO]; omega : (↑i : Int) < (↑(rowP t.ports).length : Int)) <| .cons (row_at Port.ds hp) <| .cons hc6 <| .cons hc7 <| .cons hc8 <| .cons hc9 <| .nil) (by kernel_rfl)
                · exact al_of {path := [true, false, false, false, true, false, false, true, true], orc := [.elem q.ds, cal (vB (designated q s.own)), .elem p.ds, .elem p.ds, .elem p.ds], eds := [.keep [2], .re [], .unlit]}
                    (.cons hc <| .cons (by omega : (0 : Int) ≤ (↑i : Int)) <| .cons (by simp [rowP, rowC, rowB, rowI, rowO]; omega : (↑i : Int) < (↑(rowP s.ports).length : Int)) <| .cons (row_at Port.ds hq) <| .cons hc1 <| .cons (designated_ac q s.own) <| .cons (by omega : (0 : Int) ≤ (↑i : Int)) <| .cons (by simp [rowP, rowC, rowB, rowI, rowO]; omega : (↑i : Int) < (↑(rowP t.ports).length : Int)) <| .cons (row_at Port.ds hp) <| .cons hc2 <| .cons (by omega : (0 : Int) ≤ (↑i : Int)) <| .cons (by simp [rowP, rowC, rowB, rowI, rowO]; omega : (↑i : Int) < (↑(rowP t.ports).length : Int)) <| .cons (row_at Port.ds hp) <| .cons hc3 <| .cons hc4 <| .cons hc5 <| .cons free_tbR_13 <| .cons (by omega : (0 : Int) ≤ (↑i : Int)) <| .cons (by simp [rowP, rowC, rowB, rowI, rowO]; omega : (↑i : Int) < (↑(rowP t.ports).length : Int)) <| .cons (row_at Port.ds hp) <| .cons hc6 <| .cons hc7 <| .cons hc8 <| .nil) (by kernel_rfl)
            · exact al_of {path := [true, false, false, false, true, false, true], orc := [.elem q.ds, cal (vB (designated q s.own)), .elem p.ds, .elem p.ds, .elem p.ds], eds := [.keep [2], .re [], .unlit]}
                (.cons hc <| .cons (by omega : (0 : Int) ≤ (↑i : Int)) <| .cons (by simp [rowP, rowC, rowB, rowI, rowO]; omega : (↑i : Int) < (↑(rowP s.ports).length : Int)) <| .cons (row_at Port.ds hq) <| .cons hc1 <| .cons (designated_ac q s.own) <| .cons (by omega : (0 : Int) ≤ (↑i : Int)) <| .cons (by simp [rowP, rowC, rowB, rowI, rowO]; omega : (↑i : Int) < (↑(rowP t.ports).length : Int)) <| .cons (row_at Port.ds hp) <| .cons hc2 <| .cons (by omega : (0 : Int) ≤ (↑i : Int)) <| .cons (by simp [rowP, rowC, rowB, rowI, rowO]; omega : (↑i : Int) < (↑(rowP t.ports).length : Int)) <| .cons (row_at Port.ds hp) <| .cons hc3 <| .cons hc4 <| .cons hc5 <| .cons free_tbR_13 <| .cons (by omega : (0 : Int) ≤ (↑i : Int)) <| .cons (by simp [rowP, rowC, rowB, rowI, rowO]; omega : (↑i : Int) < (↑(rowP t.ports).length : Int)) <| .cons (row_at Port.ds hp) <| .cons hc6 <| .nil) (by kernel_rfl)
          · exact al_of {path := [true, false, false, false, true, true], orc := [.elem q.ds, cal (vB (designated q s.own)), .elem p.ds, .elem p.ds], eds := [.keep [2], .re [], .unlit]}
              (.cons hc <| .cons (by omega : (0 : Int) ≤ (↑i : Int)) <| .cons (by simp [rowP, rowC, rowB, rowI, rowO]; omega : (↑i : Int) < (↑(rowP s.ports).length : Int)) <| .cons (row_at Port.ds hq) <| .cons hc1 <| .cons (designated_ac q s.own) <| .cons (by omega : (0 : Int) ≤ (↑i : Int)) <| .cons (by simp [rowP, rowC, rowB, rowI, rowO]; omega : (↑i : Int) < (↑(rowP t.ports).length : Int)) <| .cons (row_at Port.ds hp) <| .cons hc2 <| .cons (by omega : (0 : Int) ≤ (↑i : Int)) <| .cons (by simp [rowP, rowC, rowB, rowI, rowO]; omega : (↑i : Int) < (↑(rowP t.ports).length : Int)) <| .cons (row_at Port.ds hp) <| .cons hc3 <| .cons hc4 <| .cons hc5 <| .nil) (by kernel_rfl)
      · exact al_of {path := [true, false, false, true], orc := [.elem q.ds, cal (vB (designated q s.own)), .elem p.ds, .elem p.ds], eds := [.keep [2], .re [], .unlit]}
          (.cons hc <| .cons (by omega : (0 : Int) ≤ (↑i : Int)) <| .cons (by simp [rowP, rowC, rowB, rowI, rowO]; omega : (↑i : Int) < (↑(rowP s.ports).length : Int)) <| .cons (row_at Port.ds hq) <| .cons hc1 <| .cons (designated_ac q s.own) <| .cons (by omega : (0 : Int) ≤ (↑i : Int)) <| .cons (by simp [rowP, rowC, rowB, rowI, rowO]; omega : (↑i : Int) < (↑(rowP t.ports).length : Int)) <| .cons (row_at Port.ds hp) <| .cons hc2 <| .cons (by omega : (0 : Int) ≤ (↑i : Int)) <| .cons (by simp [rowP, rowC, rowB, rowI, rowO]; omega : (↑i : Int) < (↑(rowP t.ports).length : Int)) <| .cons (row_at Port.ds hp) <| .cons hc3 <| .nil) (by kernel_rfl)
    · exact al_of {path := [true, false, true], orc := [.elem q.ds, cal (vB (designated q s.own)), .elem p.ds], eds := [.keep [2], .re [], .unlit]}
        (.cons hc <| .cons (by omega : (0 : Int) ≤ (↑i : Int)) <| .cons (by simp [rowP, rowC, rowB, rowI, rowO]; omega : (↑i : Int) < (↑(rowP s.ports).length : Int)) <| .cons (row_at Port.ds hq) <| .cons hc1 <| .cons (designated_ac q s.own) <| .cons (by omega : (0 : Int) ≤ (↑i : Int)) <| .cons (by simp [rowP, rowC, rowB, rowI, rowO]; omega : (↑i : Int) < (↑(rowP t.ports).length : Int)) <| .cons (row_at Port.ds hp) <| .cons hc2 <| .nil) (by kernel_rfl)
  · cases hc2 : decide (p.state < 0)
    · cases hc3 : decide (p.state > 4)
      · cases hc4 : q.state != 0
        · cases hc5 : !(q.state == 0) == (p.state == 0)
          · exact al_of {path := [true, true, false, false, false, false], orc := [.elem q.ds, .elem p.ds, .elem p.ds, .elem p.ds], eds := [.keep [1, 3, 5], .re [0, 1], .unlit]}
              (.cons hc <| .cons (by omega : (0 : Int) ≤ (↑i : Int)) <| .cons (by simp [rowP, rowC, rowB, rowI, rowO]; omega : (↑i : Int) < (↑(rowP s.ports).length : Int)) <| .cons (row_at Port.ds hq) <| .cons hc1 <| .cons (by omega : (0 : Int) ≤ (↑i : Int)) <| .cons (by simp [rowP, rowC, rowB, rowI, rowO]; omega : (↑i : Int) < (↑(rowP t.ports).length : Int)) <| .cons (row_at Port.ds hp) <| .cons hc2 <| .cons (by omega : (0 : Int) ≤ (↑i : Int)) <| .cons (by simp [rowP, rowC, rowB, rowI, rowO]; omega : (↑i : Int) < (↑(rowP t.ports).length : Int)) <| .cons (row_at Port.ds hp) <| .cons hc3 <| .cons hc4 <| .cons free_tbR_13 <| .cons (by omega : (0 : Int) ≤ (↑i : Int)) <| .cons (by simp [rowP, rowC, rowB, rowI, rowO]; omega : (↑i : Int) < (↑(rowP t.ports).length : Int)) <| .cons (row_at Port.ds hp) <| .cons hc5 <| .nil) (by kernel_rfl)
          · exact al_of {path := [true, true, false, false, false, true], orc := [.elem q.ds, .elem p.ds, .elem p.ds, .elem p.ds], eds := [.keep [2], .re [], .unlit]}
              (.cons hc <| .cons (by omega : (0 : Int) ≤ (↑i : Int)) <| .cons (by simp [rowP, rowC, rowB, rowI, rowO]; omega : (↑i : Int) < (↑(rowP s.ports).length : Int)) <| .cons (row_at Port.ds hq) <| .cons hc1 <| .cons (by omega : (0 : Int) ≤ (↑i : Int)) <| .cons (by simp [rowP, rowC, rowB, rowI, rowO]; omega : (↑i : Int) < (↑(rowP t.ports).length : Int)) <| .cons (row_at Port.ds hp) <| .cons hc2 <| .cons (by omega : (0 : Int) ≤ (↑i : Int)) <| .cons (by simp [rowP, rowC, rowB, rowI, rowO]; omega : (↑i : Int) < (↑(rowP t.ports).length : Int)) <| .cons (row_at Port.ds hp) <| .cons hc3 <| .cons hc4 <| .cons free_tbR_13 <| .cons (by omega : (0 : Int) ≤ (↑i : Int)) <| .cons (by simp [rowP, rowC, rowB, rowI, rowO]; omega : (↑i : Int) < (↑(rowP t.ports).length : Int)) <| .cons (row_at Port.ds hp) <| .cons hc5 <| .nil) (by kernel_rfl)
        · cases hc5 : (q.state == 1) == true
          · cases hc6 : !(q.state == 0) == (p.state == 0)
            · exact al_of {path := [true, true, false, false, true, false, false], orc := [.elem q.ds, .elem p.ds, .elem p.ds, .elem p.ds], eds := [.keep [1, 3, 5], .re [0, 1], .unlit]}
                (.cons hc <| .cons (by omega : (0 : Int) ≤ (↑i : Int)) <| .cons (by simp [rowP, rowC, rowB, rowI, rowO]; omega : (↑i : Int) < (↑(rowP s.ports).length : Int)) <| .cons (row_at Port.ds hq) <| .cons hc1 <| .cons (by omega : (0 : Int) ≤ (↑i : Int)) <| .cons (by simp [rowP, rowC, rowB, rowI, rowO]; omega : (↑i : Int) < (↑(rowP t.ports).length : Int)) <| .cons (row_at Port.ds hp) <| .cons hc2 <| .cons (by omega : (0 : Int) ≤ (↑i : Int)) <| .cons (by simp [rowP, rowC, rowB, rowI, rowO]; omega : (↑i : Int) < (↑(rowP t.ports).length : Int)) <| .cons (row_at Port.ds hp) <| .cons hc3 <| .cons hc4 <| .cons hc5 <| .cons free_tbR_13 <| .cons (by omega : (0 : Int) ≤ (↑i : Int)) <| .cons (by simp [rowP, rowC, rowB, rowI, rowO]; omega : (↑i : Int) < (↑(rowP t.ports).length : Int)) <| .cons (row_at Port.ds hp) <| .cons hc6 <| .nil) (by kernel_rfl)
            · exact al_of {path := [true, true, false, false, true, false, true], orc := [.elem q.ds, .elem p.ds, .elem p.ds, .elem p.ds], eds := [.keep [2], .re [], .unlit]}
                (.cons hc <| .cons (by omega : (0 : Int) ≤ (↑i : Int)) <| .cons (by simp [rowP, rowC, rowB, rowI, rowO]; omega : (↑i : Int) < (↑(rowP s.ports).length : Int)) <| .cons (row_at Port.ds hq) <| .cons hc1 <| .cons (by omega : (0 : Int) ≤ (↑i : Int)) <| .cons (by simp [rowP, rowC, rowB, rowI, rowO]; omega : (↑i : Int) < (↑(rowP t.ports).length : Int)) <| .cons (row_at Port.ds hp) <| .cons hc2 <| .cons (by omega : (0 : Int) ≤ (↑i : Int)) <| .cons (by simp [rowP, rowC, rowB, rowI, rowO]; omega : (↑i : Int) < (↑(rowP t.ports).length : Int)) <| .cons (row_at Port.ds hp) <| .cons hc3 <| .cons hc4 <| .cons hc5 <| .cons free_tbR_13 <| .cons (by omega : (0 : Int) ≤ (↑i : Int)) <| .cons (by simp [rowP, rowC, rowB, rowI, rowO]; omega : (↑i : Int) < (↑(rowP t.ports).length : Int)) <| .cons (row_at Port.ds hp) <| .cons hc6 <| .nil) (by kernel_rfl)
          · exact al_of {path := [true, true, false, false, true, true], orc := [.elem q.ds, .elem p.ds, .elem p.ds], eds := [.keep [2], .re [], .unlit]}
              (.cons hc <| .cons (by omega : (0 : Int) ≤ (↑i : Int)) <| .cons (by simp [rowP, rowC, rowB, rowI, rowO]; omega : (↑i : Int) < (↑(rowP s.ports).length : Int)) <| .cons (row_at Port.ds hq) <| .cons hc1 <| .cons (by omega : (0 : Int) ≤ (↑i : Int)) <| .cons (by simp [rowP, rowC, rowB, rowI, rowO]; omega : (↑i : Int) < (↑(rowP t.ports).length : Int)) <| .cons (row_at Port.ds hp) <| .cons hc2 <| .cons (by omega : (0 : Int) ≤ (↑i : Int)) <| .cons (by simp [rowP, rowC, rowB, rowI, rowO]; omega : (↑i : Int) < (↑(rowP t.ports).length : Int)) <| .cons (row_at Port.ds hp) <| .cons hc3 <| .cons hc4 <| .cons hc5 <| .nil) (by kernel_rfl)
      · exact al_of {path := [true, true, false, true], orc := [.elem q.ds, .elem p.ds, .elem p.ds], eds := [.keep [2], .re [], .unlit]}
          (.cons hc <| .cons (by omega : (0 : Int) ≤ (↑i : Int)) <| .cons (by simp [rowP, rowC, rowB, rowI, rowO]; omega : (↑i : Int) < (↑(rowP s.ports).length : Int)) <| .cons (row_at Port.ds hq) <| .cons hc1 <| .cons (by omega : (0 : Int) ≤ (↑i : Int)) <| .cons (by simp [rowP, rowC, rowB, rowI, rowO]; omega : (↑i : Int) < (↑(rowP t.ports).length : Int)) <| .cons (row_at Port.ds hp) <| .cons hc2 <| .cons (by omega : (0 : Int) ≤ (↑i : Int)) <| .cons (by simp [rowP, rowC, rowB, rowI, rowO]; omega : (↑i : Int) < (↑(rowP t.ports).length : Int)) <| .cons (row_at Port.ds hp) <| .cons hc3 <| .nil) (by kernel_rfl)
    · exact al_of {path := [true, true, true], orc := [.elem q.ds, .elem p.ds], eds := [.keep [2], .re [], .unlit]}
        (.cons hc <| .cons (by omega : (0 : Int) ≤ (↑i : Int)) <| .cons (by simp [rowP, rowC, rowB, rowI, rowO]; omega : (↑i : Int) < (↑(rowP s.ports).length : Int)) <| .cons (row_at Port.ds hq) <| .cons hc1 <| .cons (by omega : (0 : Int) ≤ (↑i : Int)) <| .cons (by simp [rowP, rowC, rowB, rowI, rowO]; omega : (↑i : Int) < (↑(rowP t.ports).length : Int)) <| .cons (row_at Port.ds hp) <| .cons hc2 <| .nil) (by kernel_rfl)
def tbX (t s : Tree) (i : Nat) : LO (Unit) (Unit ⊕ Bool) := .leave (Sum.inl (()))
theorem tbX_al (t s : Tree) (i : Nat) (hc : decide ((i : Int) < ((rowP s.ports).length : Int)) = false) : AL PG GL 0 (loopAt PG 3 0) (tbS t s (↑i : Int)) (LO.ex (tbE s) (tbX t s i)) (LO.st (fun (x : Unit) => tbS t s 0) (tbE s) (tbX t s i)) := by
  unfold tbX
  exact al_of {path := [false], orc := [], eds := [.keep [3], .re [1], .unlit]}
    (.cons hc <| .nil) (by kernel_rfl)
/-! pure -/
theorem stP_designated (u : Tree) (i : Nat) (p : Port) (own : Int) : designated (stP u i p) own = designated p own := by
  unfold stP rise block quiet blocked designated
  cases (i : Int) == u.rootPort <;> cases (bif p.held.bridge == u.own then p.held.port == p.id else false) <;> cases p.state == 0 <;> cases p.state == 1 <;> simp
theorem stP_state0 (u : Tree) (i : Nat) (p : Port) : ((stP u i p).state == 0) = (p.state == 0) := by
  unfold stP rise block quiet blocked
  cases (i : Int) == u.rootPort <;> cases designated p u.own <;> cases h0 : p.state == 0 <;> cases h1 : p.state == 1 <;> simp_all
theorem stP_fore (u : Tree) (i : Nat) (p : Port) (h : ((i : Int) == u.rootPort) = true ∨ designated p u.own = true) : ((stP u i p).state == 1) = false := by
  unfold stP rise block quiet blocked
  cases hr : (i : Int) == u.rootPort <;> cases hd : designated p u.own <;> cases h1 : p.state == 1 <;> simp_all
theorem stP_back (u : Tree) (i : Nat) (p : Port) (h : ((i : Int) == u.rootPort) = false) (hd : designated p u.own = false) : ((stP u i p).state == 0) = false → ((stP u i p).state == 1) = true := by
  unfold stP
  rw [h, hd]
  simp only [cond_false]
  unfold block quiet blocked
  cases h0 : p.state == 0 <;> cases h1 : p.state == 1 <;> simp_all
theorem stP_still (u : Tree) (i : Nat) (p : Port) (h : ((i : Int) == u.rootPort) = false) (hd : designated p u.own = false) : (stP u i p).pending = false ∧ (stP u i p).ack = false := by
  unfold stP
  rw [h, hd]
  simp only [cond_false]
  unfold block quiet blocked
  cases h0 : p.state == 0 <;> cases h1 : p.state == 1 <;> simp_all
theorem desig1_state (v : Tree) (p : Port) : (desig1 v p).state = p.state := by
  unfold desig1 become
  cases designated p v.own <;> cases p.held.root != v.root <;> cases keeps (ownV v p) p.held <;> rfl
theorem tb_round (t u s : Tree) (i : Nat) (p p1 : Port) (hs : p1.state = p.state) (h1 : s.rootPort = u.rootPort) (h2 : s.own = u.own) : tbR t s i p (stP u i p1) = .next () ∨ tbR t s i p (stP u i p1) = .leave (Sum.inr true) := by
  have a := stP_state0 u i p1
  rw [hs] at a
  have b := stP_designated u i p1 u.own
  have c := stP_fore u i p1
  have d := stP_back u i p1
  have e := stP_still u i p1
  unfold tbR
  rw [h1, h2, b]
  have n0 : ((stP u i p1).state != 0) = !(p.state == 0) := by rw [← a]; rfl
  rw [n0, a]
  cases hr : (i : Int) == u.rootPort
  · cases hd : designated p1 u.own
    · have d' := d hr hd
      obtain ⟨e1, e2⟩ := e hr hd
      rw [e1, e2]
      rw [a] at d'
      cases hz : p.state == 0
      · rw [d' hz]
        cases decide (p.state < 0) <;> cases decide (p.state > 4) <;> simp
      · cases decide (p.state < 0) <;> cases decide (p.state > 4) <;> simp
    · rw [c (Or.inr hd)]
      cases p.state == 0 <;> cases decide (p.state < 0) <;> cases decide (p.state > 4) <;> simp
  · rw [c (Or.inl hr)]
    cases p.state == 0 <;> cases decide (p.state < 0) <;> cases decide (p.state > 4) <;> simp
theorem twice1 (p : Port) : rise (quiet (rise (quiet p))) = rise (quiet p) := by
  unfold rise quiet
  cases h1 : p.state == 1 <;> simp [h1]
theorem twice2 (p : Port) : rise { rise { p with age := ⟨false, 0⟩ } with age := ⟨false, 0⟩ } = rise { p with age := ⟨false, 0⟩ } := by
  unfold rise
  cases h1 : p.state == 1 <;> simp [h1]
theorem twice3 (p : Port) : block (quiet (block (quiet p)).1) = ((block (quiet p)).1, false) := by
  unfold block quiet blocked
  cases h0 : p.state == 0 <;> cases h1 : p.state == 1 <;> simp [h0, h1]
theorem stP_twice (u s : Tree) (i : Nat) (p : Port) (h1 : s.rootPort = u.rootPort) (h2 : s.own = u.own) : stP s i (stP u i p) = stP u i p ∧ stLost s false i (stP u i p) = false := by
  have b := stP_designated u i p u.own
  have hs : stP s i (stP u i p) = bif (i : Int) == u.rootPort then rise (quiet (stP u i p)) else bif designated p u.own then rise { stP u i p with age := ⟨false, 0⟩ } else (block (quiet (stP u i p))).1 := by
    rw [← b, ← h1, ← h2]
    rfl
  have hl : stLost s false i (stP u i p) = bif (i : Int) == u.rootPort then false else bif designated p u.own then false else (block (quiet (stP u i p))).2 := by
    rw [← b, ← h1, ← h2]
    rfl
  rw [hs, hl]
  unfold stP
  cases hr : (i : Int) == u.rootPort
  · cases hd : designated p u.own
    · simp only [cond_false]
      rw [twice3]
      exact ⟨rfl, rfl⟩
    · exact ⟨twice2 p, rfl⟩
  · exact ⟨twice1 p, rfl⟩
theorem states_again (u : Tree) : states (states u).1 = ((states u).1, false) := by
  have hp : stPorts (states u).1 = stPorts u := by
    apply List.ext_getElem?
    intro i
    show ((stPorts u).mapIdx (stP (states u).1))[i]? = (u.ports.mapIdx (stP u))[i]?
    unfold stPorts
    rw [List.getElem?_mapIdx, List.getElem?_mapIdx]
    cases u.ports[i]? with
    | none => rfl
    | some p =>
      simp only [Option.map_some]
      rw [(stP_twice u (states u).1 i p rfl rfl).1]
  have hl : ∀ n, lostN (states u).1 n = false := by
    intro n
    induction n with
    | zero => rfl
    | succ n ih =>
      unfold lostN
      rw [ih]
      show (match (u.ports.mapIdx (stP u))[n]? with | some p => stLost (states u).1 false n p | none => false) = false
      rw [List.getElem?_mapIdx]
      cases u.ports[n]? with
      | none => rfl
      | some p => exact (stP_twice u (states u).1 n p rfl rfl).2
  show (({ (states u).1 with ports := stPorts (states u).1 } : Tree), lostN (states u).1 _) = _
  rw [hp, hl]
  rfl
theorem samePorts_refl : ∀ l : List Port, samePorts l l = true
  | [] => rfl
  | p :: l => by
    have e : eqPort p p = true := by simp [eqPort, eqVect, eqTimer]
    simp [samePorts, e, samePorts_refl l]
theorem same_refl (t : Tree) : same t t = true := by
  simp [same, eqTimes, eqTimer, eqVect, samePorts_refl]
theorem rng_two {α σ β : Type} (xs : List α) (step : Nat → α → σ → LO σ β) (fin : σ → β) (r : β) (u : σ) (h : ∀ i x, xs[i]? = some x → step i x u = .next u ∨ step i x u = .leave r) : ∀ (ys : List α) (i : Nat), xs.drop i = ys → rng step fin ys i u = fin u ∨ rng step fin ys i u = r
  | [], i, _ => Or.inl rfl
  | y :: ys, i, hd => by
    have hx : xs[i]? = some y := by
      have := congrArg List.head? hd
      simpa [List.head?_drop] using this
    have hn : xs.drop (i + 1) = ys := by
      have := congrArg List.tail hd
      simpa [List.tail_drop] using this
    rcases h i y hx with e | e
    · have := rng_two xs step fin r u h ys (i + 1) hn
      simpa [rng, e] using this
    · exact Or.inr (by simp [rng, e])
def tbStep (t s : Tree) (i : Nat) (p : Port) (_ : Unit) : LO Unit (Sum Unit Bool) := tbR t s i p (portAt s.ports i)
def tbAll (t s : Tree) : Sum Unit Bool := rng (tbStep t s) (fun _ => Sum.inl ()) t.ports 0 ()
theorem tb_ports (t : Tree) : (states (update t)).1.ports.length = t.ports.length := by
  show ((update t).ports.mapIdx _).length = _
  simp [update, designate, select_ports]
theorem tb_loop (t s : Tree) (hl : t.ports.length ≤ 1000000) (hs : s.ports.length = t.ports.length) : AL PG GL 0 (.loop (loopAt PG 3 0)) (tbS t s 0) (tbE s (tbAll t s)).1 (tbE s (tbAll t s)).2 := by
  refine (ale_range t.ports (by omega) (fun k (_ : Unit) => tbS t s k) (tbE s) (tbStep t s) (fun _ => Sum.inl ()) (fun _ _ => True) (fun b => by cases b <;> simp) ?_ ?_ ?_ _ 0 () rfl (by omega) trivial).al
  · intro k p u hp _
    have hk := (List.getElem?_eq_some_iff.1 hp).1
    obtain ⟨q, hq⟩ := some_at (l := s.ports) (i := k) (by omega)
    unfold tbStep
    rw [portAt_nat hq]
    exact tbR_al t s k p q hp hk hq (by omega) (by simp [rowP]; omega)
  · intros
    trivial
  · intro u _
    exact tbX_al t s t.ports.length (by simp [rowP]; omega)
theorem tbAll_eq (t : Tree) : tbAll t (states (update t)).1 = Sum.inl () ∨ tbAll t (states (update t)).1 = Sum.inr true := by
  refine rng_two t.ports _ _ _ _ ?_ _ 0 rfl
  intro i p hp
  have hu : (update t).ports[i]? = some (desig1 (select t) p) := by
    show ((select t).ports.map (desig1 (select t)))[i]? = _
    rw [select_ports, List.getElem?_map, hp]
    rfl
  have hq : (states (update t)).1.ports[i]? = some (stP (update t) i (desig1 (select t) p)) := by
    show ((update t).ports.mapIdx (stP (update t)))[i]? = _
    rw [List.getElem?_mapIdx, hu]
    rfl
  unfold tbStep
  rw [portAt_nat hq]
  exact tb_round t (update t) _ i p _ (desig1_state _ _) rfl rfl
def treeBlocksN (t : Tree) : Bool := true
theorem treeBlocksN_pre (t : Tree) (hf : (!fit t) = true) : AC PG GL 3 [AD.agg t.ds] [] (vB (treeBlocksN t)) [] := by
  unfold treeBlocksN
  exact ac_of {path := [false, true], orc := [cal (vB awake13), cal (vB (fit t)), cal (vB awake13)], eds := [.re [], .unlit]}
    (.cons awake13_ac <| .cons (by simp : (false) = false) <| .cons (fit_ac t) <| .cons hf <| .cons awake13_ac <| .nil) (by kernel_rfl)
def treeBlocksY (t : Tree) : Bool := true
theorem treeBlocksY_pre (t : Tree) (hf : (!fit t) = false) (hl : t.ports.length ≤ 1000000) (hl1 : (update t).ports.length ≤ 1000000) (hl2 : (states (update t)).1.ports.length ≤ 1000000) (hlp : AL PG GL 0 (.loop (loopAt PG 3 0)) (tbS t (states (update t)).1 0) .ret ⟨hd 107 [(2, vB true)], []⟩) : AC PG GL 3 [AD.agg t.ds] [] (vB (treeBlocksY t)) [] := by
  unfold treeBlocksY
  exact ac_of {path := [false, false], orc := [cal (vB awake13), cal (vB (fit t)), cal (sA (update t).ds), cal (sTB (states (update t)))], ls := [⟨[.keep [1, 3, 5], .re [0, 1], .unlit], [], Ex.ret, { tm := hd 107 [(2, vB true)], mem := [] : St }⟩], eds := [.re [], .unlit]}
    (.cons awake13_ac <| .cons (by simp : (false) = false) <| .cons (fit_ac t) <| .cons hf <| .cons (update_ac t hl) <| .cons (states_ac (update t) hl1) <| .cons hlp <| .nil) (by kernel_rfl)
def treeBlocksE (t : Tree) : Bool := !false
theorem treeBlocksE_pre (t : Tree) (hf : (!fit t) = false) (hl : t.ports.length ≤ 1000000) (hl1 : (update t).ports.length ≤ 1000000) (hl2 : (states (update t)).1.ports.length ≤ 1000000) (hst : AC PG GL 7 [.agg (states (update t)).1.ds] [] (sTB ((states (update t)).1, false)) []) (hsm : AC PG GL 10 [.agg (states (update t)).1.ds, .agg (states (update t)).1.ds] [] (vB true) []) (hlp : AL PG GL 0 (.loop (loopAt PG 3 0)) (tbS t (states (update t)).1 0) (.exit 0) ⟨hd 107 [(3, .ptr 0 0)], [.box ((states (update t)).1.ds.map .d)]⟩) : AC PG GL 3 [AD.agg t.ds] [] (vB (treeBlocksE t)) [] := by
  unfold treeBlocksE
  exact ac_of {path := [false, false, true], orc := [cal (vB awake13), cal (vB (fit t)), cal (sA (update t).ds), cal (sTB (states (update t))), cal (sTB ((states (update t)).fst, false)), cal (vB true)], ls := [⟨[.keep [1, 3, 5], .re [0, 1], .unlit], [], Ex.exit 0, { tm := hd 107 [(3, SV.ptr 0 0)], mem := [Blk.box (List.map SV.d (states (update t)).fst.ds)] : St }⟩], eds := [.re [], .unlit]}
    (.cons awake13_ac <| .cons (by simp : (false) = false) <| .cons (fit_ac t) <| .cons hf <| .cons (update_ac t hl) <| .cons (states_ac (update t) hl1) <| .cons hlp <| .cons hst <| .cons hsm <| .cons (by simp : (true) = true) <| .nil) (by kernel_rfl)
theorem treeBlocks_ac (t : Tree) : CX 3 [.agg t.ds] (vB true) := by
  cases hf : fit t
  · exact treeBlocksN_pre t (by simp [hf])
  · have hl := fit_few hf
    have hl' : t.ports.length ≤ 1000000 := by omega
    have h1 : (update t).ports.length ≤ 1000000 := by simpa [update, designate, select_ports] using hl'
    have h2 : (states (update t)).1.ports.length ≤ 1000000 := by rw [tb_ports]; exact hl'
    have lp := tb_loop t (states (update t)).1 hl' (tb_ports t)
    rcases tbAll_eq t with e | e
    · rw [e] at lp
      have hst := states_ac (states (update t)).1 h2
      rw [states_again] at hst
      have hsm := same_ac (states (update t)).1 (states (update t)).1 h2
      rw [same_refl] at hsm
      exact treeBlocksE_pre t (by simp [hf]) hl' h1 h2 hst hsm lp
    · rw [e] at lp
      exact treeBlocksY_pre t (by simp [hf]) hl' h1 h2 lp
theorem treeBlocks_all (xs : List (List D)) (h : ShpAll PG 8 Try.f3.params.toList xs) : AC PG GL 3 (adAll PG Try.f3.params.toList xs) [] (vB true) [] :=
  one_tree (by rw [Try.params3]) (fun t _ => treeBlocks_ac t) xs h
end Go.Proofs.Ytdffdnbkinpbiaa
