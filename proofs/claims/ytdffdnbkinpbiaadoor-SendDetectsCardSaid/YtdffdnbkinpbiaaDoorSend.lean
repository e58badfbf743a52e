import Derived.Test.YtdffdnbkinpbiaaDoorWire
set_option linter.unusedVariables false
set_option linter.unusedSimpArgs false
namespace Go.Proofs.YtdffdnbkinpbiaaDoor
open Go Go.RowKit Sx

/-! bpdu.Put -/
def tcnBytes : List Int := [] ++ putL (IntKind.u64.wrap 0) 3 ++ putL (IntKind.u64.wrap 128) 1
def putHead (x : Bpdu) : List Int := [] ++ putL (IntKind.u64.wrap 0) 3 ++ putL (IntKind.u64.wrap 0) 1 ++ putL (IntKind.u64.wrap (flags x)) 1 ++ putL x.root 8 ++ putL (IntKind.u64.wrap x.cost) 4 ++ putL x.bridge 8
abbrev fives (x : Bpdu) : List SV := [vI .u16 x.port, vI .u16 x.age, vI .u16 x.maxAge, vI .u16 x.hello, vI .u16 x.delay]
def bpS (x : Bpdu) (i : Int) (l : List Int) : St := ⟨hd 48 [(3, sB l), (39, .agg (fives x)), (40, vI .i64 i)], []⟩
def bpQ (l : List Int) : St := ⟨hd 48 [(3, sB l)], []⟩
def bp0 (x : Bpdu) (l : List Int) : LO (List Int) (List Int) := .next (l ++ putL (IntKind.u64.wrap x.port) 2)
theorem bp0_al (x : Bpdu) (l : List Int) (hl : l.length ≤ 900000) : AL PG GL 0 (loopAt PG 80 0) (bpS x 0 l) (LO.ex (fun (r : List Int) => (Ex.exit 0, bpQ r)) (bp0 x l)) (LO.st (fun (r : List Int) => bpS x 1 r) (fun (r : List Int) => (Ex.exit 0, bpQ r)) (bp0 x l)) := by
  unfold bp0
  exact al_of {path := [true], orc := [cal (sB (l ++ putL (IntKind.u64.wrap x.port) 2))], eds := [Ed.keep [3, 39, 40], Ed.re [], Ed.unlit]}
    (.cons (by simp : (decide ((0 : Int) < (5 : Int))) = true) <| .cons (by omega : (0 : Int) ≤ (0 : Int)) <| .cons (by omega : (0 : Int) < (↑(5 : Nat) : Int)) <| .cons (wput16_ac l x.port 2 hl (by simp)) <| .nil) (by kernel_rfl)
def bp1 (x : Bpdu) (l : List Int) : LO (List Int) (List Int) := .next (l ++ putL (IntKind.u64.wrap x.age) 2)
theorem bp1_al (x : Bpdu) (l : List Int) (hl : l.length ≤ 900000) : AL PG GL 0 (loopAt PG 80 0) (bpS x 1 l) (LO.ex (fun (r : List Int) => (Ex.exit 0, bpQ r)) (bp1 x l)) (LO.st (fun (r : List Int) => bpS x 2 r) (fun (r : List Int) => (Ex.exit 0, bpQ r)) (bp1 x l)) := by
  unfold bp1
  exact al_of {path := [true], orc := [cal (sB (l ++ putL (IntKind.u64.wrap x.age) 2))], eds := [Ed.keep [3, 39, 40], Ed.re [], Ed.unlit]}
    (.cons (by simp : (decide ((1 : Int) < (5 : Int))) = true) <| .cons (by omega : (0 : Int) ≤ (1 : Int)) <| .cons (by omega : (1 : Int) < (↑(5 : Nat) : Int)) <| .cons (wput16_ac l x.age 2 hl (by simp)) <| .nil) (by kernel_rfl)
def bp2 (x : Bpdu) (l : List Int) : LO (List Int) (List Int) := .next (l ++ putL (IntKind.u64.wrap x.maxAge) 2)
theorem bp2_al (x : Bpdu) (l : List Int) (hl : l.length ≤ 900000) : AL PG GL 0 (loopAt PG 80 0) (bpS x 2 l) (LO.ex (fun (r : List Int) => (Ex.exit 0, bpQ r)) (bp2 x l)) (LO.st (fun (r : List Int) => bpS x 3 r) (fun (r : List Int) => (Ex.exit 0, bpQ r)) (bp2 x l)) := by
  unfold bp2
  exact al_of {path := [true], orc := [cal (sB (l ++ putL (IntKind.u64.wrap x.maxAge) 2))], eds := [Ed.keep [3, 39, 40], Ed.re [], Ed.unlit]}
    (.cons (by simp : (decide ((2 : Int) < (5 : Int))) = true) <| .cons (by omega : (0 : Int) ≤ (2 : Int)) <| .cons (by omega : (2 : Int) < (↑(5 : Nat) : Int)) <| .cons (wput16_ac l x.maxAge 2 hl (by simp)) <| .nil) (by kernel_rfl)
def bp3 (x : Bpdu) (l : List Int) : LO (List Int) (List Int) := .next (l ++ putL (IntKind.u64.wrap x.hello) 2)
theorem bp3_al (x : Bpdu) (l : List Int) (hl : l.length ≤ 900000) : AL PG GL 0 (loopAt PG 80 0) (bpS x 3 l) (LO.ex (fun (r : List Int) => (Ex.exit 0, bpQ r)) (bp3 x l)) (LO.st (fun (r : List Int) => bpS x 4 r) (fun (r : List Int) => (Ex.exit 0, bpQ r)) (bp3 x l)) := by
  unfold bp3
  exact al_of {path := [true], orc := [cal (sB (l ++ putL (IntKind.u64.wrap x.hello) 2))], eds := [Ed.keep [3, 39, 40], Ed.re [], Ed.unlit]}
    (.cons (by simp : (decide ((3 : Int) < (5 : Int))) = true) <| .cons (by omega : (0 : Int) ≤ (3 : Int)) <| .cons (by omega : (3 : Int) < (↑(5 : Nat) : Int)) <| .cons (wput16_ac l x.hello 2 hl (by simp)) <| .nil) (by kernel_rfl)
def bp4 (x : Bpdu) (l : List Int) : LO (List Int) (List Int) := .next (l ++ putL (IntKind.u64.wrap x.delay) 2)
theorem bp4_al (x : Bpdu) (l : List Int) (hl : l.length ≤ 900000) : AL PG GL 0 (loopAt PG 80 0) (bpS x 4 l) (LO.ex (fun (r : List Int) => (Ex.exit 0, bpQ r)) (bp4 x l)) (LO.st (fun (r : List Int) => bpS x 5 r) (fun (r : List Int) => (Ex.exit 0, bpQ r)) (bp4 x l)) := by
  unfold bp4
  exact al_of {path := [true], orc := [cal (sB (l ++ putL (IntKind.u64.wrap x.delay) 2))], eds := [Ed.keep [3, 39, 40], Ed.re [], Ed.unlit]}
    (.cons (by simp : (decide ((4 : Int) < (5 : Int))) = true) <| .cons (by omega : (0 : Int) ≤ (4 : Int)) <| .cons (by omega : (4 : Int) < (↑(5 : Nat) : Int)) <| .cons (wput16_ac l x.delay 2 hl (by simp)) <| .nil) (by kernel_rfl)
def bp5 (x : Bpdu) (l : List Int) : LO (List Int) (List Int) := .leave (l)
theorem bp5_al (x : Bpdu) (l : List Int) (hl : l.length ≤ 900000) : AL PG GL 0 (loopAt PG 80 0) (bpS x 5 l) (LO.ex (fun (r : List Int) => (Ex.exit 0, bpQ r)) (bp5 x l)) (LO.st (fun (r : List Int) => bpS x 6 r) (fun (r : List Int) => (Ex.exit 0, bpQ r)) (bp5 x l)) := by
  unfold bp5
  exact al_of {path := [false], orc := [], eds := [Ed.keep [3], Ed.re [], Ed.unlit]}
    (.cons (by simp : (decide ((5 : Int) < (5 : Int))) = false) <| .nil) (by kernel_rfl)
def p16 (n : Int) : List Int := putL (IntKind.u64.wrap n) 2
def putTail (x : Bpdu) (l : List Int) : List Int := l ++ p16 x.port ++ p16 x.age ++ p16 x.maxAge ++ p16 x.hello ++ p16 x.delay
theorem bp_ale (x : Bpdu) (l : List Int) (hl : l.length ≤ 800000) : ALE 0 (loopAt PG 80 0) (bpS x 0 l) (.exit 0) (bpQ (putTail x l)) :=
  ALE.round (bp0_al x l (by omega)) <| ALE.round (bp1_al x (l ++ p16 x.port) (by simp [p16, putL_len]; omega)) <| ALE.round (bp2_al x (l ++ p16 x.port ++ p16 x.age) (by simp [p16, putL_len]; omega)) <|
  ALE.round (bp3_al x (l ++ p16 x.port ++ p16 x.age ++ p16 x.maxAge) (by simp [p16, putL_len]; omega)) <| ALE.round (bp4_al x (l ++ p16 x.port ++ p16 x.age ++ p16 x.maxAge ++ p16 x.hello) (by simp [p16, putL_len]; omega)) <|
  ALE.stop (bp5_al x (putTail x l) (by simp [putTail, p16, putL_len]; omega)) (by simp [bp5, LO.ex])
theorem putHead_len (x : Bpdu) : (putHead x).length = 25 := by simp [putHead, putL_len]
theorem putTail_len (x : Bpdu) (l : List Int) : (putTail x l).length = l.length + 10 := by simp [putTail, p16, putL_len]
theorem bpduPutT_ac (x : Bpdu) (h : x.tcn = true) : CX 80 [.agg x.ds] (sB tcnBytes) :=
  ac_of {path := [true], orc := [cal (sB ([] ++ putL (IntKind.u64.wrap 0) 3)), cal (sB tcnBytes)]} (.cons (wput32_ac [] 0 3 (by simp) (by simp)) <| .cons h <| .cons (wput8_ac ([] ++ putL (IntKind.u64.wrap 0) 3) 128 1 (by simp [putL_len]) (by simp)) <| .nil) (by kernel_rfl)
def putC (x : Bpdu) : List Int := putTail x (putHead x)
theorem putC_len (x : Bpdu) : (putC x).length = 35 := by simp [putC, putTail_len, putHead_len]
def bpduPutC (x : Bpdu) : List Int := putC x
theorem bpduPutC_pre (x : Bpdu) (h : x.tcn = false) (hlp : AL PG GL 0 (.loop (loopAt PG 80 0)) (bpS x 0 (putHead x)) (.exit 0) (bpQ (putC x))) : AC PG GL 80 [AD.agg x.ds] [] (sB (bpduPutC x)) [] := by
  unfold bpduPutC
  exact ac_of {path := [false], orc := [cal (sB ([] ++ putL (IntKind.u64.wrap 0) 3)), cal (sB ([] ++ putL (IntKind.u64.wrap 0) 3 ++ putL (IntKind.u64.wrap 0) 1)), cal (vI IntKind.u8 (flags x)), cal (sB ([] ++ putL (IntKind.u64.wrap 0) 3 ++ putL (IntKind.u64.wrap 0) 1 ++ putL (IntKind.u64.wrap (flags x)) 1)), cal (sB ([] ++ putL (IntKind.u64.wrap 0) 3 ++ putL (IntKind.u64.wrap 0) 1 ++ putL (IntKind.u64.wrap (flags x)) 1 ++ putL x.root 8)), cal (sB ([] ++ putL (IntKind.u64.wrap 0) 3 ++ putL (IntKind.u64.wrap 0) 1 ++ putL (IntKind.u64.wrap (flags x)) 1 ++ putL x.root 8 ++ putL (IntKind.u64.wrap x.cost) 4)), cal (sB ([] ++ putL (IntKind.u64.wrap 0) 3 ++ putL (IntKind.u64.wrap 0) 1 ++ putL (IntKind.u64.wrap (flags x)) 1 ++ putL x.root 8 ++ putL (IntKind.u64.wrap x.cost) 4 ++ putL x.bridge 8))], ls := [{ eds := [Ed.keep [3, 39, 40], Ed.re [], Ed.unlit], ex := Ex.exit 0, post := bpQ (putC x) }]}
    (.cons (wput32_ac [] 0 3 (by simp) (by simp)) <| .cons h <| .cons (wput8_ac ([] ++ putL (IntKind.u64.wrap 0) 3) 0 1 (by simp [putL_len]) (by simp)) <| .cons (flags_ac x) <| .cons (wput8_ac ([] ++ putL (IntKind.u64.wrap 0) 3 ++ putL (IntKind.u64.wrap 0) 1) (flags x) 1 (by simp [putL_len]) (by simp)) <| .cons (wputB_ac ([] ++ putL (IntKind.u64.wrap 0) 3 ++ putL (IntKind.u64.wrap 0) 1 ++ putL (IntKind.u64.wrap (flags x)) 1) x.root 8 (by simp [putL_len]) (by simp)) <| .cons (wput32_ac ([] ++ putL (IntKind.u64.wrap 0) 3 ++ putL (IntKind.u64.wrap 0) 1 ++ putL (IntKind.u64.wrap (flags x)) 1 ++ putL x.root 8) x.cost 4 (by simp [putL_len]) (by simp)) <| .cons (wputB_ac ([] ++ putL (IntKind.u64.wrap 0) 3 ++ putL (IntKind.u64.wrap 0) 1 ++ putL (IntKind.u64.wrap (flags x)) 1 ++ putL x.root 8 ++ putL (IntKind.u64.wrap x.cost) 4) x.bridge 8 (by simp [putL_len]) (by simp)) <| .cons hlp <| .nil) (by kernel_rfl)
def bpduPut (x : Bpdu) : List Int := bif x.tcn then tcnBytes else putC x
theorem bpduPut_ac (x : Bpdu) : CX 80 [.agg x.ds] (sB (bpduPut x)) := by
  unfold bpduPut
  cases h : x.tcn
  · exact bpduPutC_pre x h (bp_ale x (putHead x) (by rw [putHead_len]; omega)).al
  · exact bpduPutT_ac x h
theorem bpduPut_len (x : Bpdu) : (bpduPut x).length ≤ 35 := by
  unfold bpduPut
  cases x.tcn
  · simp [putC_len]
  · simp [tcnBytes, putL_len]
/-! frame.Wrap -/
def wrap (frm : Int) (b : List Int) : Frame := ⟨1652522221568, frm, IntKind.u16.wrap (↑([] ++ List.map (fun (c : D) => [c]) [D.v (Value.int IntKind.u8 66), D.v (Value.int IntKind.u8 66), D.v (Value.int IntKind.u8 3)] ++ rowB b).length : Int), [66, 66, 3] ++ b⟩
theorem wrap_ac (frm : Int) (b : List Int) (hb : b.length ≤ 900000) : AC PG GL 79 [AD.one (dI IntKind.u64 frm), AD.one (D.row (rowB b))] [] (sA (wrap frm b).ds) [] := by
  unfold wrap
  exact ac_of {path := [], orc := [], eds := [Ed.at_ (Pl.ta 0 3) Act'.exp, Ed.re [], Ed.unlit], says := [.d (.ta 0 3) (.row (rowB ([66, 66, 3] ++ b)))]}
    (.cons (by omega : (3 : Nat) ≤ (140737488355328 : Nat)) <| .cons ((all_cons rfl (all_cons rfl (all_cons rfl all_nil))) : ∀ el ∈ List.map (fun (c : D) => [c]) [D.v (Value.int IntKind.u8 66), D.v (Value.int IntKind.u8 66), D.v (Value.int IntKind.u8 3)], el.length = 1) <| .cons (by simp [rowP, rowC, rowB, rowI, rowO]; omega : ((3 : Nat) + (rowB b).length) * (1 : Nat) ≤ (140737488355328 : Nat)) <| .cons (row_all (f := Bf) (l := b) (fun _ => rfl) : ∀ el ∈ rowB b, el.length = 1) <| .cons (congrArg D.row (row_app Bf ([66, 66, 3]) b)) <| .nil) (by kernel_rfl)
end Go.Proofs.YtdffdnbkinpbiaaDoor
