import Derived.Test.YtdffdnbkinpbiaaDoorBase
set_option linter.unusedVariables false
set_option linter.unusedSimpArgs false
namespace Go.Proofs.YtdffdnbkinpbiaaDoor
open Go Go.RowKit Sx

/-! span, ids -/
def older (n : Int) : Int := bif decide (n ≥ 65279) then 65535 else IntKind.i64.wrap ((if 0 > n then 0 else n) + 256)
theorem older_ac (n : Int) : AC PG GL 103 [AD.one (dI IntKind.i64 n)] [] (vI IntKind.i64 (older n)) [] := by
  unfold older
  cases h0 : decide (n ≥ 65279)
  · exact ac_of {path := [false], orc := []}
      (.cons h0 <| .nil) (by kernel_rfl)
  · exact ac_of {path := [true], orc := []}
      (.cons h0 <| .nil) (by kernel_rfl)
def field (n : Int) : Int := IntKind.u16.wrap (if 65535 < if 0 > n then 0 else n then 65535 else if 0 > n then 0 else n)
theorem field_ac (n : Int) : AC PG GL 104 [AD.one (dI IntKind.i64 n)] [] (vI IntKind.u16 (field n)) [] := by
  unfold field
  exact ac_of {path := [], orc := []}
    (.nil) (by kernel_rfl)
def split (n : Int) : Int × Int := (IntKind.u16.wrap (n.fdiv (2 ^ 48)), IntKind.u64.wrap (↑(BitVec.ofInt 64 n &&& BitVec.ofInt 64 281474976710655).toNat : Int))
theorem split_ac (n : Int) : AC PG GL 78 [AD.one (dI IntKind.u64 n)] [] (SV.tup [vI IntKind.u16 (split n).fst, vI IntKind.u64 (split n).snd]) [] := by
  unfold split
  exact ac_of {path := [], orc := []}
    (.nil) (by kernel_rfl)
def flags (x : Bpdu) : Int := bif x.change then (bif x.ack then IntKind.u8.wrap (↑129 : Int) else IntKind.u8.wrap (↑1 : Int)) else (bif x.ack then IntKind.u8.wrap (↑128 : Int) else 0)
theorem flags_ac (x : Bpdu) : AC PG GL 107 [AD.agg x.ds] [] (vI IntKind.u8 (flags x)) [] := by
  unfold flags
  cases h0 : x.change
  · cases h1 : x.ack
    · exact ac_of {path := [false, false], orc := []}
        (.cons h0 <| .cons h1 <| .nil) (by kernel_rfl)
    · exact ac_of {path := [false, true], orc := []}
        (.cons h0 <| .cons h1 <| .nil) (by kernel_rfl)
  · cases h1 : x.ack
    · exact ac_of {path := [true, false], orc := []}
        (.cons h0 <| .cons h1 <| .nil) (by kernel_rfl)
    · exact ac_of {path := [true, true], orc := []}
        (.cons h0 <| .cons h1 <| .nil) (by kernel_rfl)
/-! wire.Put -/
def byteAt (x : Int) (i : Nat) : Int := IntKind.u8.wrap (x.fdiv (2 ^ (8 * i)))
/-- The bytes of a number, the highest one first. -/
def putL (x : Int) : Nat → List Int
  | 0 => []
  | i + 1 => byteAt x i :: putL x i
theorem putL_len (x : Int) : ∀ n, (putL x n).length = n
  | 0 => rfl
  | n + 1 => by simp [putL, putL_len x n]
theorem wp_left {m : Nat} (hm : m + 1 ≤ 8) : IntKind.i64.wrap (((m + 1 : Nat) : Int) - 1) = (m : Int) := (wrap_s (by omega) (by omega)).trans (by omega)
theorem wp_sh {m : Nat} (hm : m + 1 ≤ 8) : IntKind.i64.wrap (8 * (m : Int)) = ((8 * m : Nat) : Int) := (wrap_s (by omega) (by omega)).trans (by simp)
theorem wp_min {m : Nat} (hm : m + 1 ≤ 8) : min (((8 * m : Nat) : Int)).toNat 64 = 8 * m := by omega
theorem wp_pos {m : Nat} (hm : m + 1 ≤ 8) : decide (((m + 1 : Nat) : Int) > 0) = true := decide_eq_true (by omega)
theorem wp_nn {m : Nat} (hm : m + 1 ≤ 8) : 0 ≤ IntKind.i64.wrap (8 * IntKind.i64.wrap (((m + 1 : Nat) : Int) - 1)) := by rw [wp_left hm, wp_sh hm]; omega
theorem wp_lt {m : Nat} (hm : m + 1 ≤ 8) : decide ((m : Int) < 8) = true := decide_eq_true (by omega)
theorem zero_f : decide (((0 : Nat) : Int) > 0) = false := rfl
/-! uint32 -/
def wpS32 (n left : Int) (l : List Int) : St := ⟨hd 35 [(1, vI .u32 n), (7, .own 0), (8, vI .i64 left)], [pB l]⟩
def wp32 (n left : Int) (l : List Int) : LO (Int × List Int) (List Int) := bif decide (IntKind.i64.wrap (left - 1) < 8) then .next ((IntKind.i64.wrap (left - 1), l ++ [IntKind.u8.wrap ((IntKind.u64.wrap n).fdiv (2 ^ min (IntKind.i64.wrap (8 * IntKind.i64.wrap (left - 1))).toNat 64))])) else .next ((IntKind.i64.wrap (left - 1), l ++ [IntKind.u8.wrap 0]))
theorem wp32_al (n left : Int) (l : List Int) (hl : l.length ≤ 1000000) (h : decide (left > 0) = true) (hs : 0 ≤ IntKind.i64.wrap (8 * IntKind.i64.wrap (left - 1))) : AL PG GL 0 (loopAt PG 105 0) (wpS32 n left l) (LO.ex (fun (r : List Int) => (Ex.exit 0, { tm := hd 35 [(7, SV.own 0)], mem := [pB r] })) (wp32 n left l)) (LO.st (fun (r : Int × List Int) => wpS32 n r.fst r.snd) (fun (r : List Int) => (Ex.exit 0, { tm := hd 35 [(7, SV.own 0)], mem := [pB r] })) (wp32 n left l)) := by
  unfold wp32
  cases h1 : decide (IntKind.i64.wrap (left - 1) < 8)
  · exact al_of {path := [true, false], orc := [], eds := [Ed.keep [1, 7, 8], Ed.re [2], Ed.unlit], says := [.row 0 (rowB (l ++ [IntKind.u8.wrap 0]))]}
      (.cons h <| .cons h1 <| .cons (by simp [rowP, rowC, rowB, rowI, rowO]; omega : ((rowB l).length + (1 : Nat)) * (1 : Nat) ≤ (140737488355328 : Nat)) <| .cons ((all_cons rfl all_nil) : ∀ el ∈ [[D.v (Value.int IntKind.u8 (IntKind.u8.wrap 0))]], el.length = 1) <| .cons (row_app Bf l ([IntKind.u8.wrap 0])) <| .nil) (by kernel_rfl)
  · exact al_of {path := [true, true], orc := [], eds := [Ed.keep [1, 7, 8], Ed.re [2], Ed.unlit], says := [.row 0 (rowB (l ++ [IntKind.u8.wrap ((IntKind.u64.wrap n).fdiv (2 ^ min (IntKind.i64.wrap (8 * IntKind.i64.wrap (left - 1))).toNat 64))]))]}
      (.cons h <| .cons h1 <| .cons hs <| .cons (by simp [rowP, rowC, rowB, rowI, rowO]; omega : ((rowB l).length + [[D.v (Value.int IntKind.u8 (IntKind.u8.wrap ((IntKind.u64.wrap n).fdiv ((2 : Int) ^ min (IntKind.i64.wrap ((8 : Int) * IntKind.i64.wrap (left - (1 : Int)))).toNat (64 : Nat)))))]].length) * (1 : Nat) ≤ (140737488355328 : Nat)) <| .cons ((all_cons rfl all_nil) : ∀ el ∈ [[D.v (Value.int IntKind.u8 (IntKind.u8.wrap ((IntKind.u64.wrap n).fdiv (2 ^ min (IntKind.i64.wrap (8 * IntKind.i64.wrap (left - 1))).toNat 64))))]], el.length = 1) <| .cons (row_app Bf l ([IntKind.u8.wrap ((IntKind.u64.wrap n).fdiv (2 ^ min (IntKind.i64.wrap (8 * IntKind.i64.wrap (left - 1))).toNat 64))])) <| .nil) (by kernel_rfl)
def wpe32 (n left : Int) (l : List Int) : LO (Int × List Int) (List Int) := .leave (l)
theorem wpe32_al (n left : Int) (l : List Int) (h : decide (left > 0) = false) : AL PG GL 0 (loopAt PG 105 0) (wpS32 n left l) (LO.ex (fun (r : List Int) => (Ex.exit 0, { tm := hd 35 [(7, SV.own 0)], mem := [pB r] })) (wpe32 n left l)) (LO.st (fun (r : Int × List Int) => wpS32 n r.fst r.snd) (fun (r : List Int) => (Ex.exit 0, { tm := hd 35 [(7, SV.own 0)], mem := [pB r] })) (wpe32 n left l)) := by
  unfold wpe32
  exact al_of {path := [false], orc := [], eds := [Ed.keep [7], Ed.re [0], Ed.unlit]}
    (.cons h <| .nil) (by kernel_rfl)
theorem wp32_ale (n : Int) : ∀ (m : Nat) (l : List Int), m ≤ 8 → l.length + m ≤ 1000000 → ALE 0 (loopAt PG 105 0) (wpS32 n m l) (.exit 0) ⟨hd 35 [(7, .own 0)], [pB (l ++ putL (IntKind.u64.wrap n) m)]⟩
  | 0, l, _, _ => by
    have h := wpe32_al n ((0 : Nat) : Int) l zero_f
    simp only [putL, List.append_nil]
    exact ALE.stop h (by simp [wpe32, LO.ex])
  | m + 1, l, hm, hl => by
    have h := wp32_al n ((m + 1 : Nat) : Int) l (by omega) (wp_pos hm) (wp_nn hm)
    have e : wp32 n ((m + 1 : Nat) : Int) l = .next ((m : Int), l ++ [byteAt (IntKind.u64.wrap n) m]) := by
      unfold wp32 byteAt
      simp only [wp_left hm, wp_sh hm, wp_min hm, wp_lt hm, cond_true]
    rw [e] at h
    have ih := wp32_ale n m (l ++ [byteAt (IntKind.u64.wrap n) m]) (by omega) (by simp; omega)
    rw [List.append_assoc, List.singleton_append] at ih
    exact ALE.round h ih
def wput32 (b : List Int) (n : Int) (m : Nat) (r : List Int) : List Int := r
theorem wput32_pre (b : List Int) (n : Int) (m : Nat) (hb : b.length ≤ 1000000) (r : List Int) (hlp : AL PG GL 0 (.loop (loopAt PG 105 0)) (wpS32 n m b) (.exit 0) ⟨hd 35 [(7, .own 0)], [pB r]⟩) : AC PG GL 105 [AD.one (D.row (rowB b)), AD.one (dI IntKind.u32 n), AD.one (dI IntKind.i64 (↑m : Int))] [] (sB (wput32 b n m r)) [] := by
  unfold wput32
  exact ac_of {path := [], orc := [], ls := [{ eds := [Ed.keep [1, 7, 8], Ed.re [1], Ed.unlit], ex := Ex.exit 0, post := { tm := hd 35 [(7, SV.own 0)], mem := [pB r] } }], eds := [Ed.at_ (Pl.t 0) Act'.exp, Ed.re [], Ed.unlit]}
    (.cons (by simp [rowP, rowC, rowB, rowI, rowO]; omega : ((0 : Nat) + (rowB b).length) * (1 : Nat) ≤ (140737488355328 : Nat)) <| .cons (row_all (f := Bf) (l := b) (fun _ => rfl) : ∀ el ∈ rowB b, el.length = 1) <| .cons hlp <| .nil) (by kernel_rfl)
/-! uint8 -/
def wpS8 (n left : Int) (l : List Int) : St := ⟨hd 35 [(1, vI .u8 n), (7, .own 0), (8, vI .i64 left)], [pB l]⟩
def wp8 (n left : Int) (l : List Int) : LO (Int × List Int) (List Int) := bif decide (IntKind.i64.wrap (left - 1) < 8) then .next ((IntKind.i64.wrap (left - 1), l ++ [IntKind.u8.wrap ((IntKind.u64.wrap n).fdiv (2 ^ min (IntKind.i64.wrap (8 * IntKind.i64.wrap (left - 1))).toNat 64))])) else .next ((IntKind.i64.wrap (left - 1), l ++ [IntKind.u8.wrap 0]))
theorem wp8_al (n left : Int) (l : List Int) (hl : l.length ≤ 1000000) (h : decide (left > 0) = true) (hs : 0 ≤ IntKind.i64.wrap (8 * IntKind.i64.wrap (left - 1))) : AL PG GL 0 (loopAt PG 106 0) (wpS8 n left l) (LO.ex (fun (r : List Int) => (Ex.exit 0, { tm := hd 35 [(7, SV.own 0)], mem := [pB r] })) (wp8 n left l)) (LO.st (fun (r : Int × List Int) => wpS8 n r.fst r.snd) (fun (r : List Int) => (Ex.exit 0, { tm := hd 35 [(7, SV.own 0)], mem := [pB r] })) (wp8 n left l)) := by
  unfold wp8
  cases h1 : decide (IntKind.i64.wrap (left - 1) < 8)
  · exact al_of {path := [true, false], orc := [], eds := [Ed.keep [1, 7, 8], Ed.re [2], Ed.unlit], says := [.row 0 (rowB (l ++ [IntKind.u8.wrap 0]))]}
      (.cons h <| .cons h1 <| .cons (by simp [rowP, rowC, rowB, rowI, rowO]; omega : ((rowB l).length + (1 : Nat)) * (1 : Nat) ≤ (140737488355328 : Nat)) <| .cons ((all_cons rfl all_nil) : ∀ el ∈ [[D.v (Value.int IntKind.u8 (IntKind.u8.wrap 0))]], el.length = 1) <| .cons (row_app Bf l ([IntKind.u8.wrap 0])) <| .nil) (by kernel_rfl)
  · exact al_of {path := [true, true], orc := [], eds := [Ed.keep [1, 7, 8], Ed.re [2], Ed.unlit], says := [.row 0 (rowB (l ++ [IntKind.u8.wrap ((IntKind.u64.wrap n).fdiv (2 ^ min (IntKind.i64.wrap (8 * IntKind.i64.wrap (left - 1))).toNat 64))]))]}
      (.cons h <| .cons h1 <| .cons hs <| .cons (by simp [rowP, rowC, rowB, rowI, rowO]; omega : ((rowB l).length + [[D.v (Value.int IntKind.u8 (IntKind.u8.wrap ((IntKind.u64.wrap n).fdiv ((2 : Int) ^ min (IntKind.i64.wrap ((8 : Int) * IntKind.i64.wrap (left - (1 : Int)))).toNat (64 : Nat)))))]].length) * (1 : Nat) ≤ (140737488355328 : Nat)) <| .cons ((all_cons rfl all_nil) : ∀ el ∈ [[D.v (Value.int IntKind.u8 (IntKind.u8.wrap ((IntKind.u64.wrap n).fdiv (2 ^ min (IntKind.i64.wrap (8 * IntKind.i64.wrap (left - 1))).toNat 64))))]], el.length = 1) <| .cons (row_app Bf l ([IntKind.u8.wrap ((IntKind.u64.wrap n).fdiv (2 ^ min (IntKind.i64.wrap (8 * IntKind.i64.wrap (left - 1))).toNat 64))])) <| .nil) (by kernel_rfl)
def wpe8 (n left : Int) (l : List Int) : LO (Int × List Int) (List Int) := .leave (l)
theorem wpe8_al (n left : Int) (l : List Int) (h : decide (left > 0) = false) : AL PG GL 0 (loopAt PG 106 0) (wpS8 n left l) (LO.ex (fun (r : List Int) => (Ex.exit 0, { tm := hd 35 [(7, SV.own 0)], mem := [pB r] })) (wpe8 n left l)) (LO.st (fun (r : Int × List Int) => wpS8 n r.fst r.snd) (fun (r : List Int) => (Ex.exit 0, { tm := hd 35 [(7, SV.own 0)], mem := [pB r] })) (wpe8 n left l)) := by
  unfold wpe8
  exact al_of {path := [false], orc := [], eds := [Ed.keep [7], Ed.re [0], Ed.unlit]}
    (.cons h <| .nil) (by kernel_rfl)
theorem wp8_ale (n : Int) : ∀ (m : Nat) (l : List Int), m ≤ 8 → l.length + m ≤ 1000000 → ALE 0 (loopAt PG 106 0) (wpS8 n m l) (.exit 0) ⟨hd 35 [(7, .own 0)], [pB (l ++ putL (IntKind.u64.wrap n) m)]⟩
  | 0, l, _, _ => by
    have h := wpe8_al n ((0 : Nat) : Int) l zero_f
    simp only [putL, List.append_nil]
    exact ALE.stop h (by simp [wpe8, LO.ex])
  | m + 1, l, hm, hl => by
    have h := wp8_al n ((m + 1 : Nat) : Int) l (by omega) (wp_pos hm) (wp_nn hm)
    have e : wp8 n ((m + 1 : Nat) : Int) l = .next ((m : Int), l ++ [byteAt (IntKind.u64.wrap n) m]) := by
      unfold wp8 byteAt
      simp only [wp_left hm, wp_sh hm, wp_min hm, wp_lt hm, cond_true]
    rw [e] at h
    have ih := wp8_ale n m (l ++ [byteAt (IntKind.u64.wrap n) m]) (by omega) (by simp; omega)
    rw [List.append_assoc, List.singleton_append] at ih
    exact ALE.round h ih
def wput8 (b : List Int) (n : Int) (m : Nat) (r : List Int) : List Int := r
theorem wput8_pre (b : List Int) (n : Int) (m : Nat) (hb : b.length ≤ 1000000) (r : List Int) (hlp : AL PG GL 0 (.loop (loopAt PG 106 0)) (wpS8 n m b) (.exit 0) ⟨hd 35 [(7, .own 0)], [pB r]⟩) : AC PG GL 106 [AD.one (D.row (rowB b)), AD.one (dI IntKind.u8 n), AD.one (dI IntKind.i64 (↑m : Int))] [] (sB (wput8 b n m r)) [] := by
  unfold wput8
  exact ac_of {path := [], orc := [], ls := [{ eds := [Ed.keep [1, 7, 8], Ed.re [1], Ed.unlit], ex := Ex.exit 0, post := { tm := hd 35 [(7, SV.own 0)], mem := [pB r] } }], eds := [Ed.at_ (Pl.t 0) Act'.exp, Ed.re [], Ed.unlit]}
    (.cons (by simp [rowP, rowC, rowB, rowI, rowO]; omega : ((0 : Nat) + (rowB b).length) * (1 : Nat) ≤ (140737488355328 : Nat)) <| .cons (row_all (f := Bf) (l := b) (fun _ => rfl) : ∀ el ∈ rowB b, el.length = 1) <| .cons hlp <| .nil) (by kernel_rfl)
/-! treeline/api.BridgeId -/
def wpSB (n left : Int) (l : List Int) : St := ⟨hd 34 [(1, vI .u64 n), (7, .own 0), (8, vI .i64 left)], [pB l]⟩
def wpB (n left : Int) (l : List Int) : LO (Int × List Int) (List Int) := bif decide (IntKind.i64.wrap (left - 1) < 8) then .next ((IntKind.i64.wrap (left - 1), l ++ [IntKind.u8.wrap (n.fdiv (2 ^ min (IntKind.i64.wrap (8 * IntKind.i64.wrap (left - 1))).toNat 64))])) else .next ((IntKind.i64.wrap (left - 1), l ++ [IntKind.u8.wrap 0]))
theorem wpB_al (n left : Int) (l : List Int) (hl : l.length ≤ 1000000) (h : decide (left > 0) = true) (hs : 0 ≤ IntKind.i64.wrap (8 * IntKind.i64.wrap (left - 1))) : AL PG GL 0 (loopAt PG 108 0) (wpSB n left l) (LO.ex (fun (r : List Int) => (Ex.exit 0, { tm := hd 34 [(7, SV.own 0)], mem := [pB r] })) (wpB n left l)) (LO.st (fun (r : Int × List Int) => wpSB n r.fst r.snd) (fun (r : List Int) => (Ex.exit 0, { tm := hd 34 [(7, SV.own 0)], mem := [pB r] })) (wpB n left l)) := by
  unfold wpB
  cases h1 : decide (IntKind.i64.wrap (left - 1) < 8)
  · exact al_of {path := [true, false], orc := [], eds := [Ed.keep [1, 7, 8], Ed.re [2], Ed.unlit], says := [.row 0 (rowB (l ++ [IntKind.u8.wrap 0]))]}
      (.cons h <| .cons h1 <| .cons (by simp [rowP, rowC, rowB, rowI, rowO]; omega : ((rowB l).length + (1 : Nat)) * (1 : Nat) ≤ (140737488355328 : Nat)) <| .cons ((all_cons rfl all_nil) : ∀ el ∈ [[D.v (Value.int IntKind.u8 (IntKind.u8.wrap 0))]], el.length = 1) <| .cons (row_app Bf l ([IntKind.u8.wrap 0])) <| .nil) (by kernel_rfl)
  · exact al_of {path := [true, true], orc := [], eds := [Ed.keep [1, 7, 8], Ed.re [2], Ed.unlit], says := [.row 0 (rowB (l ++ [IntKind.u8.wrap (n.fdiv (2 ^ min (IntKind.i64.wrap (8 * IntKind.i64.wrap (left - 1))).toNat 64))]))]}
      (.cons h <| .cons h1 <| .cons hs <| .cons (by simp [rowP, rowC, rowB, rowI, rowO]; omega : ((rowB l).length + [[D.v (Value.int IntKind.u8 (IntKind.u8.wrap (n.fdiv ((2 : Int) ^ min (IntKind.i64.wrap ((8 : Int) * IntKind.i64.wrap (left - (1 : Int)))).toNat (64 : Nat)))))]].length) * (1 : Nat) ≤ (140737488355328 : Nat)) <| .cons ((all_cons rfl all_nil) : ∀ el ∈ [[D.v (Value.int IntKind.u8 (IntKind.u8.wrap (n.fdiv (2 ^ min (IntKind.i64.wrap (8 * IntKind.i64.wrap (left - 1))).toNat 64))))]], el.length = 1) <| .cons (row_app Bf l ([IntKind.u8.wrap (n.fdiv (2 ^ min (IntKind.i64.wrap (8 * IntKind.i64.wrap (left - 1))).toNat 64))])) <| .nil) (by kernel_rfl)
def wpeB (n left : Int) (l : List Int) : LO (Int × List Int) (List Int) := .leave (l)
theorem wpeB_al (n left : Int) (l : List Int) (h : decide (left > 0) = false) : AL PG GL 0 (loopAt PG 108 0) (wpSB n left l) (LO.ex (fun (r : List Int) => (Ex.exit 0, { tm := hd 34 [(7, SV.own 0)], mem := [pB r] })) (wpeB n left l)) (LO.st (fun (r : Int × List Int) => wpSB n r.fst r.snd) (fun (r : List Int) => (Ex.exit 0, { tm := hd 34 [(7, SV.own 0)], mem := [pB r] })) (wpeB n left l)) := by
  unfold wpeB
  exact al_of {path := [false], orc := [], eds := [Ed.keep [7], Ed.re [0], Ed.unlit]}
    (.cons h <| .nil) (by kernel_rfl)
theorem wpB_ale (n : Int) : ∀ (m : Nat) (l : List Int), m ≤ 8 → l.length + m ≤ 1000000 → ALE 0 (loopAt PG 108 0) (wpSB n m l) (.exit 0) ⟨hd 34 [(7, .own 0)], [pB (l ++ putL n m)]⟩
  | 0, l, _, _ => by
    have h := wpeB_al n ((0 : Nat) : Int) l zero_f
    simp only [putL, List.append_nil]
    exact ALE.stop h (by simp [wpeB, LO.ex])
  | m + 1, l, hm, hl => by
    have h := wpB_al n ((m + 1 : Nat) : Int) l (by omega) (wp_pos hm) (wp_nn hm)
    have e : wpB n ((m + 1 : Nat) : Int) l = .next ((m : Int), l ++ [byteAt n m]) := by
      unfold wpB byteAt
      simp only [wp_left hm, wp_sh hm, wp_min hm, wp_lt hm, cond_true]
    rw [e] at h
    have ih := wpB_ale n m (l ++ [byteAt n m]) (by omega) (by simp; omega)
    rw [List.append_assoc, List.singleton_append] at ih
    exact ALE.round h ih
def wputB (b : List Int) (n : Int) (m : Nat) (r : List Int) : List Int := r
theorem wputB_pre (b : List Int) (n : Int) (m : Nat) (hb : b.length ≤ 1000000) (r : List Int) (hlp : AL PG GL 0 (.loop (loopAt PG 108 0)) (wpSB n m b) (.exit 0) ⟨hd 34 [(7, .own 0)], [pB r]⟩) : AC PG GL 108 [AD.one (D.row (rowB b)), AD.one (dI IntKind.u64 n), AD.one (dI IntKind.i64 (↑m : Int))] [] (sB (wputB b n m r)) [] := by
  unfold wputB
  exact ac_of {path := [], orc := [], ls := [{ eds := [Ed.keep [1, 7, 8], Ed.re [1], Ed.unlit], ex := Ex.exit 0, post := { tm := hd 34 [(7, SV.own 0)], mem := [pB r] } }], eds := [Ed.at_ (Pl.t 0) Act'.exp, Ed.re [], Ed.unlit]}
    (.cons (by simp [rowP, rowC, rowB, rowI, rowO]; omega : ((0 : Nat) + (rowB b).length) * (1 : Nat) ≤ (140737488355328 : Nat)) <| .cons (row_all (f := Bf) (l := b) (fun _ => rfl) : ∀ el ∈ rowB b, el.length = 1) <| .cons hlp <| .nil) (by kernel_rfl)
/-! uint16 -/
def wpS16 (n left : Int) (l : List Int) : St := ⟨hd 35 [(1, vI .u16 n), (7, .own 0), (8, vI .i64 left)], [pB l]⟩
def wp16 (n left : Int) (l : List Int) : LO (Int × List Int) (List Int) := bif decide (IntKind.i64.wrap (left - 1) < 8) then .next ((IntKind.i64.wrap (left - 1), l ++ [IntKind.u8.wrap ((IntKind.u64.wrap n).fdiv (2 ^ min (IntKind.i64.wrap (8 * IntKind.i64.wrap (left - 1))).toNat 64))])) else .next ((IntKind.i64.wrap (left - 1), l ++ [IntKind.u8.wrap 0]))
theorem wp16_al (n left : Int) (l : List Int) (hl : l.length ≤ 1000000) (h : decide (left > 0) = true) (hs : 0 ≤ IntKind.i64.wrap (8 * IntKind.i64.wrap (left - 1))) : AL PG GL 0 (loopAt PG 109 0) (wpS16 n left l) (LO.ex (fun (r : List Int) => (Ex.exit 0, { tm := hd 35 [(7, SV.own 0)], mem := [pB r] })) (wp16 n left l)) (LO.st (fun (r : Int × List Int) => wpS16 n r.fst r.snd) (fun (r : List Int) => (Ex.exit 0, { tm := hd 35 [(7, SV.own 0)], mem := [pB r] })) (wp16 n left l)) := by
  unfold wp16
  cases h1 : decide (IntKind.i64.wrap (left - 1) < 8)
  · exact al_of {path := [true, false], orc := [], eds := [Ed.keep [1, 7, 8], Ed.re [2], Ed.unlit], says := [.row 0 (rowB (l ++ [IntKind.u8.wrap 0]))]}
      (.cons h <| .cons h1 <| .cons (by simp [rowP, rowC, rowB, rowI, rowO]; omega : ((rowB l).length + (1 : Nat)) * (1 : Nat) ≤ (140737488355328 : Nat)) <| .cons ((all_cons rfl all_nil) : ∀ el ∈ [[D.v (Value.int IntKind.u8 (IntKind.u8.wrap 0))]], el.length = 1) <| .cons (row_app Bf l ([IntKind.u8.wrap 0])) <| .nil) (by kernel_rfl)
  · exact al_of {path := [true, true], orc := [], eds := [Ed.keep [1, 7, 8], Ed.re [2], Ed.unlit], says := [.row 0 (rowB (l ++ [IntKind.u8.wrap ((IntKind.u64.wrap n).fdiv (2 ^ min (IntKind.i64.wrap (8 * IntKind.i64.wrap (left - 1))).toNat 64))]))]}
      (.cons h <| .cons h1 <| .cons hs <| .cons (by simp [rowP, rowC, rowB, rowI, rowO]; omega : ((rowB l).length + [[D.v (Value.int IntKind.u8 (IntKind.u8.wrap ((IntKind.u64.wrap n).fdiv ((2 : Int) ^ min (IntKind.i64.wrap ((8 : Int) * IntKind.i64.wrap (left - (1 : Int)))).toNat (64 : Nat)))))]].length) * (1 : Nat) ≤ (140737488355328 : Nat)) <| .cons ((all_cons rfl all_nil) : ∀ el ∈ [[D.v (Value.int IntKind.u8 (IntKind.u8.wrap ((IntKind.u64.wrap n).fdiv (2 ^ min (IntKind.i64.wrap (8 * IntKind.i64.wrap (left - 1))).toNat 64))))]], el.length = 1) <| .cons (row_app Bf l ([IntKind.u8.wrap ((IntKind.u64.wrap n).fdiv (2 ^ min (IntKind.i64.wrap (8 * IntKind.i64.wrap (left - 1))).toNat 64))])) <| .nil) (by kernel_rfl)
def wpe16 (n left : Int) (l : List Int) : LO (Int × List Int) (List Int) := .leave (l)
theorem wpe16_al (n left : Int) (l : List Int) (h : decide (left > 0) = false) : AL PG GL 0 (loopAt PG 109 0) (wpS16 n left l) (LO.ex (fun (r : List Int) => (Ex.exit 0, { tm := hd 35 [(7, SV.own 0)], mem := [pB r] })) (wpe16 n left l)) (LO.st (fun (r : Int × List Int) => wpS16 n r.fst r.snd) (fun (r : List Int) => (Ex.exit 0, { tm := hd 35 [(7, SV.own 0)], mem := [pB r] })) (wpe16 n left l)) := by
  unfold wpe16
  exact al_of {path := [false], orc := [], eds := [Ed.keep [7], Ed.re [0], Ed.unlit]}
    (.cons h <| .nil) (by kernel_rfl)
theorem wp16_ale (n : Int) : ∀ (m : Nat) (l : List Int), m ≤ 8 → l.length + m ≤ 1000000 → ALE 0 (loopAt PG 109 0) (wpS16 n m l) (.exit 0) ⟨hd 35 [(7, .own 0)], [pB (l ++ putL (IntKind.u64.wrap n) m)]⟩
  | 0, l, _, _ => by
    have h := wpe16_al n ((0 : Nat) : Int) l zero_f
    simp only [putL, List.append_nil]
    exact ALE.stop h (by simp [wpe16, LO.ex])
  | m + 1, l, hm, hl => by
    have h := wp16_al n ((m + 1 : Nat) : Int) l (by omega) (wp_pos hm) (wp_nn hm)
    have e : wp16 n ((m + 1 : Nat) : Int) l = .next ((m : Int), l ++ [byteAt (IntKind.u64.wrap n) m]) := by
      unfold wp16 byteAt
      simp only [wp_left hm, wp_sh hm, wp_min hm, wp_lt hm, cond_true]
    rw [e] at h
    have ih := wp16_ale n m (l ++ [byteAt (IntKind.u64.wrap n) m]) (by omega) (by simp; omega)
    rw [List.append_assoc, List.singleton_append] at ih
    exact ALE.round h ih
def wput16 (b : List Int) (n : Int) (m : Nat) (r : List Int) : List Int := r
theorem wput16_pre (b : List Int) (n : Int) (m : Nat) (hb : b.length ≤ 1000000) (r : List Int) (hlp : AL PG GL 0 (.loop (loopAt PG 109 0)) (wpS16 n m b) (.exit 0) ⟨hd 35 [(7, .own 0)], [pB r]⟩) : AC PG GL 109 [AD.one (D.row (rowB b)), AD.one (dI IntKind.u16 n), AD.one (dI IntKind.i64 (↑m : Int))] [] (sB (wput16 b n m r)) [] := by
  unfold wput16
  exact ac_of {path := [], orc := [], ls := [{ eds := [Ed.keep [1, 7, 8], Ed.re [1], Ed.unlit], ex := Ex.exit 0, post := { tm := hd 35 [(7, SV.own 0)], mem := [pB r] } }], eds := [Ed.at_ (Pl.t 0) Act'.exp, Ed.re [], Ed.unlit]}
    (.cons (by simp [rowP, rowC, rowB, rowI, rowO]; omega : ((0 : Nat) + (rowB b).length) * (1 : Nat) ≤ (140737488355328 : Nat)) <| .cons (row_all (f := Bf) (l := b) (fun _ => rfl) : ∀ el ∈ rowB b, el.length = 1) <| .cons hlp <| .nil) (by kernel_rfl)
theorem wput32_ac (b : List Int) (n : Int) (m : Nat) (hb : b.length ≤ 900000) (hm : m ≤ 8) : CX 105 [.one (.row (rowB b)), .one (dI .u32 n), .one (dI .i64 m)] (sB (b ++ putL (IntKind.u64.wrap n) m)) :=
  wput32_pre b n m (by omega) (b ++ putL (IntKind.u64.wrap n) m) (wp32_ale n m b hm (by omega)).al
theorem wput8_ac (b : List Int) (n : Int) (m : Nat) (hb : b.length ≤ 900000) (hm : m ≤ 8) : CX 106 [.one (.row (rowB b)), .one (dI .u8 n), .one (dI .i64 m)] (sB (b ++ putL (IntKind.u64.wrap n) m)) :=
  wput8_pre b n m (by omega) (b ++ putL (IntKind.u64.wrap n) m) (wp8_ale n m b hm (by omega)).al
theorem wputB_ac (b : List Int) (n : Int) (m : Nat) (hb : b.length ≤ 900000) (hm : m ≤ 8) : CX 108 [.one (.row (rowB b)), .one (dI .u64 n), .one (dI .i64 m)] (sB (b ++ putL n m)) :=
  wputB_pre b n m (by omega) (b ++ putL n m) (wpB_ale n m b hm (by omega)).al
theorem wput16_ac (b : List Int) (n : Int) (m : Nat) (hb : b.length ≤ 900000) (hm : m ≤ 8) : CX 109 [.one (.row (rowB b)), .one (dI .u16 n), .one (dI .i64 m)] (sB (b ++ putL (IntKind.u64.wrap n) m)) :=
  wput16_pre b n m (by omega) (b ++ putL (IntKind.u64.wrap n) m) (wp16_ale n m b hm (by omega)).al
end Go.Proofs.YtdffdnbkinpbiaaDoor
