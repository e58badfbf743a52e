import Derived.Test.YtdffdnbkinpbiaaDesig
set_option linter.unusedVariables false
set_option linter.unusedSimpArgs false
namespace Go.Proofs.Ytdffdnbkinpbiaa
open Go Go.RowKit Sx

section
variable {l l' : List Port} {i : Nat} {p q : Port}
theorem hf_lt (hl : l'.length = l.length) (h : i < l.length) : ((i : Nat) : Int) < ((rowP (half l l' i)).length : Int) := by
  simp [rowP, half_length hl]
  omega
theorem hf_nat (hl : l'.length = l.length) (h : i < l.length) : ((i : Nat) : Int).toNat < (rowP (half l l' i)).length := by
  simp [rowP, half_length hl]
  omega
theorem hf_get (hl : l'.length = l.length) (h : l[i]? = some p) : (rowP (half l l' i))[((i : Nat) : Int).toNat]? = some p.ds := by
  simp [rowP, half_get hl h]
theorem hf_set (hl : l'.length = l.length) (h : l'[i]? = some q) : (rowP (half l l' i)).set i q.ds = rowP (half l l' (i + 1)) := by
  unfold rowP
  rw [map_set, half_set hl h]
theorem hf_all (hl : l'.length = l.length) : rowP (half l l' l.length) = rowP l' := by rw [half_all hl]
theorem hf_zero (l l' : List Port) : rowP l = rowP (half l l' 0) := by rw [half_zero]
end
/-! tree.States -/
def quiet (p : Port) : Port := { p with pending := false, ack := false }
def stP (t : Tree) (i : Nat) (p : Port) : Port :=
  bif (i : Int) == t.rootPort then rise (quiet p) else bif designated p t.own then rise { p with age := ⟨false, 0⟩ } else (block (quiet p)).1
def stLost (t : Tree) (b : Bool) (i : Nat) (p : Port) : Bool :=
  bif (i : Int) == t.rootPort then b else bif designated p t.own then b else bif b then true else (block (quiet p)).2
def lostN (t : Tree) : Nat → Bool
  | 0 => false
  | n + 1 => match t.ports[n]? with
    | some p => stLost t (lostN t n) n p
    | none => lostN t n
def stPorts (t : Tree) : List Port := t.ports.mapIdx (stP t)
theorem stPorts_len (t : Tree) : (stPorts t).length = t.ports.length := by simp [stPorts]
def states (t : Tree) : Tree × Bool := ({ t with ports := stPorts t }, lostN t t.ports.length)
def stS (t : Tree) (i : Nat) (b : Bool) : St :=
  ⟨hd 55 [(1, .ptr 0 0), (2, .ptr 1 0), (4, vB b), (11, .own 2), (12, vI .i64 t.ports.length), (13, vI .i64 i)], [.box (tSV t (.own 2)), .box (tSV tree0 (.d .nil)), pRow (half t.ports (stPorts t) i)]⟩
def stQ (t : Tree) (b : Bool) : St :=
  ⟨hd 55 [(1, .ptr 0 0), (2, .ptr 1 0), (4, vB b)], [.box (tSV t (.own 2)), .box (tSV tree0 (.d .nil)), pRow (stPorts t)]⟩
abbrev stE : List Ed := [.keep [1, 2, 4, 11, 12, 13], .re [0, 1, 2], .unlit]
abbrev stSay (t : Tree) (i : Nat) : List Say := [.d (.t 13) (dI .i64 (i + 1 : Nat)), .row 2 (rowP (half t.ports (stPorts t) (i + 1)))]
theorem st_step (t : Tree) (hl : t.ports.length ≤ 1000000) {i : Nat} (h : i < t.ports.length) {p : Port} (hp : t.ports[i]? = some p) (b : Bool) :
    AL PG GL 0 (loopAt PG 7 0) (stS t i b) .normal (stS t (i + 1) (stLost t b i p)) := by
  have hL := stPorts_len t
  have q1 := lt_t h
  have q2 := nn i
  have q3 := hf_lt hL h
  have q4 := hf_get hL hp
  have q5 := next_i h (by omega)
  have q6 := designated_ac p t.own
  have q9 := hf_nat hL h
  have hP : (stPorts t)[i]? = some (stP t i p) := by simp [stPorts, hp]
  have q10 := hf_set hL hP
  unfold stLost
  unfold stP at q10
  cases h1 : (i : Int) == t.rootPort
  · rw [h1] at q10
    cases h2 : designated p t.own
    · rw [h2] at q10
      cases b
      · exact al_of {path := [true, false, false, false], orc := [.elem p.ds, cal (vB (designated p t.own)), cal (sPB (block (quiet p)))], eds := stE, says := stSay t i}
          (.cons q1 <| .cons q2 <| .cons q3 <| .cons q4 <| .cons h1 <| .cons q6 <| .cons h2 <| .cons (block_ac (quiet p)) <| .cons (rfl : false = false) <| .cons q2 <| .cons q3 <| .cons q9 <| .cons q5 <| .cons q10 <| .nil) (by kernel_rfl)
      · exact al_of {path := [true, false, false, true], orc := [.elem p.ds, cal (vB (designated p t.own)), cal (sPB (block (quiet p)))], eds := stE, says := stSay t i}
          (.cons q1 <| .cons q2 <| .cons q3 <| .cons q4 <| .cons h1 <| .cons q6 <| .cons h2 <| .cons (block_ac (quiet p)) <| .cons (rfl : true = true) <| .cons q2 <| .cons q3 <| .cons q9 <| .cons q5 <| .cons q10 <| .nil) (by kernel_rfl)
    · rw [h2] at q10
      exact al_of {path := [true, false, true], orc := [.elem p.ds, cal (vB (designated p t.own)), cal (sA (Timer.ds ⟨false, 0⟩)), cal (sA (rise { p with age := ⟨false, 0⟩ }).ds)], eds := stE, says := stSay t i}
        (.cons q1 <| .cons q2 <| .cons q3 <| .cons q4 <| .cons h1 <| .cons q6 <| .cons h2 <| .cons stop_ac <| .cons (rise_ac { p with age := ⟨false, 0⟩ }) <| .cons q2 <| .cons q3 <| .cons q9 <| .cons q5 <| .cons q10 <| .nil) (by kernel_rfl)
  · rw [h1] at q10
    exact al_of {path := [true, true], orc := [.elem p.ds, cal (sA (rise (quiet p)).ds)], eds := stE, says := stSay t i}
      (.cons q1 <| .cons q2 <| .cons q3 <| .cons q4 <| .cons h1 <| .cons (rise_ac (quiet p)) <| .cons q2 <| .cons q3 <| .cons q9 <| .cons q5 <| .cons q10 <| .nil) (by kernel_rfl)
theorem st_loop (t : Tree) (hl : t.ports.length ≤ 1000000) : AL PG GL 0 (.loop (loopAt PG 7 0)) (stS t 0 false) (.exit 0) (stQ t (lostN t t.ports.length)) := by
  refine al_loop (n := t.ports.length) (fun i => stS t i (lostN t i)) (by simp) (fun i hi => ?_) ?_
  · obtain ⟨p, hp⟩ := some_at (l := t.ports) (i := i) hi
    have hs : lostN t (i + 1) = stLost t (lostN t i) i p := by simp [lostN, hp]
    show AL _ _ _ _ (stS t i (lostN t i)) _ (stS t (i + 1) (lostN t (i + 1)))
    rw [hs]
    exact st_step t hl hi hp _
  · exact al_of {path := [false], eds := [.keep [1, 2, 4], .re [0, 1, 2], .unlit], says := [.row 2 (rowP (stPorts t))]} (.cons (lt_ff t.ports.length) <| .cons (hf_all (stPorts_len t)) <| .nil) (by kernel_rfl)
abbrev sTB (r : Tree × Bool) : SV := .tup [sA r.1.ds, vB r.2]
theorem states_ac (t : Tree) (hl : t.ports.length ≤ 1000000) : CX 7 [.agg t.ds] (sTB (states t)) :=
  ac_of {orc := [.call [] [] (.agg (tSV t (.own 0))) [pRow t.ports]], ls := [⟨stE, [.d (.t 12) (dI .i64 t.ports.length), .row 2 (rowP (half t.ports (stPorts t) 0))], .exit 0, stQ t (lostN t t.ports.length)⟩], eds := [.at_ (.ta 0 18) .exp, .re [], .unlit]}
    (.cons (copy_ac t hl) <| .cons (rowP_len t.ports) <| .cons (hf_zero t.ports (stPorts t)) <| .cons (st_loop t hl) <| .nil) (by kernel_rfl)
end Go.Proofs.Ytdffdnbkinpbiaa
