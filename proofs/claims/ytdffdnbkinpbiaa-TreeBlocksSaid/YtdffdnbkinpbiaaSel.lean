import Derived.Test.YtdffdnbkinpbiaaConf
set_option linter.unusedVariables false
set_option linter.unusedSimpArgs false
namespace Go.Proofs.Ytdffdnbkinpbiaa
open Go Go.RowKit Sx

/-! tree.Select -/
def tree0 : Tree := ⟨0, 0, 0, 0, ⟨0, 0, 0⟩, ⟨0, 0, 0⟩, false, false, timer0, timer0, timer0, []⟩
def portAt (l : List Port) (i : Int) : Port := (l[i.toNat]?).getD (port0 0 0)
theorem portAt_get {l : List Port} {i : Int} (h0 : 0 ≤ i) (h1 : i < (l.length : Int)) : (rowP l)[i.toNat]? = some (portAt l i).ds := by
  have h : i.toNat < l.length := by omega
  simp [rowP, portAt, h]
theorem portAt_nat {l : List Port} {i : Nat} {p : Port} (h : l[i]? = some p) : portAt l (i : Int) = p := by simp [portAt, h]
theorem rowP_lt {l : List Port} {i : Int} (h : i < (l.length : Int)) : i < ((rowP l).length : Int) := by simpa [rowP] using h
def selStep (own : Int) (l : List Port) (rp : Int) (i : Nat) (p : Port) : Int :=
  bif candidate own p then bif decide (rp < 0) then (i : Int) else bif better p (portAt l rp) then (i : Int) else rp else rp
def selRP (own : Int) (l : List Port) : Nat → Int
  | 0 => -1
  | n + 1 => match l[n]? with
    | some p => selStep own l (selRP own l n) n p
    | none => selRP own l n
theorem selStep_or (own : Int) (l : List Port) (rp : Int) (i : Nat) (p : Port) : selStep own l rp i p = rp ∨ selStep own l rp i p = i := by
  unfold selStep
  cases candidate own p <;> cases decide (rp < 0) <;> cases better p (portAt l rp) <;> simp
theorem selRP_range (own : Int) (l : List Port) : ∀ n, selRP own l n < 0 ∨ (0 ≤ selRP own l n ∧ selRP own l n < n ∧ selRP own l n < l.length)
  | 0 => .inl (by simp [selRP])
  | n + 1 => by
    have ih := selRP_range own l n
    simp only [selRP]
    cases h : l[n]? with
    | none => simp only; omega
    | some p =>
      have hn : n < l.length := (List.getElem?_eq_some_iff.1 h).1
      simp only
      rcases selStep_or own l (selRP own l n) n p with e | e <;> rw [e] <;> omega
def selS (t : Tree) (i : Nat) (rp : Int) : St :=
  ⟨hd 62 [(1, .ptr 0 0), (2, .ptr 1 0), (8, .d (.row (rowP t.ports))), (9, vI .i64 t.ports.length), (10, vI .i64 i)], [.box (tSV { t with rootPort := rp } (.d (.row (rowP t.ports)))), .box (tSV tree0 (.d .nil))]⟩
abbrev selE : List Ed := [.keep [1, 2, 8, 9, 10], .re [0, 1], .unlit]
theorem free_sel1 : staticOk (opsAt PG 14 5) = true := by kernel_rfl
theorem free_sel2 : staticOk (opsAt PG 14 12) = true := by kernel_rfl
theorem sel_step (t : Tree) (hl : t.ports.length ≤ 1000000) {i : Nat} (h : i < t.ports.length) {p : Port} (hp : t.ports[i]? = some p) (rp : Int) (hr : rp < 0 ∨ (0 ≤ rp ∧ rp < t.ports.length)) :
    AL PG GL 0 (loopAt PG 14 0) (selS t i rp) .normal (selS t (i + 1) (selStep t.own t.ports rp i p)) := by
  unfold selStep
  have hc := candidate_ac { t with rootPort := rp } p
  cases h1 : candidate t.own p
  · exact al_of {path := [true, false], orc := [.elem p.ds, cal (vB (candidate t.own p))], eds := selE, says := [.d (.t 10) (dI .i64 (i + 1 : Nat))]}
      (.cons (lt_t h) (.cons (nn i) (.cons (row_lt (f := Port.ds) h) (.cons (row_get (f := Port.ds) hp) (.cons free_sel1 <| .cons hc (.cons h1 (.cons (next_i h (by omega)) .nil))))))) (by kernel_rfl)
  · cases h2 : decide (rp < 0)
    · have hr' : 0 ≤ rp ∧ rp < t.ports.length := by
        rcases hr with hr | hr
        · simp at h2; omega
        · exact hr
      cases h3 : better p (portAt t.ports rp)
      · exact al_of {path := [true, true, false, false], orc := [.elem p.ds, cal (vB (candidate t.own p)), .elem (portAt t.ports rp).ds, cal (vB (better p (portAt t.ports rp)))], eds := selE, says := [.d (.t 10) (dI .i64 (i + 1 : Nat))]}
          (.cons (lt_t h) (.cons (nn i) (.cons (row_lt (f := Port.ds) h) (.cons (row_get (f := Port.ds) hp) (.cons free_sel1 <| .cons hc (.cons h1 (.cons h2 (.cons hr'.1 (.cons (rowP_lt hr'.2) (.cons (portAt_get hr'.1 hr'.2) (.cons (better_ac p (portAt t.ports rp)) (.cons h3 (.cons (next_i h (by omega)) .nil))))))))))))) (by kernel_rfl)
      · exact al_of {path := [true, true, false, true], orc := [.elem p.ds, cal (vB (candidate t.own p)), .elem (portAt t.ports rp).ds, cal (vB (better p (portAt t.ports rp)))], eds := selE, says := [.d (.t 10) (dI .i64 (i + 1 : Nat))]}
          (.cons (lt_t h) (.cons (nn i) (.cons (row_lt (f := Port.ds) h) (.cons (row_get (f := Port.ds) hp) (.cons free_sel1 <| .cons hc (.cons h1 (.cons h2 (.cons hr'.1 (.cons (rowP_lt hr'.2) (.cons (portAt_get hr'.1 hr'.2) (.cons (better_ac p (portAt t.ports rp)) (.cons h3 (.cons (next_i h (by omega)) .nil))))))))))))) (by kernel_rfl)
    · exact al_of {path := [true, true, true], orc := [.elem p.ds, cal (vB (candidate t.own p))], eds := selE, says := [.d (.t 10) (dI .i64 (i + 1 : Nat))]}
        (.cons (lt_t h) (.cons (nn i) (.cons (row_lt (f := Port.ds) h) (.cons (row_get (f := Port.ds) hp) (.cons free_sel1 <| .cons hc (.cons h1 (.cons h2 (.cons (next_i h (by omega)) .nil)))))))) (by kernel_rfl)
def selQ (t : Tree) (rp : Int) : St := ⟨hd 62 [(1, .ptr 0 0), (2, .ptr 1 0)], [.box (tSV { t with rootPort := rp } (.d (.row (rowP t.ports)))), .box (tSV tree0 (.d .nil))]⟩
theorem sel_loop (t : Tree) (hl : t.ports.length ≤ 1000000) : AL PG GL 0 (.loop (loopAt PG 14 0)) (selS t 0 (-1)) (.exit 0) (selQ t (selRP t.own t.ports t.ports.length)) := by
  refine al_loop (n := t.ports.length) (fun i => selS t i (selRP t.own t.ports i)) (by simp) (fun i hi => ?_) ?_
  · obtain ⟨p, hp⟩ := some_at (l := t.ports) (i := i) hi
    have hs : selRP t.own t.ports (i + 1) = selStep t.own t.ports (selRP t.own t.ports i) i p := by simp [selRP, hp]
    show AL _ _ _ _ (selS t i (selRP t.own t.ports i)) _ (selS t (i + 1) (selRP t.own t.ports (i + 1)))
    rw [hs]
    refine sel_step t hl hi hp _ ?_
    have := selRP_range t.own t.ports i
    omega
  · exact al_of {path := [false], eds := [.keep [1, 2], .re [0, 1], .unlit]} (.cons (lt_ff t.ports.length) .nil) (by kernel_rfl)
def select (t : Tree) : Tree :=
  bif decide (selRP t.own t.ports t.ports.length < 0) then { t with rootPort := selRP t.own t.ports t.ports.length, root := t.own, cost := 0 }
  else { t with rootPort := selRP t.own t.ports t.ports.length, root := (portAt t.ports (selRP t.own t.ports t.ports.length)).held.root, cost := far (portAt t.ports (selRP t.own t.ports t.ports.length)).held.cost (portAt t.ports (selRP t.own t.ports t.ports.length)).cost }
theorem select_ac (t : Tree) (hl : t.ports.length ≤ 1000000) : CX 14 [.agg t.ds] (sA (select t).ds) := by
  have hlp := sel_loop t hl
  have hrg := selRP_range t.own t.ports t.ports.length
  unfold select
  generalize selRP t.own t.ports t.ports.length = rp at *
  cases h : decide (rp < 0)
  · have hr' : 0 ≤ rp ∧ rp < t.ports.length := by
      simp at h
      omega
    exact ac_of {path := [false], orc := [.elem (portAt t.ports rp).ds, cal (vI .u32 (far (portAt t.ports rp).held.cost (portAt t.ports rp).cost))], ls := [⟨selE, [.d (.t 9) (dI .i64 t.ports.length)], .exit 0, selQ t rp⟩]}
      (.cons (row_len Port.ds t.ports) (.cons hlp (.cons h (.cons hr'.1 (.cons (rowP_lt hr'.2) (.cons (portAt_get hr'.1 hr'.2) (.cons free_sel2 <| .cons (far_ac (portAt t.ports rp).held.cost (portAt t.ports rp).cost) .nil))))))) (by kernel_rfl)
  · exact ac_of {path := [true], ls := [⟨selE, [.d (.t 9) (dI .i64 t.ports.length)], .exit 0, selQ t rp⟩]}
      (.cons (row_len Port.ds t.ports) (.cons hlp (.cons h .nil))) (by kernel_rfl)
end Go.Proofs.Ytdffdnbkinpbiaa
