import Derived.Test.YtdffdnbkinpbiaaDoorShp
import Derived.Test.YtdffdnbkinpbiaaDoorRows
import Derived.Test.YtdffdnbkinpbiaaDoorTie
import Derived.ProofKit
import Derived.LaidMore
import Derived.OpenShut
set_option linter.unusedVariables false
set_option linter.unusedSimpArgs false
set_option maxRecDepth 100000
namespace Go.Proofs.YtdffdnbkinpbiaaDoor
open Go Go.ChangeShapes Go.WideShapes Go.ChangeAt Go.WideMaps Go.WideElems Go.RowKit Sx

/-! What the condition on the package's one listed variable gives -/
theorem ownK : ownKnob Tryd.prog.godebug = none := by kernel_rfl
theorem gLlc : Tryd.prog.globalNamed "treeline/frame.llc" = some 0 := by kernel_rfl
theorem tLlc : (Tryd.prog.globals[0]?).map (·.type) = some 83 := by kernel_rfl
theorem laidB : laidOutB Tryd.prog = true := by kernel_rfl
abbrev laidL : List (String × DataW Unit) := [("treeline/frame.llc", Rows.laid_treeline_frame_llc)]
theorem door_met (os : Os) (args : Array Value) : laidMetH Tryd.prog laidL ((World.doorLaid Tryd.prog 14 os).forCall (fun _ _ => 0) ⟨#[], args, []⟩).memory :=
  laidMetH_of_parts3 (fuel := 8) (laidMet_of_run' 8 (by kernel_rfl) (by kernel_rfl)) (by kernel_rfl) (by kernel_rfl)
theorem of_laid {W : World} (h : laidMetH Tryd.prog laidL W) : ∀ x, x ∈ GL → x.1 < W.heap.size ∧ ∃ vs, DrL W (fun b => b < W.heap.size) x.2 vs ∧ ∀ (j : Nat) (y : Value), vs[j]? = some y → W.cell? ⟨x.1, j, none⟩ = some y := by
  rw [MakeChecks.laidMetH_plain _ _ _ (by kernel_rfl)] at h
  obtain ⟨ps, ⟨g0, t0, cs0, f0, p0, q0, hg0, ht0, hv0, hd0, _⟩, _, _⟩ := h
  obtain rfl := Option.some.inj (gLlc.symm.trans hg0)
  obtain rfl := Option.some.inj (tLlc.symm.trans ht0)
  obtain ⟨xs, m1, rfl, hx1, hlen, hn3, hel⟩ := DataW.trod_array Tryd.underlying83 hd0
  have c3 : Tryd.prog.cellsOf 5 = 1 := by kernel_rfl
  have c24 : Tryd.prog.cellsOf 83 = 3 := by kernel_rfl
  have h0 := hel 0 (by decide)
  have h1 := hel 1 (by decide)
  have h2 := hel 2 (by decide)
  simp only [Prod.mk.injEq, Rows.laid_treeline_frame_llc, DataW.agg.injEq] at hx1
  match xs, hn3, hx1, h0, h1, h2 with
  | [x0, x1, x2], _, hx1, h0, h1, h2 =>
    simp only [List.map_cons, List.map_nil, List.cons.injEq] at hx1
    obtain ⟨k0, e0, f0, _⟩ := DataW.trod_int Tryd.underlying5 (show DataW.trod _ Tryd.prog W 0 _ false m1 5 _ = some x0 from h0)
    obtain ⟨k1, e1, f1, _⟩ := DataW.trod_int Tryd.underlying5 (show DataW.trod _ Tryd.prog W 0 _ false m1 5 _ = some x1 from h1)
    obtain ⟨k2, e2, f2, _⟩ := DataW.trod_int Tryd.underlying5 (show DataW.trod _ Tryd.prog W 0 _ false m1 5 _ = some x2 from h2)
    have hk0 : k0 = 66 := by rw [f0] at hx1; simpa using hx1.1.1.symm
    have hk1 : k1 = 66 := by rw [f1] at hx1; simpa using hx1.1.2.1.symm
    have hk2 : k2 = 3 := by rw [f2] at hx1; simpa using hx1.1.2.2.1.symm
    subst hk0 hk1 hk2
    obtain ⟨l1⟩ := cs0
    rw [c3] at e0 e1 e2
    rw [c24] at hlen
    match l1, hlen, e0, e1, e2 with
    | [a, b, c], _, e0, e1, e2 =>
      simp at e0 e1 e2
      subst e0 e1 e2
      intro x hx
      simp only [GL, List.mem_singleton] at hx
      subst hx
      have hcell : ∀ i, W.cell? ⟨0, i, none⟩ = (#[Value.int .u8 66, .int .u8 66, .int .u8 3] : Array Value)[i]? := fun i => World.var?_cell hg0 hv0 i
      refine ⟨?_, [.int .u8 66, .int .u8 66, .int .u8 3], ?_, fun j y hy => ?_⟩
      · have h0 := hcell 0
        rcases Nat.lt_or_ge 0 W.heap.size with h | h
        · exact h
        · simp [World.cell?, Array.getElem?_eq_none h] at h0
      · simp only [DrL, Dr]
        exact ⟨_, _, rfl, ⟨rfl, rfl⟩, _, _, rfl, ⟨rfl, rfl⟩, _, _, rfl, ⟨rfl, rfl⟩, rfl⟩
      · rw [hcell]
        simpa using hy
end Go.Proofs.YtdffdnbkinpbiaaDoor
