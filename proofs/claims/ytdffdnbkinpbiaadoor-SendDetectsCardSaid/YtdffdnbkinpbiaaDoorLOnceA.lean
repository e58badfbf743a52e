import Derived.Test.YtdffdnbkinpbiaaDoorLOnce
import Derived.Test.YtdffdnbkinpbiaaDoorShp
set_option linter.unusedVariables false
set_option maxRecDepth 100000
namespace Go.Proofs.YtdffdnbkinpbiaaDoor
open Go Go.RowKit Sx
theorem one_tree {f : FuncId} {ps : List TypeId} (hp : ps = [31]) (h : ∀ t : Tree, t.ok → CX f [.agg t.ds] (vB true)) (xs : List (List D)) (hx : ShpAll PG 8 ps xs) : AC PG GL f (adAll PG ps xs) [] (vB true) [] := by
  subst hp
  match xs, hx with
  | [x], hx =>
    obtain ⟨t, ht, rfl⟩ := shp_tree (n := 3) hx.1
    have hs : isStr PG 31 = true := by
      unfold isStr
      rw [Tryd.underlying31]
    simp only [adAll, adOf, hs, if_true]
    exact h t ht
  | [], hx => exact hx.elim
  | [_, _], hx => exact hx.2.elim
  | _ :: _ :: _ :: _, hx => exact hx.2.elim
theorem sendOnce_all (xs : List (List D)) (h : ShpAll PG 8 Tryd.f3.params.toList xs) : AC PG GL 3 (adAll PG Tryd.f3.params.toList xs) [] (vB true) [] :=
  one_tree (by rw [Tryd.params3]) (fun t _ => sendOnce_ac t) xs h
end Go.Proofs.YtdffdnbkinpbiaaDoor
