import Derived.Test.YtdffdnbkinpbiaaShp
set_option linter.unusedVariables false
set_option maxRecDepth 100000
namespace Go.Proofs.Ytdffdnbkinpbiaa
open Go Go.RowKit Sx
/-! A law that is handed a view -/
theorem one_tree {f : FuncId} {ps : List TypeId} (hp : ps = [31]) (h : ∀ t : Tree, t.ok → CX f [.agg t.ds] (vB true)) (xs : List (List D)) (hx : ShpAll PG 8 ps xs) : AC PG GL f (adAll PG ps xs) [] (vB true) [] := by
  subst hp
  match xs, hx with
  | [x], hx =>
    obtain ⟨t, ht, rfl⟩ := shp_tree (n := 3) hx.1
    have hs : isStr PG 31 = true := by
      unfold isStr
      rw [Try.underlying31]
    simp only [adAll, adOf, hs, if_true]
    exact h t ht
  | [], hx => exact hx.elim
  | [_, _], hx => exact hx.2.elim
  | _ :: _ :: _ :: _, hx => exact hx.2.elim
end Go.Proofs.Ytdffdnbkinpbiaa
