import Derived.Test.YtdffdnbkinpbiaaLib
import Derived.Test.YtdffdnbkinpbiaaLeaf
set_option linter.unusedVariables false
set_option linter.unusedSimpArgs false
namespace Go.Proofs.Ytdffdnbkinpbiaa
open Go Go.RowKit Sx

def rowI (l : List Int) : List (List D) := l.map fun n => [dI .i64 n]
def orI : List Int → Int
  | [] => 0
  | x :: xs => bif x != 0 then x else orI xs
theorem orI_at : ∀ (l : List Int) (n : Nat) (x : Int), l[n]? = some x → (x != 0) = true → (∀ (i : Nat) (y : Int), i < n → l[i]? = some y → (y != 0) = false) → orI l = x
  | [], n, x, h, _, _ => by simp at h
  | a :: l, n, x, h, hx, hb => by
    cases n with
    | zero =>
      simp at h
      subst h
      simp [orI, hx]
    | succ n =>
      have h0 := hb 0 a (by omega) (by simp)
      simp only [orI, h0, cond_false]
      exact orI_at l n x (by simpa using h) hx fun i y hi hy => hb (i + 1) y (by omega) (by simpa using hy)
theorem orI_none : ∀ (l : List Int), (∀ (i : Nat) (y : Int), l[i]? = some y → (y != 0) = false) → orI l = 0
  | [], _ => rfl
  | a :: l, hb => by
    have h0 := hb 0 a (by simp)
    simp only [orI, h0, cond_false]
    exact orI_none l fun i y hy => hb (i + 1) y (by simpa using hy)
def orS (l : List Int) (i : Nat) : St := ⟨hd 18 [(3, vI .i64 0), (6, .d (.row (rowI l))), (7, vI .i64 l.length), (8, vI .i64 i)], []⟩
theorem or_step {l : List Int} (hl : l.length ≤ 4611686018427387904) {i : Nat} (h : i < l.length) {x : Int} (hx : l[i]? = some x) (hz : (x != 0) = false) :
    AL PG GL 0 (loopAt PG 36 0) (orS l i) .normal (orS l (i + 1)) :=
  al_of {path := [true, false], orc := [.elem [dI .i64 x]], eds := [.keep [3, 6, 7, 8], .re []], says := [.d (.t 8) (dI .i64 (i + 1 : Nat))]}
    (.cons (lt_t h) (.cons (nn i) (.cons (row_lt (f := fun n => [dI .i64 n]) h) (.cons (row_get (f := fun n => [dI .i64 n]) hx) (.cons hz (.cons (next_i h hl) .nil)))))) (by kernel_rfl)
theorem or_ac (l : List Int) (hl : l.length ≤ 4611686018427387904) : CX 36 [.one (.row (rowI l))] (vI .i64 (orI l)) := by
  rcases first_of (fun x : Int => x != 0) l with ⟨n, x, h1, h2, h3, h4⟩ | h1
  · rw [orI_at l n x h2 h3 h4]
    have hloop : AL PG GL 0 (.loop (loopAt PG 36 0)) (orS l 0) .ret ⟨hd 18 [(2, vI .i64 x)], []⟩ := by
      refine al_loop (n := n) (orS l) (by simp) (fun i hi => ?_) ?_
      · obtain ⟨y, hy⟩ := some_at (l := l) (i := i) (by omega)
        exact or_step hl (by omega) hy (h4 i y hi hy)
      · exact al_of {path := [true, true], orc := [.elem [dI .i64 x]], eds := [.keep [2], .re []]}
          (.cons (lt_t h1) (.cons (nn n) (.cons (row_lt (f := fun n => [dI .i64 n]) h1) (.cons (row_get (f := fun n => [dI .i64 n]) h2) (.cons h3 .nil))))) (by kernel_rfl)
    exact ac_of {ls := [⟨[.keep [3, 6, 7, 8], .re []], [.d (.t 7) (dI .i64 l.length)], .ret, ⟨hd 18 [(2, vI .i64 x)], []⟩⟩]} (.cons (row_len (fun n => [dI .i64 n]) l) (.cons hloop .nil)) (by kernel_rfl)
  · rw [orI_none l h1]
    have hloop : AL PG GL 0 (.loop (loopAt PG 36 0)) (orS l 0) (.exit 0) ⟨hd 18 [(3, vI .i64 0)], []⟩ := by
      refine al_loop (n := l.length) (orS l) (by simp) (fun i hi => ?_) ?_
      · obtain ⟨y, hy⟩ := some_at (l := l) (i := i) (by omega)
        exact or_step hl (by omega) hy (h1 i y hy)
      · exact al_of {path := [false], eds := [.keep [3], .re []]} (.cons (lt_ff l.length) .nil) (by kernel_rfl)
    exact ac_of {ls := [⟨[.keep [3, 6, 7, 8], .re []], [.d (.t 7) (dI .i64 l.length)], .exit 0, ⟨hd 18 [(3, vI .i64 0)], []⟩⟩]} (.cons (row_len (fun n => [dI .i64 n]) l) (.cons hloop .nil)) (by kernel_rfl)
end Go.Proofs.Ytdffdnbkinpbiaa
