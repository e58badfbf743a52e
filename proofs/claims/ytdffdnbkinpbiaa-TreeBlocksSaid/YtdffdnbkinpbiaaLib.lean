import Derived.Test.YtdffdnbkinpbiaaHead
set_option linter.unusedVariables false
set_option linter.unusedSimpArgs false
namespace Go.Proofs.Ytdffdnbkinpbiaa
open Go Go.RowKit Sx

/-! What loops need -/
theorem lt_t {i n : Nat} (h : i < n) : decide ((i : Int) < (n : Int)) = true := by
  simp
  omega
theorem lt_f {i n : Nat} (h : n ≤ i) : decide ((i : Int) < (n : Int)) = false := by
  simp
  omega
theorem lt_ff (n : Nat) : decide ((n : Int) < (n : Int)) = false := lt_f (Nat.le_refl n)
theorem nn (i : Nat) : (0 : Int) ≤ (i : Int) := Int.natCast_nonneg i
theorem wrap_s {n : Int} (h0 : -9223372036854775808 ≤ n) (h1 : n < 9223372036854775808) : IntKind.i64.wrap n = n := by
  simp only [IntKind.wrap, IntKind.bits, IntKind.signed]
  simp
  omega
theorem wrap_u {k : IntKind} {n : Int} (hk : k.signed = false) (h0 : 0 ≤ n) (h1 : n < 2 ^ k.bits) : k.wrap n = n := by
  simp only [IntKind.wrap, hk]
  simp
  exact Int.emod_eq_of_lt h0 h1
/-- The next index. -/
theorem next_i {i n : Nat} (h : i < n) (hn : n ≤ 4611686018427387904) : dI .i64 (IntKind.i64.wrap ((i : Int) + 1)) = dI .i64 ((i + 1 : Nat) : Int) := by
  rw [wrap_s (by omega) (by omega)]
  simp
section
variable {α : Type} {f : α → List D} {l : List α} {i : Nat} {x : α}
theorem row_get (h : l[i]? = some x) : (l.map f)[((i : Nat) : Int).toNat]? = some (f x) := by simp [h]
theorem row_lt (h : i < l.length) : ((i : Nat) : Int) < ((l.map f).length : Int) := by simp; omega
theorem row_all {n : Nat} (h : ∀ x, (f x).length = n) : ∀ el ∈ l.map f, el.length = n := by
  intro el he
  obtain ⟨x, _, rfl⟩ := List.mem_map.1 he
  exact h x
theorem row_app {β : Type} (f : β → List D) (l m : List β) : l.map f ++ m.map f = (l ++ m).map f := by simp
theorem row_set {β : Type} (f : β → List D) (l : List β) (i : Nat) (x : β) : (l.map f).set i (f x) = (l.set i x).map f := by rw [List.map_set]
theorem row_at {β : Type} (f : β → List D) {l : List β} {n : Nat} {x : β} (h : l[n]? = some x) : (l.map f)[n]? = some (f x) := by simp [h]
theorem row_at_set {β : Type} (f : β → List D) (l : List β) (n : Nat) (x : β) (h : n < l.length) : ((l.set n x).map f)[n]? = some (f x) := by simp [h]
theorem all_nil {n : Nat} : ∀ el ∈ ([] : List (List D)), el.length = n := by simp
theorem all_cons {n : Nat} {x : List D} {l : List (List D)} (h : x.length = n) (t : ∀ el ∈ l, el.length = n) : ∀ el ∈ x :: l, el.length = n := by
  intro el he
  rcases List.mem_cons.1 he with rfl | he
  · exact h
  · exact t el he
theorem row_len (f : α → List D) (l : List α) : dI .i64 ((l.map f).length : Int) = dI .i64 (l.length : Int) := by simp
/-- A row of which the first ones are told anew. -/
def halfway (g : α → α) (l : List α) (i : Nat) : List α := (l.take i).map g ++ l.drop i
theorem halfway_zero (g : α → α) : halfway g l 0 = l := by simp [halfway]
theorem halfway_all (g : α → α) : halfway g l l.length = l.map g := by simp [halfway]
theorem halfway_length (g : α → α) : (halfway g l i).length = l.length := by simp [halfway]; omega
theorem halfway_get (g : α → α) (h : l[i]? = some x) : (halfway g l i)[i]? = some x := by
  have hi : i < l.length := (List.getElem?_eq_some_iff.1 h).1
  unfold halfway
  rw [List.getElem?_append_right (by simp; omega)]
  simp
  rw [Nat.min_eq_left (by omega)]
  simpa using h
theorem halfway_set (g : α → α) (h : l[i]? = some x) : (halfway g l i).set i (g x) = halfway g l (i + 1) := by
  have hi : i < l.length := (List.getElem?_eq_some_iff.1 h).1
  apply List.ext_getElem?
  intro j
  unfold halfway
  rw [List.getElem?_set]
  by_cases hj : i = j
  · subst hj
    simp only [if_true]
    rw [if_pos (by simp; omega), List.getElem?_append_left (by simp; omega)]
    simp [h, List.getElem?_take]
  · rw [if_neg hj]
    rcases Nat.lt_or_ge j i with hl | hl
    · rw [List.getElem?_append_left (by simp; omega), List.getElem?_append_left (by simp; omega)]
      simp [List.getElem?_take, hl, Nat.lt_succ_of_lt hl]
    · rw [List.getElem?_append_right (by simp; omega), List.getElem?_append_right (by simp; omega)]
      simp only [List.length_map, List.length_take, List.getElem?_drop]
      rw [Nat.min_eq_left (by omega), Nat.min_eq_left (by omega)]
      congr 1
      omega
theorem map_set {β : Type} (f : α → β) (l : List α) (i : Nat) (x : α) : (l.map f).set i (f x) = (l.set i x).map f := by
  rw [List.map_set]
end
/-- From one list to another one of the same length, the first ones already gone over. -/
def half {α : Type} (l l' : List α) (i : Nat) : List α := l'.take i ++ l.drop i
section
variable {α : Type} {l l' : List α} {i : Nat} {x y : α}
theorem half_zero (l l' : List α) : half l l' 0 = l := by simp [half]
theorem half_all (h : l'.length = l.length) : half l l' l.length = l' := by simp [half, ← h]
theorem half_length (h : l'.length = l.length) : (half l l' i).length = l.length := by simp [half, h]; omega
theorem half_get (h : l'.length = l.length) (hx : l[i]? = some x) : (half l l' i)[i]? = some x := by
  have hi : i < l.length := (List.getElem?_eq_some_iff.1 hx).1
  unfold half
  rw [List.getElem?_append_right (by simp; omega)]
  simp
  rw [Nat.min_eq_left (by omega)]
  simpa using hx
theorem half_set (h : l'.length = l.length) (hy : l'[i]? = some y) : (half l l' i).set i y = half l l' (i + 1) := by
  have hi : i < l.length := by
    have := (List.getElem?_eq_some_iff.1 hy).1
    omega
  apply List.ext_getElem?
  intro j
  unfold half
  rw [List.getElem?_set]
  by_cases hj : i = j
  · subst hj
    simp only [if_true]
    rw [if_pos (by simp; omega), List.getElem?_append_left (by simp; omega)]
    simp [hy, List.getElem?_take]
  · rw [if_neg hj]
    rcases Nat.lt_or_ge j i with hl | hl
    · rw [List.getElem?_append_left (by simp; omega), List.getElem?_append_left (by simp; omega)]
      simp [List.getElem?_take, hl, Nat.lt_succ_of_lt hl]
    · rw [List.getElem?_append_right (by simp; omega), List.getElem?_append_right (by simp; omega)]
      simp only [List.length_take, List.getElem?_drop]
      rw [Nat.min_eq_left (by omega), Nat.min_eq_left (by omega)]
      congr 1
      omega
end
/-- The first place at which something holds. -/
theorem first_of {α : Type} (p : α → Bool) : ∀ (l : List α), (∃ n x, n < l.length ∧ l[n]? = some x ∧ p x = true ∧ ∀ (i : Nat) (y : α), i < n → l[i]? = some y → p y = false) ∨ (∀ (i : Nat) (y : α), l[i]? = some y → p y = false)
  | [] => .inr fun i y h => by simp at h
  | a :: l => by
    cases h : p a with
    | true => exact .inl ⟨0, a, by simp, by simp, h, fun i y hi => by omega⟩
    | false =>
      rcases first_of p l with ⟨n, x, h1, h2, h3, h4⟩ | h1
      · refine .inl ⟨n + 1, x, by simp; omega, by simpa using h2, h3, fun i y hi hy => ?_⟩
        cases i with
        | zero =>
          simp at hy
          subst hy
          exact h
        | succ i => exact h4 i y (by omega) (by simpa using hy)
      · refine .inr fun i y hy => ?_
        cases i with
        | zero =>
          simp at hy
          subst hy
          exact h
        | succ i => exact h1 i y (by simpa using hy)
theorem some_at {α : Type} {l : List α} {i : Nat} (h : i < l.length) : ∃ x, l[i]? = some x := ⟨l[i], by simp [h]⟩
end Go.Proofs.Ytdffdnbkinpbiaa
