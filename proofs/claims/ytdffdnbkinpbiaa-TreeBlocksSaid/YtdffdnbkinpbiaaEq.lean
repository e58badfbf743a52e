import Derived.Test.YtdffdnbkinpbiaaNew
set_option linter.unusedVariables false
set_option linter.unusedSimpArgs false
namespace Go.Proofs.Ytdffdnbkinpbiaa
open Go Go.RowKit Sx

def eqTimer (s t : Timer) : Bool := s.on == t.on && (s.val == t.val && true)
def eqVect (v w : Vect) : Bool := v.root == w.root && (v.cost == w.cost && (v.bridge == w.bridge && (v.port == w.port && true)))
def eqTimes (s t : Times) : Bool := s.maxAge == t.maxAge && (s.hello == t.hello && (s.delay == t.delay && true))
def eqPort (p q : Port) : Bool := p.id == q.id && (p.state == q.state && (p.cost == q.cost && (eqVect p.held q.held && (p.ack == q.ack && (p.pending == q.pending && (eqTimer p.age q.age && (eqTimer p.delay q.delay && (eqTimer p.hold q.hold && true))))))))
def samePorts : List Port → List Port → Bool
  | p :: l, q :: m => bif !(eqPort p q) then false else samePorts l m
  | _, _ => true
theorem samePorts_at : ∀ (l m : List Port) (n : Nat) (p q : Port), l[n]? = some p → m[n]? = some q → (!(eqPort p q)) = true → (∀ (i : Nat) (x y : Port), i < n → l[i]? = some x → m[i]? = some y → (!(eqPort x y)) = false) → samePorts l m = false
  | [], m, n, p, q, h, _, _, _ => by simp at h
  | a :: l, [], n, p, q, _, h, _, _ => by simp at h
  | a :: l, b :: m, n, p, q, h1, h2, h3, h4 => by
    cases n with
    | zero =>
      simp at h1 h2
      subst h1
      subst h2
      simp [samePorts, h3]
    | succ n =>
      have h0 := h4 0 a b (by omega) (by simp) (by simp)
      simp only [samePorts, h0, cond_false]
      exact samePorts_at l m n p q (by simpa using h1) (by simpa using h2) h3 fun i x y hi hx hy => h4 (i + 1) x y (by omega) (by simpa using hx) (by simpa using hy)
theorem samePorts_all : ∀ (l m : List Port), (∀ (i : Nat) (x y : Port), l[i]? = some x → m[i]? = some y → (!(eqPort x y)) = false) → samePorts l m = true
  | [], m, _ => by simp [samePorts]
  | a :: l, [], _ => by simp [samePorts]
  | a :: l, b :: m, h => by
    have h0 := h 0 a b (by simp) (by simp)
    simp only [samePorts, h0, cond_false]
    exact samePorts_all l m fun i x y hx hy => h (i + 1) x y (by simpa using hx) (by simpa using hy)
/-- Where two lists differ first. -/
theorem first_diff (l m : List Port) (hlen : m.length = l.length) : (∃ n p q, n < l.length ∧ l[n]? = some p ∧ m[n]? = some q ∧ (!(eqPort p q)) = true ∧ ∀ (i : Nat) (x y : Port), i < n → l[i]? = some x → m[i]? = some y → (!(eqPort x y)) = false) ∨ (∀ (i : Nat) (x y : Port), l[i]? = some x → m[i]? = some y → (!(eqPort x y)) = false) := by
  have hz : ∀ (i : Nat) (x y : Port), l[i]? = some x → m[i]? = some y → (l.zip m)[i]? = some (x, y) := fun i x y hx hy => by
    rw [List.getElem?_zip_eq_some]
    exact ⟨hx, hy⟩
  rcases first_of (fun r : Port × Port => !(eqPort r.1 r.2)) (l.zip m) with ⟨n, x, h1, h2, h3, h4⟩ | h1
  · rw [List.getElem?_zip_eq_some] at h2
    refine .inl ⟨n, x.1, x.2, ?_, h2.1, h2.2, h3, fun i a b hi ha hb => h4 i (a, b) hi (hz i a b ha hb)⟩
    exact (List.getElem?_eq_some_iff.1 h2.1).1
  · exact .inr fun i a b ha hb => h1 i (a, b) (hz i a b ha hb)
theorem lt_row {l : List Port} {i : Nat} (h : i < l.length) : decide ((i : Int) < ((rowP l).length : Int)) = true := by
  simp [rowP]
  omega
theorem lt_rowff (l : List Port) : decide ((l.length : Int) < ((rowP l).length : Int)) = false := by simp [rowP]
end Go.Proofs.Ytdffdnbkinpbiaa
