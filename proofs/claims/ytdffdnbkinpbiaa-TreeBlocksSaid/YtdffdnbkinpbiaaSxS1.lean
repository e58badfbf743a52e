import Derived.Below
import Derived.Orders
import Derived.Maps.AppendAt
import Derived.KernelRfl
import Derived.WalkKit
set_option linter.unusedVariables false
set_option linter.unusedSimpArgs false
namespace Go.Proofs.Ytdffdnbkinpbiaa.Sx
open Go Go.RowKit

/-- Closed data of one cell. -/
inductive D where
  | v (x : Value)
  | nil
  | row (xs : List (List D))

/-- A value during a walk. -/
inductive SV where
  | any
  | lit (b : Bool)
  | d (x : D)
  | agg (l : List SV)
  | tup (l : List SV)
  | own (k : Nat)
  | ptr (k off : Nat)
  | eptr (k sz n off : Nat)
  | rptr (sz : Nat) (xs : List (List D)) (n off : Nat)

structure Loc where
  g : Nat
  s : Value

/-- What block of memory of the walk's own. -/
inductive Blk where
  | dead
  | box (cells : List SV)
  | row (sz : Nat) (e : TypeId) (els : List (List D))
  | frz (els : List (List D))

mutual
def Dr (W : World) (F : Nat → Prop) : D → Value → Prop
  | .v x, u => u = x ∧ x.oneCell' = true
  | .nil, u => u = .slice none 0 0
  | .row xs, u => ∃ A c vs sz, u = .slice A xs.length c ∧ xs.length ≤ c ∧ DrLL W F sz xs vs ∧
      (xs ≠ [] → ∃ ad, A = some ad ∧ F ad.block ∧ ∀ (j : Nat) (y : Value), vs[j]? = some y → W.cell? (ad.add j) = some y)
def DrL (W : World) (F : Nat → Prop) : List D → List Value → Prop
  | [], vs => vs = []
  | x :: xs, vs => ∃ u t, vs = u :: t ∧ Dr W F x u ∧ DrL W F xs t
def DrLL (W : World) (F : Nat → Prop) (sz : Nat) : List (List D) → List Value → Prop
  | [], vs => vs = []
  | x :: xs, vs => ∃ a b, vs = a ++ b ∧ x.length = sz ∧ DrL W F x a ∧ DrLL W F sz xs b
end

mutual
theorem Dr.mono {W W' : World} {F F' : Nat → Prop} (hF : ∀ b, F b → F' b) (hW : ∀ b, F b → W'.heap[b]? = W.heap[b]?) :
    ∀ (x : D) (u : Value), Dr W F x u → Dr W' F' x u
  | .v x, u, h => by simpa only [Dr] using h
  | .nil, u, h => by simpa only [Dr] using h
  | .row xs, u, h => by
    simp only [Dr] at h ⊢
    obtain ⟨A, c, vs, sz, h1, h2, h3, h4⟩ := h
    refine ⟨A, c, vs, sz, h1, h2, DrLL.mono hF hW sz xs vs h3, fun hne => ?_⟩
    obtain ⟨ad, h5, h6, h7⟩ := h4 hne
    refine ⟨ad, h5, hF _ h6, fun j y hy => ?_⟩
    rw [← h7 j y hy]
    refine World.cell?_of_block (w := W) ?_
    have hb : (ad.add j).block = ad.block := by unfold Addr.add; split <;> rfl
    rw [hb]
    exact hW _ h6
theorem DrL.mono {W W' : World} {F F' : Nat → Prop} (hF : ∀ b, F b → F' b) (hW : ∀ b, F b → W'.heap[b]? = W.heap[b]?) :
    ∀ (x : List D) (u : List Value), DrL W F x u → DrL W' F' x u
  | [], u, h => by simpa only [DrL] using h
  | x :: xs, u, h => by
    simp only [DrL] at h ⊢
    obtain ⟨a, b, h1, h2, h3⟩ := h
    exact ⟨a, b, h1, Dr.mono hF hW _ _ h2, DrL.mono hF hW _ _ h3⟩
theorem DrLL.mono {W W' : World} {F F' : Nat → Prop} (hF : ∀ b, F b → F' b) (hW : ∀ b, F b → W'.heap[b]? = W.heap[b]?) (sz : Nat) :
    ∀ (x : List (List D)) (u : List Value), DrLL W F sz x u → DrLL W' F' sz x u
  | [], u, h => by simpa only [DrLL] using h
  | x :: xs, u, h => by
    simp only [DrLL] at h ⊢
    obtain ⟨a, b, h1, h2, h3, h4⟩ := h
    exact ⟨a, b, h1, h2, DrL.mono hF hW _ _ h3, DrLL.mono hF hW sz _ _ h4⟩
end

mutual
theorem Dr.one {W : World} {F : Nat → Prop} : ∀ (x : D) (u : Value), Dr W F x u → u.oneCell' = true
  | .v x, u, h => by
    simp only [Dr] at h
    obtain ⟨rfl, h⟩ := h
    exact h
  | .nil, u, h => by
    simp only [Dr] at h
    subst h
    rfl
  | .row xs, u, h => by
    simp only [Dr] at h
    obtain ⟨A, c, vs, sz, rfl, _⟩ := h
    rfl
end
theorem DrL.one {W : World} {F : Nat → Prop} : ∀ (x : List D) (u : List Value), DrL W F x u → ∀ v ∈ u, v.oneCell' = true
  | [], u, h => by
    simp only [DrL] at h
    subst h
    simp
  | x :: xs, u, h => by
    simp only [DrL] at h
    obtain ⟨a, b, rfl, h2, h3⟩ := h
    intro v hv
    rcases List.mem_cons.1 hv with rfl | hv
    · exact Dr.one _ _ h2
    · exact DrL.one _ _ h3 v hv
theorem DrLL.one {W : World} {F : Nat → Prop} {sz : Nat} : ∀ (x : List (List D)) (u : List Value), DrLL W F sz x u → ∀ v ∈ u, v.oneCell' = true
  | [], u, h => by
    simp only [DrLL] at h
    subst h
    simp
  | x :: xs, u, h => by
    simp only [DrLL] at h
    obtain ⟨a, b, rfl, _, h2, h3⟩ := h
    intro v hv
    rcases List.mem_append.1 hv with hv | hv
    · exact DrL.one _ _ h2 v hv
    · exact DrLL.one _ _ h3 v hv
theorem DrL.length {W : World} {F : Nat → Prop} : ∀ (x : List D) (u : List Value), DrL W F x u → u.length = x.length
  | [], u, h => by
    simp only [DrL] at h
    subst h
    rfl
  | x :: xs, u, h => by
    simp only [DrL] at h
    obtain ⟨a, b, rfl, h2, h3⟩ := h
    simp [DrL.length _ _ h3]
theorem DrLL.length {W : World} {F : Nat → Prop} {sz : Nat} : ∀ (x : List (List D)) (u : List Value), DrLL W F sz x u → u.length = x.length * sz
  | [], u, h => by
    simp only [DrLL] at h
    subst h
    simp
  | x :: xs, u, h => by
    simp only [DrLL] at h
    obtain ⟨a, b, rfl, h1, h2, h3⟩ := h
    have := DrL.length _ _ h2
    have := DrLL.length _ _ h3
    rw [List.length_append, List.length_cons, Nat.add_mul]
    omega
theorem DrL.append {W : World} {F : Nat → Prop} : ∀ (x y : List D) (u v : List Value), DrL W F x u → DrL W F y v → DrL W F (x ++ y) (u ++ v)
  | [], y, u, v, h, h' => by
    simp only [DrL] at h
    subst h
    exact h'
  | x :: xs, y, u, v, h, h' => by
    simp only [DrL, List.cons_append] at h ⊢
    obtain ⟨a, b, rfl, h2, h3⟩ := h
    exact ⟨a, b ++ v, rfl, h2, DrL.append _ _ _ _ h3 h'⟩
theorem DrLL.append {W : World} {F : Nat → Prop} {sz : Nat} : ∀ (x y : List (List D)) (u v : List Value), DrLL W F sz x u → DrLL W F sz y v → DrLL W F sz (x ++ y) (u ++ v)
  | [], y, u, v, h, h' => by
    simp only [DrLL] at h
    subst h
    exact h'
  | x :: xs, y, u, v, h, h' => by
    simp only [DrLL, List.cons_append] at h ⊢
    obtain ⟨a, b, rfl, h1, h2, h3⟩ := h
    exact ⟨a, b ++ v, by simp, h1, h2, DrLL.append _ _ _ _ h3 h'⟩
/-- The cells of element i. -/
theorem DrLL.get {W : World} {F : Nat → Prop} {sz : Nat} : ∀ (x : List (List D)) (u : List Value), DrLL W F sz x u → ∀ (i : Nat) (el : List D), x[i]? = some el →
    el.length = sz ∧ ∃ vs, DrL W F el vs ∧ (u.drop (i * sz)).take sz = vs
  | [], u, h, i, el, hi => by simp at hi
  | x :: xs, u, h, i, el, hi => by
    simp only [DrLL] at h
    obtain ⟨a, b, rfl, h1, h2, h3⟩ := h
    have hl := DrL.length _ _ h2
    cases i with
    | zero =>
      simp at hi
      subst hi
      refine ⟨h1, a, h2, ?_⟩
      simp only [Nat.zero_mul, List.drop_zero]
      rw [← h1, ← hl]
      exact List.take_left
    | succ i =>
      simp at hi
      obtain ⟨e1, vs, e2, e3⟩ := DrLL.get _ _ h3 i el hi
      refine ⟨e1, vs, e2, ?_⟩
      rw [← e3, Nat.succ_mul, Nat.add_comm, ← List.drop_drop]
      have : a.length = sz := by omega
      subst this
      rw [List.drop_left]
theorem DrL.get {W : World} {F : Nat → Prop} : ∀ (x : List D) (u : List Value), DrL W F x u → ∀ (i : Nat) (e : D), x[i]? = some e → ∃ y, u[i]? = some y ∧ Dr W F e y
  | [], u, h, i, el, hi => by simp at hi
  | x :: xs, u, h, i, el, hi => by
    simp only [DrL] at h
    obtain ⟨a, b, rfl, h2, h3⟩ := h
    cases i with
    | zero =>
      simp at hi
      subst hi
      exact ⟨a, rfl, h2⟩
    | succ i => exact DrL.get _ _ h3 i el (by simpa using hi)

theorem add_add (a : Addr) (x y : Nat) : (a.add x).add y = a.add (x + y) := by
  unfold Addr.add
  by_cases hx : x = 0
  · subst hx
    simp
  · by_cases hy : y = 0
    · subst hy
      simp [hx]
    · simp [hx, hy, Nat.add_assoc]
theorem add_zero (a : Addr) : a.add 0 = a := by simp [Addr.add]
theorem add_new (g j : Nat) : (⟨g, 0, none⟩ : Addr).add j = ⟨g, j, none⟩ := by unfold Addr.add; split <;> simp_all
theorem add_at (g i j : Nat) : (⟨g, i, none⟩ : Addr).add j = ⟨g, i + j, none⟩ := by unfold Addr.add; split <;> simp_all
theorem add_block (a : Addr) (j : Nat) : (a.add j).block = a.block := by unfold Addr.add; split <;> rfl

mutual
def Vr (W : World) (F : Nat → Prop) (ρ : Nat → Option Loc) : SV → Value → Prop
  | .any, _ => True
  | .lit b, u => u = .bool b
  | .d x, u => Dr W F x u
  | .agg l, u => ∃ vs : List Value, u = .agg vs.toArray ∧ VrL W F ρ l vs
  | .tup l, u => ∃ vs : List Value, u = .tuple vs.toArray ∧ VrT W F ρ l vs
  | .own k, u => ∃ l, ρ k = some l ∧ u = l.s ∧ u.oneCell' = true
  | .ptr k off, u => ∃ l, ρ k = some l ∧ u = .pointer (some ⟨l.g, off, none⟩)
  | .eptr k sz n off, u => ∃ l, ρ k = some l ∧ u = .pointer (some ⟨l.g, n * sz + off, none⟩)
  | .rptr sz xs n off, u => ∃ (ad : Addr) (vs : List Value), u = .pointer (some (ad.add (n * sz + off))) ∧ (∃ sz', DrLL W F sz' xs vs) ∧ F ad.block ∧ ∀ (j : Nat) (y : Value), vs[j]? = some y → W.cell? (ad.add j) = some y
def VrL (W : World) (F : Nat → Prop) (ρ : Nat → Option Loc) : List SV → List Value → Prop
  | [], vs => vs = []
  | x :: xs, vs => ∃ u t, vs = u :: t ∧ Vr W F ρ x u ∧ u.oneCell' = true ∧ VrL W F ρ xs t
def VrT (W : World) (F : Nat → Prop) (ρ : Nat → Option Loc) : List SV → List Value → Prop
  | [], vs => vs = []
  | x :: xs, vs => ∃ u t, vs = u :: t ∧ Vr W F ρ x u ∧ VrT W F ρ xs t
end

mutual
theorem Vr.mono {W W' : World} {F F' : Nat → Prop} {ρ ρ' : Nat → Option Loc} (hF : ∀ b, F b → F' b) (hW : ∀ b, F b → W'.heap[b]? = W.heap[b]?) (hρ : ∀ k l, ρ k = some l → ρ' k = some l) : ∀ (x : SV) (u : Value), Vr W F ρ x u → Vr W' F' ρ' x u
  | .any, u, h => by simp only [Vr]
  | .lit b, u, h => by simpa only [Vr] using h
  | .d x, u, h => by
    simp only [Vr] at h ⊢
    exact Dr.mono hF hW _ _ h
  | .agg l, u, h => by
    simp only [Vr] at h ⊢
    obtain ⟨vs, h1, h2⟩ := h
    exact ⟨vs, h1, VrL.mono hF hW hρ _ _ h2⟩
  | .tup l, u, h => by
    simp only [Vr] at h ⊢
    obtain ⟨vs, h1, h2⟩ := h
    exact ⟨vs, h1, VrT.mono hF hW hρ _ _ h2⟩
  | .own k, u, h => by
    simp only [Vr] at h ⊢
    obtain ⟨l, h1, h2⟩ := h
    exact ⟨l, hρ _ _ h1, h2⟩
  | .ptr k off, u, h => by
    simp only [Vr] at h ⊢
    obtain ⟨l, h1, h2⟩ := h
    exact ⟨l, hρ _ _ h1, h2⟩
  | .eptr k sz n off, u, h => by
    simp only [Vr] at h ⊢
    obtain ⟨l, h1, h2⟩ := h
    exact ⟨l, hρ _ _ h1, h2⟩
  | .rptr sz xs n off, u, h => by
    simp only [Vr] at h ⊢
    obtain ⟨ad, vs, h1, ⟨sz', h2⟩, h3, h4⟩ := h
    refine ⟨ad, vs, h1, ⟨sz', DrLL.mono hF hW _ _ _ h2⟩, hF _ h3, fun j y hy => ?_⟩
    rw [← h4 j y hy]
    refine World.cell?_of_block (w := W) ?_
    rw [add_block]
    exact hW _ h3
theorem VrL.mono {W W' : World} {F F' : Nat → Prop} {ρ ρ' : Nat → Option Loc} (hF : ∀ b, F b → F' b) (hW : ∀ b, F b → W'.heap[b]? = W.heap[b]?) (hρ : ∀ k l, ρ k = some l → ρ' k = some l) : ∀ (x : List SV) (u : List Value), VrL W F ρ x u → VrL W' F' ρ' x u
  | [], u, h => by simpa only [VrL] using h
  | x :: xs, u, h => by
    simp only [VrL] at h ⊢
    obtain ⟨a, b, h1, h2, h3, h4⟩ := h
    exact ⟨a, b, h1, Vr.mono hF hW hρ _ _ h2, h3, VrL.mono hF hW hρ _ _ h4⟩
theorem VrT.mono {W W' : World} {F F' : Nat → Prop} {ρ ρ' : Nat → Option Loc} (hF : ∀ b, F b → F' b) (hW : ∀ b, F b → W'.heap[b]? = W.heap[b]?) (hρ : ∀ k l, ρ k = some l → ρ' k = some l) : ∀ (x : List SV) (u : List Value), VrT W F ρ x u → VrT W' F' ρ' x u
  | [], u, h => by simpa only [VrT] using h
  | x :: xs, u, h => by
    simp only [VrT] at h ⊢
    obtain ⟨a, b, h1, h2, h3⟩ := h
    exact ⟨a, b, h1, Vr.mono hF hW hρ _ _ h2, VrT.mono hF hW hρ _ _ h3⟩
end

theorem VrL.one {W : World} {F : Nat → Prop} {ρ : Nat → Option Loc} : ∀ (x : List SV) (u : List Value), VrL W F ρ x u → ∀ v ∈ u, v.oneCell' = true
  | [], u, h => by
    simp only [VrL] at h
    subst h
    simp
  | x :: xs, u, h => by
    simp only [VrL] at h
    obtain ⟨a, b, rfl, h2, h3, h4⟩ := h
    intro v hv
    rcases List.mem_cons.1 hv with rfl | hv
    · exact h3
    · exact VrL.one _ _ h4 v hv
theorem VrL.length {W : World} {F : Nat → Prop} {ρ : Nat → Option Loc} : ∀ (x : List SV) (u : List Value), VrL W F ρ x u → u.length = x.length
  | [], u, h => by
    simp only [VrL] at h
    subst h
    rfl
  | x :: xs, u, h => by
    simp only [VrL] at h
    obtain ⟨a, b, rfl, h2, h3, h4⟩ := h
    simp [VrL.length _ _ h4]
theorem VrL.get {W : World} {F : Nat → Prop} {ρ : Nat → Option Loc} : ∀ (x : List SV) (u : List Value), VrL W F ρ x u → ∀ (i : Nat) (e : SV), x[i]? = some e → ∃ y, u[i]? = some y ∧ Vr W F ρ e y ∧ y.oneCell' = true
  | [], u, h, i, el, hi => by simp at hi
  | x :: xs, u, h, i, el, hi => by
    simp only [VrL] at h
    obtain ⟨a, b, rfl, h2, h3, h4⟩ := h
    cases i with
    | zero =>
      simp at hi
      subst hi
      exact ⟨a, rfl, h2, h3⟩
    | succ i => exact VrL.get _ _ h4 i el (by simpa using hi)
theorem VrL.take_drop {W : World} {F : Nat → Prop} {ρ : Nat → Option Loc} : ∀ (x : List SV) (u : List Value), VrL W F ρ x u → ∀ (i n : Nat), VrL W F ρ ((x.drop i).take n) ((u.drop i).take n)
  | [], u, h, i, n => by
    simp only [VrL] at h
    subst h
    simp [VrL]
  | x :: xs, u, h, 0, 0 => by simp [VrL]
  | x :: xs, u, h, 0, n + 1 => by
    simp only [VrL] at h
    obtain ⟨a, b, rfl, h2, h3, h4⟩ := h
    have := VrL.take_drop _ _ h4 0 n
    simp only [List.drop_zero, List.take_succ_cons, VrL] at this ⊢
    exact ⟨a, b.take n, rfl, h2, h3, this⟩
  | x :: xs, u, h, i + 1, n => by
    simp only [VrL] at h
    obtain ⟨a, b, rfl, h2, h3, h4⟩ := h
    exact VrL.take_drop _ _ h4 i n
theorem VrL.set {W : World} {F : Nat → Prop} {ρ : Nat → Option Loc} : ∀ (x : List SV) (u : List Value), VrL W F ρ x u → ∀ (i : Nat) (e : SV) (y : Value), Vr W F ρ e y → y.oneCell' = true → VrL W F ρ (x.set i e) (u.set i y)
  | [], u, h, i, e, y, he, hy => by
    simp only [VrL] at h
    subst h
    simp [VrL]
  | x :: xs, u, h, 0, e, y, he, hy => by
    simp only [VrL] at h
    obtain ⟨a, b, rfl, h2, h3, h4⟩ := h
    simp only [List.set_cons_zero, VrL]
    exact ⟨y, b, rfl, he, hy, h4⟩
  | x :: xs, u, h, i + 1, e, y, he, hy => by
    simp only [VrL] at h
    obtain ⟨a, b, rfl, h2, h3, h4⟩ := h
    simp only [List.set_cons_succ, VrL]
    exact ⟨a, b.set i y, rfl, h2, h3, VrL.set _ _ h4 i e y he hy⟩
theorem VrL.append {W : World} {F : Nat → Prop} {ρ : Nat → Option Loc} : ∀ (x y : List SV) (u v : List Value), VrL W F ρ x u → VrL W F ρ y v → VrL W F ρ (x ++ y) (u ++ v)
  | [], y, u, v, h, h' => by
    simp only [VrL] at h
    subst h
    exact h'
  | x :: xs, y, u, v, h, h' => by
    simp only [VrL, List.cons_append] at h ⊢
    obtain ⟨a, b, rfl, h2, h3, h4⟩ := h
    exact ⟨a, b ++ v, rfl, h2, h3, VrL.append _ _ _ _ h4 h'⟩
theorem VrL.drop {W : World} {F : Nat → Prop} {ρ : Nat → Option Loc} : ∀ (x : List SV) (u : List Value), VrL W F ρ x u → ∀ (i : Nat), VrL W F ρ (x.drop i) (u.drop i)
  | [], u, h, i => by
    simp only [VrL] at h
    subst h
    simp [VrL]
  | x :: xs, u, h, 0 => h
  | x :: xs, u, h, i + 1 => by
    simp only [VrL] at h
    obtain ⟨a, b, rfl, h2, h3, h4⟩ := h
    exact VrL.drop _ _ h4 i
theorem VrL.take {W : World} {F : Nat → Prop} {ρ : Nat → Option Loc} : ∀ (x : List SV) (u : List Value), VrL W F ρ x u → ∀ (i : Nat), VrL W F ρ (x.take i) (u.take i)
  | [], u, h, i => by
    simp only [VrL] at h
    subst h
    simp [VrL]
  | x :: xs, u, h, 0 => by simp [VrL]
  | x :: xs, u, h, i + 1 => by
    simp only [VrL] at h
    obtain ⟨a, b, rfl, h2, h3, h4⟩ := h
    simp only [List.take_succ_cons, VrL]
    exact ⟨a, b.take i, rfl, h2, h3, VrL.take _ _ h4 i⟩
/-- A splice: cells from 'off' on are those of 'y'. -/
def splice {α : Type} (x : List α) (off : Nat) (y : List α) : List α := x.take off ++ (y ++ x.drop (off + y.length))
theorem splice_length {α : Type} (x : List α) (off : Nat) (y : List α) (h : off + y.length ≤ x.length) : (splice x off y).length = x.length := by
  simp [splice]
  omega
theorem VrL.splice {W : World} {F : Nat → Prop} {ρ : Nat → Option Loc} (x y : List SV) (u v : List Value) (off : Nat) (h : VrL W F ρ x u) (h' : VrL W F ρ y v) : VrL W F ρ (splice x off y) (splice u off v) := by
  unfold Sx.splice
  rw [VrL.length _ _ h']
  exact (h.take _ _ off).append _ _ _ _ (h'.append _ _ _ _ (h.drop _ _ _))
theorem DrL.drop {W : World} {F : Nat → Prop} : ∀ (x : List D) (u : List Value), DrL W F x u → ∀ (i : Nat), DrL W F (x.drop i) (u.drop i)
  | [], u, h, i => by
    simp only [DrL] at h
    subst h
    simp [DrL]
  | x :: xs, u, h, 0 => h
  | x :: xs, u, h, i + 1 => by
    simp only [DrL] at h
    obtain ⟨a, b, rfl, h2, h3⟩ := h
    exact DrL.drop _ _ h3 i
theorem DrL.take {W : World} {F : Nat → Prop} : ∀ (x : List D) (u : List Value), DrL W F x u → ∀ (i : Nat), DrL W F (x.take i) (u.take i)
  | [], u, h, i => by
    simp only [DrL] at h
    subst h
    simp [DrL]
  | x :: xs, u, h, 0 => by simp [DrL]
  | x :: xs, u, h, i + 1 => by
    simp only [DrL] at h
    obtain ⟨a, b, rfl, h2, h3⟩ := h
    simp only [List.take_succ_cons, DrL]
    exact ⟨a, b.take i, rfl, h2, DrL.take _ _ h3 i⟩
theorem DrL.splice {W : World} {F : Nat → Prop} (x y : List D) (u v : List Value) (off : Nat) (h : DrL W F x u) (h' : DrL W F y v) : DrL W F (splice x off y) (splice u off v) := by
  unfold Sx.splice
  rw [DrL.length _ _ h']
  exact (h.take _ _ off).append _ _ _ _ (h'.append _ _ _ _ (h.drop _ _ _))
theorem DrLL.flat {W : World} {F : Nat → Prop} {sz : Nat} : ∀ (x : List (List D)) (u : List Value), DrLL W F sz x u → DrL W F x.flatten u
  | [], u, h => by simpa only [DrLL, List.flatten_nil, DrL] using h
  | x :: xs, u, h => by
    simp only [DrLL] at h
    obtain ⟨a, b, rfl, h1, h2, h3⟩ := h
    exact DrL.append _ _ _ _ h2 (DrLL.flat _ _ h3)
/-- Element n anew. -/
theorem DrLL.set {W : World} {F : Nat → Prop} {sz : Nat} : ∀ (x : List (List D)) (u : List Value), DrLL W F sz x u → ∀ (n : Nat) (y : List D) (v : List Value), n < x.length → y.length = sz → DrL W F y v →
    DrLL W F sz (x.set n y) (Sx.splice u (n * sz) v)
  | [], u, h, n, y, v, hn, hy, hv => by simp at hn
  | x :: xs, u, h, 0, y, v, hn, hy, hv => by
    simp only [DrLL] at h
    obtain ⟨a, b, rfl, h1, h2, h3⟩ := h
    have e1 := DrL.length _ _ h2
    have e2 := DrL.length _ _ hv
    simp only [List.set_cons_zero, DrLL, Sx.splice, Nat.zero_mul, List.take_zero, List.nil_append, Nat.zero_add]
    refine ⟨v, b, ?_, hy, hv, h3⟩
    rw [show v.length = a.length by omega, List.drop_left]
  | x :: xs, u, h, n + 1, y, v, hn, hy, hv => by
    simp only [DrLL] at h
    obtain ⟨a, b, rfl, h1, h2, h3⟩ := h
    have e1 := DrL.length _ _ h2
    have ih := DrLL.set _ _ h3 n y v (by simpa using hn) hy hv
    simp only [List.set_cons_succ, DrLL]
    refine ⟨a, _, ?_, h1, h2, ih⟩
    have e3 : (n + 1) * sz = a.length + n * sz := by rw [Nat.add_mul, Nat.one_mul]; omega
    unfold Sx.splice
    rw [e3, List.take_length_add_append, Nat.add_assoc, List.drop_length_add_append, List.append_assoc]
theorem VrL.ofD {W : World} {F : Nat → Prop} {ρ : Nat → Option Loc} : ∀ (x : List D) (u : List Value), DrL W F x u → VrL W F ρ (x.map .d) u
  | [], u, h => by simpa only [DrL, List.map_nil, VrL] using h
  | x :: xs, u, h => by
    simp only [DrL] at h
    obtain ⟨a, b, rfl, h2, h3⟩ := h
    simp only [List.map_cons, VrL, Vr]
    exact ⟨a, b, rfl, h2, Dr.one _ _ h2, VrL.ofD _ _ h3⟩
theorem VrT.get {W : World} {F : Nat → Prop} {ρ : Nat → Option Loc} : ∀ (x : List SV) (u : List Value), VrT W F ρ x u → ∀ (i : Nat) (e : SV), x[i]? = some e → ∃ y, u[i]? = some y ∧ Vr W F ρ e y
  | [], u, h, i, el, hi => by simp at hi
  | x :: xs, u, h, i, el, hi => by
    simp only [VrT] at h
    obtain ⟨a, b, rfl, h2, h3⟩ := h
    cases i with
    | zero =>
      simp at hi
      subst hi
      exact ⟨a, rfl, h2⟩
    | succ i => exact VrT.get _ _ h3 i el (by simpa using hi)
theorem VrT.length {W : World} {F : Nat → Prop} {ρ : Nat → Option Loc} : ∀ (x : List SV) (u : List Value), VrT W F ρ x u → u.length = x.length
  | [], u, h => by
    simp only [VrT] at h
    subst h
    rfl
  | x :: xs, u, h => by
    simp only [VrT] at h
    obtain ⟨a, b, rfl, h2, h3⟩ := h
    simp [VrT.length _ _ h3]

/-! ### Memory -/
def BlkOk (W : World) (F : Nat → Prop) (ρ : Nat → Option Loc) (k : Nat) : Blk → Prop
  | .dead => True
  | .box cs => ∃ l vs t, ρ k = some l ∧ W.heap[l.g]? = some (.cells vs.toArray t (0, 0)) ∧ VrL W F ρ cs vs
  | .row sz e els => ∃ l vs, ρ k = some l ∧ W.ownsRow 0 e sz l.s els.length vs ∧ DrLL W F sz els vs ∧ ∀ g, l.s.ownBlock = some g → g = l.g
  | .frz els => ∃ l, ρ k = some l ∧ Dr W F (.row els) l.s
/-- Which block of the world a block of the walk's own lies in. -/
def real (ρ : Nat → Option Loc) (k : Nat) : Blk → Option Nat
  | .box _ => (ρ k).map (·.g)
  | .row _ _ _ => (ρ k).bind fun l => l.s.ownBlock
  | _ => none
structure Inv (gl : List (Nat × List D)) (W0 : World) (S0 F0 : Nat → Prop) (F : Nat → Prop) (ρ : Nat → Option Loc) (M : Nat → Blk) (W : World) : Prop where
  os : W.os = W0.os
  tape : W.tape = W0.tape
  output : W.output = W0.output
  size : W0.heap.size ≤ W.heap.size
  keep : ∀ b, b < W0.heap.size → ¬ S0 b → W.heap[b]? = W0.heap[b]?
  Fsub : ∀ b, F0 b → F b
  Fnew : ∀ b, F b → F0 b ∨ S0 b ∨ W0.heap.size ≤ b
  Flt : ∀ b, F b → b < W.heap.size
  blk : ∀ k, BlkOk W F ρ k (M k)
  apart : ∀ k k' g, k ≠ k' → real ρ k (M k) = some g → real ρ k' (M k') ≠ some g
  own : ∀ k g, real ρ k (M k) = some g → ¬ F g ∧ (S0 g ∨ W0.heap.size ≤ g)
  gl : ∀ x, x ∈ gl → F x.1 ∧ ∃ vs, DrL W F x.2 vs ∧ ∀ (j : Nat) (y : Value), vs[j]? = some y → W.cell? ⟨x.1, j, none⟩ = some y
theorem BlkOk.mono {W W' : World} {F F' : Nat → Prop} {ρ ρ' : Nat → Option Loc} (hF : ∀ b, F b → F' b) (hW : ∀ b, F b → W'.heap[b]? = W.heap[b]?) (hρ : ∀ k l, ρ k = some l → ρ' k = some l)
    {k : Nat} {b : Blk} (h : BlkOk W F ρ k b) (hb : ∀ g, real ρ k b = some g → W'.heap[g]? = W.heap[g]?) : BlkOk W' F' ρ' k b := by
  cases b with
  | dead => trivial
  | box cs =>
    obtain ⟨l, vs, t, h1, h2, h3⟩ := h
    exact ⟨l, vs, t, hρ _ _ h1, by rw [hb l.g (by simp [real, h1])]; exact h2, h3.mono hF hW hρ⟩
  | row sz e els =>
    obtain ⟨l, vs, h1, h2, h3, h4⟩ := h
    refine ⟨l, vs, hρ _ _ h1, ?_, h3.mono hF hW _, h4⟩
    obtain ⟨h5, h6⟩ := h2
    refine ⟨h5, ?_⟩
    rcases h6 with h6 | ⟨g, cap, cur, e1, e2, e3, e4⟩
    · exact .inl h6
    · exact .inr ⟨g, cap, cur, e1, e2, by rw [hb g (by simp [real, h1, e1, Value.ownBlock])]; exact e3, e4⟩
  | frz els =>
    obtain ⟨l, h1, h2⟩ := h
    exact ⟨l, hρ _ _ h1, h2.mono hF hW⟩
theorem BlkOk.lt {W : World} {F : Nat → Prop} {ρ : Nat → Option Loc} {k : Nat} {b : Blk} (h : BlkOk W F ρ k b) {g : Nat} (hg : real ρ k b = some g) : g < W.heap.size := by
  cases b with
  | dead => simp [real] at hg
  | frz => simp [real] at hg
  | box cs =>
    obtain ⟨l, vs, t, h1, h2, h3⟩ := h
    simp [real, h1] at hg
    subst hg
    exact (Array.getElem?_eq_some_iff.1 h2).1
  | row sz e els =>
    obtain ⟨l, vs, h1, h2, h3, h4⟩ := h
    simp [real, h1] at hg
    exact (h2.lt g hg).2
theorem BlkOk.some {W : World} {F : Nat → Prop} {ρ : Nat → Option Loc} {k : Nat} {b : Blk} (h : BlkOk W F ρ k b) (hne : b ≠ .dead) : ∃ l, ρ k = some l := by
  cases b with
  | dead => exact absurd rfl hne
  | frz => exact ⟨_, h.choose_spec.1⟩
  | box cs => obtain ⟨l, vs, t, h1, _⟩ := h; exact ⟨l, h1⟩
  | row sz e els => obtain ⟨l, vs, h1, _⟩ := h; exact ⟨l, h1⟩
theorem real_mono {ρ ρ' : Nat → Option Loc} (hρ : ∀ k l, ρ k = some l → ρ' k = some l) {k : Nat} {b : Blk} {l : Loc} (hl : ρ k = some l) : real ρ' k b = real ρ k b := by
  cases b <;> simp [real, hl, hρ _ _ hl]
end Go.Proofs.Ytdffdnbkinpbiaa.Sx
