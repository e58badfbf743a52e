import Derived.Test.YtdffdnbkinpbiaaSxS1
import Derived.Laws.CopyRow
set_option linter.unusedVariables false
set_option linter.unusedSimpArgs false
namespace Go.Proofs.Ytdffdnbkinpbiaa.Sx
open Go Go.RowKit

/-- Memory with block k anew, and those of Z gone. -/
def put (M : Nat → Blk) (Z : List Nat) (k : Nat) (b : Blk) : Nat → Blk := fun j => if j = k then b else if j ∈ Z then .dead else M j
def ext (ρ : Nat → Option Loc) (k : Nat) (l : Loc) : Nat → Option Loc := fun j => if j = k then some l else ρ j
theorem ext_mono {ρ : Nat → Option Loc} {k : Nat} {l : Loc} (hk : ρ k = none ∨ ρ k = some l) : ∀ j x, ρ j = some x → ext ρ k l j = some x := by
  intro j x hx
  unfold ext
  split
  · rename_i e
    subst e
    rcases hk with h | h
    · rw [h] at hx
      cases hx
    · rw [h] at hx
      exact hx
  · exact hx
section
variable {gl : List (Nat × List D)} {W0 : World} {S0 F0 F : Nat → Prop} {ρ : Nat → Option Loc} {M : Nat → Blk} {W : World}

theorem Inv.next (h : Inv gl W0 S0 F0 F ρ M W) (k : Nat) (b : Blk) (l : Loc) (X : Option Nat) (Z : List Nat) (W' : World)
    (hk : ρ k = none ∨ ρ k = some l) (hos : W'.os = W.os) (htape : W'.tape = W.tape) (hout : W'.output = W.output) (hsize : W.heap.size ≤ W'.heap.size)
    (hX : ∀ c, c < W.heap.size → X ≠ some c → W'.heap[c]? = W.heap[c]?)
    (hXown : ∀ g, X = some g → ∃ j, (j = k ∨ j ∈ Z) ∧ real ρ j (M j) = some g)
    (hb : BlkOk W' F (ext ρ k l) k b)
    (hreal : ∀ g, real (ext ρ k l) k b = some g → (∃ j, (j = k ∨ j ∈ Z) ∧ real ρ j (M j) = some g) ∨ W.heap.size ≤ g) :
    Inv gl W0 S0 F0 F (ext ρ k l) (put M Z k b) W' := by
  have hρ := ext_mono (l := l) hk
  have hXF : ∀ c, F c → W'.heap[c]? = W.heap[c]? := by
    intro c hc
    refine hX c (h.Flt c hc) fun e => ?_
    obtain ⟨j, _, hj⟩ := hXown c e
    exact (h.own j c hj).1 hc
  have hre : ∀ j, j ≠ k → ∀ c, real (ext ρ k l) j c = real ρ j c := by
    intro j hj c
    cases c <;> simp [real, ext, hj]
  have hother : ∀ j g, j ≠ k → real (ext ρ k l) j (put M Z k b j) = some g → j ∉ Z ∧ real ρ j (M j) = some g := by
    intro j g hj hg
    rw [hre j hj] at hg
    unfold put at hg
    rw [if_neg hj] at hg
    by_cases hz : j ∈ Z
    · simp [hz, real] at hg
    · exact ⟨hz, by simpa [hz] using hg⟩
  have hmine : ∀ g, real (ext ρ k l) k (put M Z k b k) = some g → (∃ j, (j = k ∨ j ∈ Z) ∧ real ρ j (M j) = some g) ∨ W.heap.size ≤ g := by
    intro g hg
    unfold put at hg
    rw [if_pos rfl] at hg
    exact hreal g hg
  have hapk : ∀ j g, j ≠ k → real (ext ρ k l) k (put M Z k b k) = some g → real (ext ρ k l) j (put M Z k b j) = some g → False := by
    intro j g hj h1 h2
    obtain ⟨hz, h2⟩ := hother j g hj h2
    rcases hmine g h1 with ⟨i, hi, h3⟩ | h3
    · refine h.apart i j g ?_ h3 h2
      rintro rfl
      rcases hi with hi | hi
      · exact hj hi
      · exact hz hi
    · have := (h.blk j).lt h2
      omega
  refine ⟨hos.trans h.os, htape.trans h.tape, hout.trans h.output, Nat.le_trans h.size hsize, ?_, h.Fsub, h.Fnew, fun c hc => Nat.lt_of_lt_of_le (h.Flt c hc) hsize, ?_, ?_, ?_, ?_⟩
  · intro c hc hs
    rw [← h.keep c hc hs]
    refine hX c (Nat.lt_of_lt_of_le hc h.size) fun e => ?_
    obtain ⟨j, _, hj⟩ := hXown c e
    rcases (h.own j c hj).2 with h1 | h1
    · exact hs h1
    · omega
  · intro j
    by_cases hj : j = k
    · subst hj
      unfold put
      rw [if_pos rfl]
      exact hb
    · unfold put
      rw [if_neg hj]
      by_cases hz : j ∈ Z
      · rw [if_pos hz]
        trivial
      · rw [if_neg hz]
        refine (h.blk j).mono (fun _ h => h) hXF hρ fun g hg => ?_
        refine hX g ((h.blk j).lt hg) fun e => ?_
        obtain ⟨i, hi, h3⟩ := hXown g e
        refine h.apart i j g ?_ h3 hg
        rintro rfl
        rcases hi with hi | hi
        · exact hj hi
        · exact hz hi
  · intro i j g hij h1 h2
    by_cases hi : i = k
    · subst hi
      exact hapk j g (Ne.symm hij) h1 h2
    · by_cases hj : j = k
      · subst hj
        exact hapk i g hij h2 h1
      · exact h.apart i j g hij (hother i g hi h1).2 (hother j g hj h2).2
  · intro j g hg
    by_cases hj : j = k
    · subst hj
      rcases hmine g hg with ⟨i, _, h3⟩ | h3
      · exact h.own i g h3
      · exact ⟨fun hf => by have := h.Flt g hf; omega, .inr (Nat.le_trans h.size h3)⟩
    · exact h.own j g (hother j g hj hg).2
  · intro x hx
    obtain ⟨h1, vs, h2, h3⟩ := h.gl x hx
    refine ⟨h1, vs, h2.mono (fun _ h => h) hXF, fun j y hy => ?_⟩
    rw [← h3 j y hy]
    exact World.cell?_of_block (w := W) (hXF _ h1)

/-- A draw changes nothing. -/
theorem Inv.drew (h : Inv gl W0 S0 F0 F ρ M W) : Inv gl W0 S0 F0 F ρ M { W with drawn := W.drawn + 1 } :=
  ⟨h.os, h.tape, h.output, h.size, h.keep, h.Fsub, h.Fnew, h.Flt, fun k => (h.blk k).mono (W := W) (W' := { W with drawn := W.drawn + 1 }) (fun _ h => h) (fun _ _ => rfl) (fun _ _ h => h) (fun _ _ => rfl), h.apart, h.own, fun x hx => by
    obtain ⟨h1, vs, h2, h3⟩ := h.gl x hx
    exact ⟨h1, vs, h2.mono (W := W) (W' := { W with drawn := W.drawn + 1 }) (fun _ h => h) (fun _ _ => rfl), h3⟩⟩

theorem Dr.drew {x : D} {u : Value} (h : Dr W F x u) : Dr { W with drawn := W.drawn + 1 } F x u := h.mono (W := W) (W' := { W with drawn := W.drawn + 1 }) (fun _ h => h) (fun _ _ => rfl)

/-- What is known less of. -/
inductive Ble : Blk → Blk → Prop
  | dead (b : Blk) : Ble .dead b
  | same (b : Blk) : Ble b b
theorem Inv.weaken (h : Inv gl W0 S0 F0 F ρ M W) {M' : Nat → Blk} (hM : ∀ k, M' k = .dead ∨ M' k = M k) : Inv gl W0 S0 F0 F ρ M' W := by
  refine ⟨h.os, h.tape, h.output, h.size, h.keep, h.Fsub, h.Fnew, h.Flt, ?_, ?_, ?_, h.gl⟩
  · intro k
    rcases hM k with e | e
    · rw [e]
      trivial
    · rw [e]
      exact h.blk k
  · intro i j g hij h1 h2
    rcases hM i with e | e
    · rw [e] at h1
      simp [real] at h1
    · rcases hM j with e' | e'
      · rw [e'] at h2
        simp [real] at h2
      · rw [e] at h1
        rw [e'] at h2
        exact h.apart i j g hij h1 h2
  · intro j g hg
    rcases hM j with e | e
    · rw [e] at hg
      simp [real] at hg
    · rw [e] at hg
      exact h.own j g hg

/-- The cells of a row of the walk's own. -/
theorem row_cells {W : World} {e : TypeId} {sz n : Nat} {v : Value} {vs : List Value} (h : W.ownsRow 0 e sz v n vs) : ∃ A c, v = .slice A n c ∧ n ≤ c ∧ (0 < n → ∃ g, A = some ⟨g, 0, none⟩ ∧ v.ownBlock = some g ∧ ∀ j y, vs[j]? = some y → W.cell? ⟨g, j, none⟩ = some y) := by
  rcases h.2 with ⟨h1, h2⟩ | ⟨g, cap, cur, h1, h2, h3, h4, h5, h6, h7⟩
  · subst h1
    subst h2
    exact ⟨none, 0, rfl, Nat.le_refl _, fun h => absurd h (by omega)⟩
  · refine ⟨_, cap, h1, h4, fun _ => ⟨g, rfl, by rw [h1]; rfl, fun j y hy => ?_⟩⟩
    have := h.cells (g := g) (by rw [h1]; rfl) j y hy
    rwa [add_new] at this

/-- A row of the walk's own is frozen: it may be read for ever, and never written any more. -/
theorem Inv.freeze (h : Inv gl W0 S0 F0 F ρ M W) (k sz : Nat) (e : TypeId) (els : List (List D)) (hM : M k = .row sz e els) :
    ∃ F', (∀ b, F b → F' b) ∧ Inv gl W0 S0 F0 F' ρ (put M [] k (.frz els)) W ∧ ∃ l, ρ k = some l ∧ Dr W F' (.row els) l.s := by
  have hb := h.blk k
  rw [hM] at hb
  obtain ⟨l, vs, h1, h2, h3, h4⟩ := hb
  have hF : ∀ b, F b → (F b ∨ l.s.ownBlock = some b) := fun _ h => .inl h
  have hr : real ρ k (M k) = l.s.ownBlock := by rw [hM]; simp [real, h1]
  obtain ⟨A, c, e1, e2, e3⟩ := row_cells h2
  have hdr : Dr W (fun b => F b ∨ l.s.ownBlock = some b) (.row els) l.s := by
    simp only [Dr]
    refine ⟨A, c, vs, sz, e1, e2, h3.mono hF (fun _ _ => rfl), fun hne => ?_⟩
    obtain ⟨g, e4, e5, e6⟩ := e3 (by have := List.length_pos_iff.2 hne; omega)
    exact ⟨_, e4, .inr e5, fun j y hy => by rw [add_new]; exact e6 j y hy⟩
  refine ⟨fun b => F b ∨ l.s.ownBlock = some b, hF, ?_, l, h1, hdr⟩
  have hoth : ∀ j g, real ρ j (put M [] k (.frz els) j) = some g → j ≠ k ∧ real ρ j (M j) = some g := by
    intro j g hg
    unfold put at hg
    by_cases hj : j = k
    · simp [hj, real] at hg
    · simp [hj] at hg
      exact ⟨hj, hg⟩
  refine ⟨h.os, h.tape, h.output, h.size, h.keep, fun b hb => .inl (h.Fsub b hb), ?_, ?_, ?_, ?_, ?_, ?_⟩
  · rintro b (hb | hb)
    · exact h.Fnew b hb
    · exact .inr (h.own k b (by rw [hr]; exact hb)).2
  · rintro b (hb | hb)
    · exact h.Flt b hb
    · exact (h.blk k).lt (by rw [hr]; exact hb)
  · intro j
    by_cases hj : j = k
    · subst hj
      unfold put
      rw [if_pos rfl]
      exact ⟨l, h1, hdr⟩
    · unfold put
      simp only [hj, if_false, List.not_mem_nil]
      exact (h.blk j).mono hF (fun _ _ => rfl) (fun _ _ h => h) (fun _ _ => rfl)
  · intro i j g hij h5 h6
    exact h.apart i j g hij (hoth i g h5).2 (hoth j g h6).2
  · intro j g hg
    obtain ⟨hj, hg⟩ := hoth j g hg
    refine ⟨?_, (h.own j g hg).2⟩
    rintro (hf | hf)
    · exact (h.own j g hg).1 hf
    · exact h.apart k j g (Ne.symm hj) (by rw [hr]; exact hf) hg
  · intro x hx
    obtain ⟨h5, us, h6, h7⟩ := h.gl x hx
    exact ⟨.inl h5, us, h6.mono hF (fun _ _ => rfl), h7⟩
end
end Go.Proofs.Ytdffdnbkinpbiaa.Sx
