import Derived.Test.YtdffdnbkinpbiaaSxS12
set_option linter.unusedVariables false
set_option linter.unusedSimpArgs false
namespace Go.Proofs.Ytdffdnbkinpbiaa.Sx
open Go Go.RowKit

/-! ### Memory as a list -/
def memF (mem : List Blk) : Nat → Blk := fun k => mem.getD k .dead
def frzL (mem : List Blk) : List Nat → List Blk
  | [] => mem
  | k :: ks => frzL (mem.set k (frzB (memF mem k))) ks
def killL (mem : List Blk) : List Nat → List Blk
  | [] => mem
  | k :: ks => killL (mem.set k .dead) ks
def applyE (mem : List Blk) (E : Eff) : List Blk :=
  match E.chg with
  | .same => frzL mem E.frz
  | .nw b => killL (frzL mem E.frz) E.kill ++ [b]
  | .upd k b => (frzL mem E.frz).set k b
  | .nws bs => frzL mem E.frz ++ bs
theorem memF_set (mem : List Blk) (k : Nat) (b : Blk) (h : k < mem.length ∨ b = .dead) (j : Nat) : memF (mem.set k b) j = if j = k then b else memF mem j := by
  unfold memF
  simp only [List.getD_eq_getElem?_getD, List.getElem?_set]
  by_cases hj : j = k
  · subst hj
    by_cases hl : j < mem.length
    · simp [hl]
    · rcases h with h | h
      · exact absurd h hl
      · subst h
        simp [hl, List.getElem?_eq_none (Nat.le_of_not_lt hl)]
  · simp [hj, Ne.symm hj]
theorem frzB_frzB (b : Blk) : frzB (frzB b) = frzB b := by cases b <;> rfl
theorem memF_frzL : ∀ (ks : List Nat) (mem : List Blk) (j : Nat), memF (frzL mem ks) j = frzM (memF mem) ks j
  | [], mem, j => by simp [frzL, frzM]
  | k :: ks, mem, j => by
    have hd : k < mem.length ∨ frzB (memF mem k) = .dead := by
      rcases Nat.lt_or_ge k mem.length with h | h
      · exact .inl h
      · right
        simp [memF, List.getElem?_eq_none h, frzB]
    simp only [frzL]
    rw [memF_frzL ks]
    unfold frzM
    rw [memF_set _ _ _ hd]
    by_cases hj : j = k
    · subst hj
      by_cases hm : j ∈ ks <;> simp [hm, frzB_frzB]
    · by_cases hm : j ∈ ks <;> simp [hm, hj]
theorem memF_killL : ∀ (ks : List Nat) (mem : List Blk) (j : Nat), memF (killL mem ks) j = if j ∈ ks then .dead else memF mem j
  | [], mem, j => by simp [killL]
  | k :: ks, mem, j => by
    simp only [killL]
    rw [memF_killL ks, memF_set _ _ _ (.inr rfl)]
    by_cases hm : j ∈ ks
    · simp [hm]
    · by_cases hj : j = k <;> simp [hm, hj]
theorem frzL_length : ∀ (ks : List Nat) (mem : List Blk), (frzL mem ks).length = mem.length
  | [], mem => rfl
  | k :: ks, mem => by simp only [frzL]; rw [frzL_length ks]; simp
theorem killL_length : ∀ (ks : List Nat) (mem : List Blk), (killL mem ks).length = mem.length
  | [], mem => rfl
  | k :: ks, mem => by simp only [killL]; rw [killL_length ks]; simp
theorem memF_snoc (mem : List Blk) (b : Blk) (j : Nat) : memF (mem ++ [b]) j = if j = mem.length then b else memF mem j := by
  unfold memF
  simp only [List.getD_eq_getElem?_getD]
  by_cases hj : j = mem.length
  · subst hj
    simp
  · rw [if_neg hj]
    rcases Nat.lt_or_ge j mem.length with h | h
    · rw [List.getElem?_append_left h]
    · rw [List.getElem?_eq_none h, List.getElem?_eq_none (by simp; omega)]
theorem memF_applyE {mem : List Blk} {E : Eff} (hk : ∀ k b, E.chg = .upd k b → k < mem.length) (j : Nat) : memF (applyE mem E) j = effM (memF mem) mem.length E j := by
  unfold applyE effM
  cases hc : E.chg with
  | same => exact memF_frzL _ _ _
  | nw b =>
    simp only
    rw [memF_snoc, killL_length, frzL_length, memF_killL, memF_frzL]
    rfl
  | upd k b =>
    simp only
    rw [memF_set _ _ _ (.inl (by rw [frzL_length]; exact hk k b hc)), memF_frzL]
    unfold put
    simp
  | nws bs =>
    simp only
    rw [← memF_frzL]
    unfold memF
    simp only [List.getD_eq_getElem?_getD]
    rcases Nat.lt_or_ge j mem.length with hj | hj
    · rw [if_neg (by omega), List.getElem?_append_left (by rw [frzL_length]; exact hj)]
    · rw [List.getElem?_append_right (by rw [frzL_length]; exact hj), frzL_length]
      by_cases h2 : j < mem.length + bs.length
      · rw [if_pos ⟨hj, h2⟩]
      · rw [if_neg (by omega), List.getElem?_eq_none (by omega), List.getElem?_eq_none (by rw [frzL_length]; exact hj)]
theorem applyE_length {mem : List Blk} {E : Eff} : (applyE mem E).length = mem.length + E.cnt := by
  unfold applyE Eff.cnt
  cases E.chg <;> simp [frzL_length, killL_length]

/-! ### Contracts -/
def ADr (W : World) (F : Nat → Prop) (ρ : Nat → Option Loc) : AD → Value → Prop
  | .one x, u => Dr W F x u
  | .agg l, u => ∃ vs : List Value, u = .agg vs.toArray ∧ DrL W F l vs
  | .ptr k, u => ∃ l, ρ k = some l ∧ u = .pointer (some ⟨l.g, 0, none⟩)
def ADrL (W : World) (F : Nat → Prop) (ρ : Nat → Option Loc) : List AD → List Value → Prop
  | [], vs => vs = []
  | x :: xs, vs => ∃ u t, vs = u :: t ∧ ADr W F ρ x u ∧ ADrL W F ρ xs t
/-- A call of f with these arguments, over a memory of these blocks, comes to this result, over that memory. -/
def AC (P : Program) (gl : List (Nat × List D)) (f : FuncId) (args : List AD) (ms : List Blk) (res : SV) (ms' : List Blk) : Prop :=
  ∀ (W : World) (S F : Nat → Prop) (ρ : Nat → Option Loc) (vals : List Value), Inv gl W S F F ρ (memF ms) W → (∀ k, ms.length ≤ k → ρ k = none) → ADrL W F ρ args vals →
    Calls P f vals.toArray W fun e W' => ∃ v F' ρ', e = .returned v ∧ Inv gl W S F F' ρ' (memF ms') W' ∧ (∀ k l, ρ k = some l → ρ' k = some l) ∧ (∀ k, ms'.length ≤ k → ρ' k = none) ∧ Vr W' F' ρ' res v

/-! Names of blocks turned -/
mutual
def SV.ren (f : Nat → Nat) : SV → SV
  | .own k => .own (f k)
  | .ptr k off => .ptr (f k) off
  | .eptr k sz n off => .eptr (f k) sz n off
  | .agg l => .agg (SV.renL f l)
  | .tup l => .tup (SV.renL f l)
  | .any => .any
  | .lit b => .lit b
  | .d x => .d x
  | .rptr sz xs n off => .rptr sz xs n off
def SV.renL (f : Nat → Nat) : List SV → List SV
  | [] => []
  | x :: xs => x.ren f :: SV.renL f xs
end
def Blk.ren (f : Nat → Nat) : Blk → Blk
  | .box cs => .box (SV.renL f cs)
  | b => b
section
variable {W : World} {F : Nat → Prop} {ρ : Nat → Option Loc} {f : Nat → Nat}
mutual
theorem Vr.ren : ∀ (x : SV) (u : Value), Vr W F ρ (x.ren f) u ↔ Vr W F (fun k => ρ (f k)) x u
  | .own k, u => by simp only [SV.ren, Vr]
  | .ptr k off, u => by simp only [SV.ren, Vr]
  | .eptr k sz n off, u => by simp only [SV.ren, Vr]
  | .agg l, u => by simp only [SV.ren, Vr, VrL.ren l]
  | .tup l, u => by simp only [SV.ren, Vr, VrT.ren l]
  | .any, u => by simp only [SV.ren, Vr]
  | .lit b, u => by simp only [SV.ren, Vr]
  | .d x, u => by simp only [SV.ren, Vr]
  | .rptr sz xs n off, u => by simp only [SV.ren, Vr]
theorem VrL.ren : ∀ (x : List SV) (u : List Value), VrL W F ρ (SV.renL f x) u ↔ VrL W F (fun k => ρ (f k)) x u
  | [], u => by simp only [SV.renL, VrL]
  | x :: xs, u => by simp only [SV.renL, VrL, Vr.ren x, VrL.ren xs]
theorem VrT.ren : ∀ (x : List SV) (u : List Value), VrT W F ρ (SV.renL f x) u ↔ VrT W F (fun k => ρ (f k)) x u
  | [], u => by simp only [SV.renL, VrT]
  | x :: xs, u => by simp only [SV.renL, VrT, Vr.ren x, VrT.ren xs]
end
theorem BlkOk.ren {k : Nat} {b : Blk} : BlkOk W F ρ (f k) (b.ren f) ↔ BlkOk W F (fun k => ρ (f k)) k b := by
  cases b <;> simp only [Blk.ren, BlkOk, VrL.ren]
theorem real_ren {k : Nat} {b : Blk} : real ρ (f k) (b.ren f) = real (fun k => ρ (f k)) k b := by
  cases b <;> rfl
end
end Go.Proofs.Ytdffdnbkinpbiaa.Sx
