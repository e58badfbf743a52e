import Derived.Test.YtdffdnbkinpbiaaSxS15
set_option linter.unusedVariables false
set_option linter.unusedSimpArgs false
namespace Go.Proofs.Ytdffdnbkinpbiaa.Sx
open Go Go.RowKit

/-! ### More is known of the memory: the same answer -/
section
variable {P : Program} {gl : List (Nat × List D)} {M M' : Nat → Blk} (hM : ∀ k, M k = .dead ∨ M k = M' k)
include hM
theorem toD_mono (x : SV) (r : D × List Nat) (h : toD M x = some r) : toD M' x = some r := by
  cases x with
  | own k =>
    simp only [toD] at h ⊢
    rcases hM k with e | e
    · simp [e] at h
    · rwa [← e]
  | d y => cases y <;> exact h
  | _ => exact h
theorem toDL_mono : ∀ (xs : List SV) (r : List D × List Nat), toDL M xs = some r → toDL M' xs = some r
  | [], r, h => h
  | x :: xs, r, h => by
    simp only [toDL] at h ⊢
    split at h
    · rename_i d k ds ks h1 h2
      rw [toD_mono hM x _ h1, toDL_mono xs _ h2]
      exact h
    · cases h
theorem readRow_mono (x : SV) (r : List (List D)) (h : readRow M x = some r) : readRow M' x = some r := by
  cases x with
  | own k =>
    simp only [readRow] at h ⊢
    rcases hM k with e | e
    · simp [e] at h
    · rwa [← e]
  | d y => cases y <;> exact h
  | _ => exact h
theorem loadx_mono {orc : Option Orc} {t : TypeId} {a : SV} {E : Eff} (h : loadx P gl M orc t a = some E) : loadx P gl M' orc t a = some E := by
  cases a with
  | ptr k off =>
    rcases hM k with e | e
    · unfold loadx at h
      split at h
      · simp [e] at h
      · cases h
    · unfold loadx at h ⊢
      simpa only [← e] using h
  | eptr k sz n off =>
    rcases hM k with e | e
    · unfold loadx at h
      split at h
      · simp [e] at h
      · cases h
    · unfold loadx at h ⊢
      simpa only [← e] using h
  | d y =>
    cases y with
    | v z =>
      cases z with
      | pointer p =>
        cases p with
        | none => exact h
        | some ad =>
          obtain ⟨g, off, spot⟩ := ad
          cases off <;> cases spot <;> exact h
      | _ => exact h
    | _ => exact h
  | _ => exact h
theorem storex_mono {orc : Option Orc} {t : TypeId} {a v : SV} {E : Eff} (h : storex P M orc t a v = some E) : storex P M' orc t a v = some E := by
  unfold storex at h ⊢
  split at h
  · rename_i s cells h1 h2
    split at h
    · rename_i hl
      rw [if_pos hl]
      cases a with
      | ptr k off =>
        simp only at h ⊢
        rcases hM k with e | e
        · simp [e] at h
        · rwa [← e]
      | eptr k sz n off =>
        simp only at h ⊢
        rcases hM k with e | e
        · simp [e] at h
        · rw [← e]
          cases hd : toDL M cells with
          | none =>
            cases hb : M k <;> simp [hb, hd] at h
          | some r =>
            rw [toDL_mono hM cells r hd]
            rw [hd] at h
            exact h
      | _ => simp at h
    · cases h
  · cases h
theorem appendx_mono {c : Nat} {t : TypeId} {s x : SV} {E : Eff} (h : appendx P M c t s x = some E) : appendx P M' c t s x = some E := by
  unfold appendx at h ⊢
  split at h
  · rename_i e he
    split at h
    · rename_i sz by_ zs xs h1 h2 h3 h4
      simp only [h1, h2, h3, readRow_mono hM x xs h4]
      split at h
      · rename_i hp
        rw [if_pos hp]
        cases s with
        | own k =>
          simp only at h ⊢
          rcases hM k with e' | e'
          · simp [e'] at h
          · rwa [← e']
        | d y => cases y <;> exact h
        | _ => exact h
      · cases h
    · cases h
  · cases h
theorem bltx_mono {c : Nat} {ev : Operand → SV} {ty : TypeId} {b : Builtin} {as : List Operand} {ts : List TypeId} {E : Eff} (h : bltx P M c ev ty b as ts = some E) : bltx P M' c ev ty b as ts = some E := by
  unfold bltx at h ⊢
  split at h
  · split at h
    · split at h
      · rename_i xs hx
        rw [readRow_mono hM _ xs hx]
        exact h
      · cases h
    · exact h
    · cases h
  · split at h
    · rename_i e
      rw [if_pos e]
      exact appendx_mono hM h
    · cases h
  · exact h
  · exact h
  · cases h
theorem opx_mono {tmv : Nat → SV} {c : Nat} {orc : Option Orc} {o : Oper} {E : Eff} (h : opx P gl tmv M c orc o = some E) : opx P gl tmv M' c orc o = some E := by
  obtain ⟨dst, op, ty, pos, after, guard⟩ := o
  cases op with
  | buildSlice t len parts =>
    simp only [opx] at h ⊢
    split at h
    · split at h
      · split at h
        · rename_i hc
          rw [if_pos hc]
          split at h
          · split at h
            · rename_i ds ks hd
              rw [toDL_mono hM _ _ hd]
              exact h
            · cases h
          · cases h
        · cases h
      · cases h
    · cases h
  | load t a => exact loadx_mono hM h
  | store t a v => exact storex_mono hM h
  | slice t x lo hi mx =>
    cases mx with
    | some m => exact h
    | none =>
      simp only [opx] at h ⊢
      split at h
      · split at h
        · rename_i s xs l h1 h2 h3
          rw [h1, readRow_mono hM _ _ h2, h3]
          exact h
        · cases h
      · cases h
  | sliceToArrayPointer arr x =>
    simp only [opx] at h ⊢
    split at h
    · rename_i n e xs h1 h2
      rw [h1, readRow_mono hM _ _ h2]
      exact h
    · cases h
  | makeSlice t l k =>
    simp only [opx] at h ⊢
    split at h
    · split at h
      · split at h
        · rename_i hc
          rw [if_pos hc]
          split at h
          · rename_i ds hd
            rw [toDL_mono hM _ _ hd]
            exact h
          · cases h
        · cases h
      · cases h
    · cases h
  | indexAddr t x i =>
    simp only [opx] at h ⊢
    split at h
    · split at h
      · rename_i s k h3 h4
        rcases hM k with e' | e'
        · simp [e'] at h
        · rwa [← e']
      · rename_i s xs h3 h4
        exact h
      · cases h
    · exact h
    · cases h
  | call k =>
    simp only [opx] at h ⊢
    split at h
    · exact bltx_mono hM h
    · cases h
  | _ => exact h
theorem opxX_mono {tmv : Nat → SV} {o : Oper} {E : Eff} (h : opxX P gl tmv M o = some E) : opxX P gl tmv M' o = some E := by
  obtain ⟨dst, op, ty, pos, after, guard⟩ := o
  cases op with
  | convert s d x =>
    simp only [opxX] at h ⊢
    split at h
    · rename_i e h1 h2
      split at h
      · rename_i xs h3 h4
        simp only [h1, h2, h3, readRow_mono hM _ xs h4]
        exact h
      · cases h
    · cases h
  | slice t x lo hi mx => cases lo <;> cases hi <;> cases mx <;> exact h
  | call k =>
    simp only [opxX] at h ⊢
    split at h
    · rename_i d s t t' h1 h2 h3
      unfold copyx at h ⊢
      split at h
      · rename_i e kd xs g1 g2 g3
        simp only [g1, g2, readRow_mono hM _ xs g3]
        rcases hM kd with e' | e'
        · simp [e'] at h
        · rwa [← e']
      · cases h
    · cases h
  | _ => exact h
theorem opy_mono {tmv : Nat → SV} {c : Nat} {orc : Option Orc} {o : Oper} {E : Eff} (h : opy P gl tmv M c orc o = some E) : opy P gl tmv M' c orc o = some E := by
  unfold opy at h ⊢
  split at h
  · rename_i E' hE
    rw [opxX_mono hM hE]
    exact h
  · rename_i hn
    have : opxX P gl tmv M' o = none := by
      obtain ⟨dst, op, ty, pos, after, guard⟩ := o
      cases op with
      | convert s d x =>
        simp only [opx] at h
        simp only [opxX] at hn ⊢
        split at h
        · rename_i v hv
          split
          · rename_i e h1 h2
            split
            · rename_i xs h3 h4
              cases hx : ofOpd tmv x with
              | own k => simp [hx, scal] at hv
              | d y => cases y <;> simp [hx, scal, readRow] at hv h4
              | _ => simp [hx, readRow] at h4
            · rfl
          · rfl
        · cases h
      | slice t x lo hi mx => cases lo <;> cases hi <;> cases mx <;> exact hn
      | call k =>
        simp only [opxX]
        split
        · rename_i d s t t' h1 h2 h3
          simp [opx, h1, bltx] at h
        · rfl
      | _ => exact hn
    rw [this]
    exact opx_mono hM h
theorem toAD_mono (x : SV) (r : AD × List Nat) (h : toAD M x = some r) : toAD M' x = some r := by
  cases x with
  | agg l =>
    simp only [toAD] at h ⊢
    split at h
    · rename_i ds ks hd
      rw [toDL_mono hM _ _ hd]
      exact h
    · cases h
  | _ =>
    simp only [toAD] at h ⊢
    split at h
    · rename_i d ks hd
      rw [toD_mono hM _ _ hd]
      exact h
    · cases h
theorem toADL_mono : ∀ (xs : List SV) (r : List AD × List Nat), toADL M xs = some r → toADL M' xs = some r
  | [], r, h => h
  | x :: xs, r, h => by
    simp only [toADL] at h ⊢
    split at h
    · rename_i d k ds ks h1 h2
      rw [toAD_mono hM x _ h1, toADL_mono xs _ h2]
      exact h
    · cases h
theorem opG_mono {tmv : Nat → SV} {c : Nat} {orc : Option Orc} {o : Oper} {E : Eff} (h : opG P gl tmv M c orc o = some E) : opG P gl tmv M' c orc o = some E := by
  unfold opG at h ⊢
  split at h
  · split at h
    · split at h
      · split at h
        · rename_i hc
          rw [if_pos hc]
          split at h
          · rename_i args ks ha
            rw [toADL_mono hM _ _ ha]
            exact h
          · cases h
        · cases h
      · cases h
    · exact opy_mono hM h
  · exact opy_mono hM h
end
end Go.Proofs.Ytdffdnbkinpbiaa.Sx
