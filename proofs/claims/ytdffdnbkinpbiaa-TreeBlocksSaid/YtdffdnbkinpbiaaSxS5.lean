import Derived.Test.YtdffdnbkinpbiaaSxS4
import Derived.Laws.MakeOwn
set_option linter.unusedVariables false
set_option linter.unusedSimpArgs false
namespace Go.Proofs.Ytdffdnbkinpbiaa.Sx
open Go Go.RowKit

def zeroT (P : Program) (t : TypeId) : Option Value := (P.info? t).bind (·.zero)
theorem run_zero {P : Program} {t : TypeId} {z : Value} (h : zeroT P t = some z) (W : World) : (zeroValue t).run P W = .ok z W := by
  simp only [zeroT, Option.bind_eq_some_iff] at h
  obtain ⟨i, h1, h2⟩ := h
  simp [zeroValue, typeInfo, h1, h2]
theorem one'_eq (v : Value) : one' v = v.oneCell' := by cases v <;> rfl
theorem ofCell_ok {W : World} {F : Nat → Prop} {ρ : Nat → Option Loc} (v : Value) (h : v.oneCell' = true) : Vr W F ρ (ofCell v) v := by
  unfold ofCell
  split
  · simp only [Vr]
  · simp only [Vr, Dr]
  · simp only [Vr, Dr]
    exact ⟨trivial, h⟩
theorem ofCells_ok {W : World} {F : Nat → Prop} {ρ : Nat → Option Loc} : ∀ (l : List Value), (∀ v ∈ l, v.oneCell' = true) → VrL W F ρ (l.map ofCell) l
  | [], _ => by simp only [List.map_nil, VrL]
  | v :: l, h => by
    simp only [List.map_cons, VrL]
    exact ⟨v, l, rfl, ofCell_ok v (h v (by simp)), h v (by simp), ofCells_ok l fun x hx => h x (by simp [hx])⟩
theorem ofVal_ok {W : World} {F : Nat → Prop} {ρ : Nat → Option Loc} (v : Value) : Vr W F ρ (ofVal v) v := by
  have key : v.oneCell' = true → Vr W F ρ (ofCell v) v := ofCell_ok v
  cases v with
  | agg cs =>
    simp only [ofVal]
    split
    · rename_i h
      simp only [Vr]
      refine ⟨cs.toList, by simp, ofCells_ok _ fun v hv => ?_⟩
      rw [← one'_eq]
      exact List.all_eq_true.1 h v hv
    · simp only [Vr]
  | tuple cs => simp only [ofVal, Vr]
  | _ => exact key rfl

/-! The literals -/
def bfill (place : Nat → Option (Nat × Nat)) (cells : List SV) : List (Nat × SV) → Option (List SV)
  | [] => some cells
  | (i, v) :: rest => match place i, cellsOf v with
    | some (off, size), some l => if l.length = size ∧ off + l.length ≤ cells.length then bfill place (splice cells off l) rest else none
    | _, _ => none
theorem fold_splice : ∀ (l : List Value) (k off : Nat) (arr : Array Value), off + k + l.length ≤ arr.size → ((l.zipIdx k).foldl (fun cs (x : Value × Nat) => cs.setIfInBounds (off + x.2) x.1) arr).toList = splice arr.toList (off + k) l
  | [], k, off, arr, h => by simp [splice]
  | v :: l, k, off, arr, h => by
    simp only [List.length_cons] at h
    simp only [List.zipIdx_cons, List.foldl_cons]
    rw [fold_splice l (k + 1) off _ (by simp; omega)]
    apply List.ext_getElem?
    intro i
    rw [splice_get _ _ _ (by simp; omega), splice_get _ _ _ (by simp; omega)]
    simp only [Array.toList_setIfInBounds, List.length_cons]
    by_cases h1 : i < off + k
    · rw [if_pos (by omega), if_pos h1, List.getElem?_set, if_neg (by omega)]
    · rw [if_neg h1]
      by_cases h2 : i = off + k
      · subst h2
        rw [if_pos (by omega), if_pos (by omega), List.getElem?_set, if_pos rfl, if_pos (by simp; omega)]
        simp
      · rw [if_neg (by omega)]
        by_cases h3 : i < off + (k + 1) + l.length
        · rw [if_pos (by omega), if_pos (by omega), show i - (off + k) = (i - (off + (k + 1))) + 1 by omega, List.getElem?_cons_succ]
        · rw [if_neg (by omega), if_neg (by omega), List.getElem?_set, if_neg (by omega)]
theorem bfill_ok {W : World} {F : Nat → Prop} {ρ : Nat → Option Loc} (place : Nat → Option (Nat × Nat)) : ∀ (parts : List (Nat × SV)) (us : List (Nat × Value)) (cells : List SV) (arr : Array Value) (out : List SV),
    bfill place cells parts = some out → VrL W F ρ cells arr.toList → us.length = parts.length → (∀ (j : Nat) (p : Nat × SV), parts[j]? = some p → ∃ u, us[j]? = some (p.1, u) ∧ Vr W F ρ p.2 u) →
    ∃ vs : List Value, Instr.fill place arr us = some vs.toArray ∧ VrL W F ρ out vs
  | [], us, cells, arr, out, h, hv, hl, hp => by
    simp [bfill] at h
    subst h
    have : us = [] := List.eq_nil_of_length_eq_zero (by simpa using hl)
    subst this
    exact ⟨arr.toList, by simp [Instr.fill], hv⟩
  | (i, v) :: rest, us, cells, arr, out, h, hv, hl, hp => by
    obtain ⟨u, h1, h2⟩ := hp 0 (i, v) rfl
    cases us with
    | nil => simp at h1
    | cons w us =>
      simp at h1
      subst h1
      simp only [bfill] at h
      cases h3 : place i with
      | none => simp [h3] at h
      | some p =>
        obtain ⟨off, size⟩ := p
        cases h4 : cellsOf v with
        | none => simp [h3, h4] at h
        | some l =>
          simp only [h3, h4] at h
          split at h
          · rename_i hc
            have h5 := cellsOf_ok h4 h2
            have h6 := h5.length
            have h7 := hv.length
            have e1 : u.cells.size = size := by rw [← Array.length_toList]; omega
            have e2 : arr.size = cells.length := by rw [← Array.length_toList]; omega
            have hne : ¬ ((decide (u.cells.size ≠ size) || decide (off + u.cells.size > arr.size)) = true) := by
              simp
              omega
            simp only [Instr.fill, h3]
            have hf := fold_splice u.cells.toList 0 off arr (by simp; omega)
            have hfold : u.cells.zipIdx.foldl (fun cs (x : Value × Nat) => cs.setIfInBounds (off + x.2) x.1) arr = (splice arr.toList off u.cells.toList).toArray := by
              apply Array.toList_inj.1
              rw [← Array.foldl_toList, Array.toList_zipIdx]
              simpa using hf
            obtain ⟨vs, q1, q2⟩ := bfill_ok place rest us (splice cells off l) (splice arr.toList off u.cells.toList).toArray out h (VrL.splice _ _ _ _ off hv h5) (by simpa using hl) (fun j p hj => hp (j + 1) p (by simpa using hj))
            refine ⟨vs, ?_, q2⟩
            rw [if_neg (by simpa using hne)]
            rw [← q1]
            congr 1
          · cases h
end Go.Proofs.Ytdffdnbkinpbiaa.Sx
