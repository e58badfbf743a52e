import Derived.Test.YtdffdnbkinpbiaaSxS5
set_option linter.unusedVariables false
set_option linter.unusedSimpArgs false
namespace Go.Proofs.Ytdffdnbkinpbiaa.Sx
open Go Go.RowKit

section
variable {P : Program} {gl : List (Nat × List D)} {W0 : World} {S0 F0 F : Nat → Prop} {ρ : Nat → Option Loc} {M : Nat → Blk} {W : World}
theorem frzM_nil : frzM M [] = M := by
  funext j
  simp [frzM]
theorem ext_at {c : Nat} {l : Loc} : ext ρ c l c = some l := by simp [ext]
theorem real_ext_new {c : Nat} {l : Loc} {k : Nat} {b : Blk} : real (ext ρ c l) c (.box []) = some l.g := by simp [real, ext]
/-- A new variable. -/
theorem new_box {c : Nat} (h : Inv gl W0 S0 F0 F ρ M W) (hc : ρ c = none) (cells : List SV) (vs : List Value) (ty : TypeId) (hv : VrL W F ρ cells vs) :
    Runs gl W0 S0 F0 F ρ M W c { val := .ptr c 0, chg := .nw (.box cells) } (.pointer (some ⟨W.heap.size, 0, none⟩)) (W.alloc (.cells vs.toArray ty)) F (ext ρ c ⟨W.heap.size, undef⟩) := by
  have hm : ∀ k l, ρ k = some l → ext ρ c ⟨W.heap.size, undef⟩ k = some l := ext_mono (.inl hc)
  have hsame : ∀ b, F b → (W.alloc (.cells vs.toArray ty)).heap[b]? = W.heap[b]? := fun b hb => heap_alloc_old W _ (h.Flt b hb)
  have hnext := h.next c (.box cells) ⟨W.heap.size, undef⟩ none [] (W.alloc (.cells vs.toArray ty)) (.inl hc) rfl rfl rfl (by simp)
    (fun b hb _ => heap_alloc_old W _ hb) (fun g hg => by cases hg)
    ⟨⟨W.heap.size, undef⟩, vs, ty, ext_at, heap_alloc_new W _, hv.mono (fun _ h => h) hsame hm⟩
    (fun g hg => .inr (by simp [real, ext] at hg; omega))
  refine ⟨hnext.congr fun j => by simp [effM, frzM_nil], fun _ h => h, hm, fun k hk => by simp [ext, hk], hsame, ?_, fun hn => absurd rfl (hn _), fun bs h => by cases h⟩
  simp only [Vr]
  exact ⟨_, ext_at, rfl⟩
/-- A new row. -/
theorem new_row {c : Nat} {ks : List Nat} (h : Inv gl W0 S0 F0 F ρ (frzM M ks) W) (hc : ρ c = none) (sz : Nat) (e : TypeId) (els : List (List D)) (vs : List Value) (hv : DrLL W F sz els vs) (hm : els.length ≤ maxLen) :
    Runs gl W0 S0 F0 F ρ M W c { val := .own c, frz := ks, chg := .nw (.row sz e els) } (.slice (some ⟨W.heap.size, 0, none⟩) els.length els.length) (W.alloc (.cells vs.toArray e)) F
      (ext ρ c ⟨W.heap.size, .slice (some ⟨W.heap.size, 0, none⟩) els.length els.length⟩) := by
  have hm' : ∀ k l, ρ k = some l → ext ρ c ⟨W.heap.size, .slice (some ⟨W.heap.size, 0, none⟩) els.length els.length⟩ k = some l := ext_mono (.inl hc)
  have hsame : ∀ b, F b → (W.alloc (.cells vs.toArray e)).heap[b]? = W.heap[b]? := fun b hb => heap_alloc_old W _ (h.Flt b hb)
  have hlen := hv.length
  have hnext := h.next c (.row sz e els) ⟨W.heap.size, .slice (some ⟨W.heap.size, 0, none⟩) els.length els.length⟩ none [] (W.alloc (.cells vs.toArray e)) (.inl hc) rfl rfl rfl (by simp)
    (fun b hb _ => heap_alloc_old W _ hb) (fun g hg => by cases hg)
    ⟨_, vs, ext_at, ⟨hlen, .inr ⟨W.heap.size, els.length, vs.toArray, rfl, Nat.zero_le _, heap_alloc_new W _, Nat.le_refl _, hm, by simpa using hlen, by rw [← hlen]; simp⟩⟩, hv.mono (fun _ h => h) hsame _, fun g hg => by simpa [Value.ownBlock] using hg.symm⟩
    (fun g hg => .inr (by simp [real, ext, Value.ownBlock] at hg; omega))
  refine ⟨hnext.congr fun j => by simp [effM], fun _ h => h, hm', fun k hk => by simp [ext, hk], hsame, ?_, fun hn => absurd rfl (hn _), fun bs h => by cases h⟩
  simp only [Vr]
  exact ⟨_, ext_at, rfl, rfl⟩
theorem Runs.frz_first {c : Nat} {E : Eff} {v : Value} {W' : World} {F1 F' : Nat → Prop} {ρ' : Nat → Option Loc} (hF : ∀ b, F b → F1 b) (h : Runs gl W0 S0 F0 F1 ρ M W c E v W' F' ρ') : Runs gl W0 S0 F0 F ρ M W c E v W' F' ρ' :=
  ⟨h.inv, fun b hb => h.hF b (hF b hb), h.hρ, h.old, fun b hb => h.hW b (hF b hb), h.val, h.nonew, h.nonws⟩

/-! Chunks -/
def chunk (sz : Nat) : Nat → List D → List (List D)
  | 0, _ => []
  | n + 1, l => l.take sz :: chunk sz n (l.drop sz)
theorem chunk_length (sz : Nat) : ∀ n l, (chunk sz n l).length = n
  | 0, _ => rfl
  | n + 1, l => by simp [chunk, chunk_length sz n]
theorem chunk_ok (sz : Nat) : ∀ (n : Nat) (l : List D) (vs : List Value), DrL W F l vs → l.length = n * sz → DrLL W F sz (chunk sz n l) vs
  | 0, l, vs, h, hl => by
    have : l = [] := List.eq_nil_of_length_eq_zero (by simpa using hl)
    subst this
    simp only [DrL] at h
    simp only [chunk, DrLL]
    exact h
  | n + 1, l, vs, h, hl => by
    simp only [chunk, DrLL]
    have h1 : l.length = n * sz + sz := by rw [hl, Nat.add_mul, Nat.one_mul]
    refine ⟨vs.take sz, vs.drop sz, (List.take_append_drop sz vs).symm, by simp; omega, h.take _ _ sz, chunk_ok sz n _ _ (h.drop _ _ sz) (by simp; omega)⟩
theorem rep_ok (sz : Nat) (z : List D) (zs : List Value) (hz : DrL W F z zs) (hl : z.length = sz) : ∀ n, DrLL W F sz (List.replicate n z) (List.replicate n zs).flatten
  | 0 => by simp [DrLL]
  | n + 1 => by
    simp only [List.replicate_succ, List.flatten_cons, DrLL]
    exact ⟨zs, _, rfl, hl, hz, rep_ok sz z zs hz hl n⟩
theorem made_flat (zs : Array Value) : ∀ n, ((Array.range (n * zs.size)).map (fun i => zs[i % zs.size]!)).toList = (List.replicate n zs.toList).flatten := by
  intro n
  apply List.ext_getElem?
  intro i
  rcases Nat.eq_zero_or_pos zs.size with h0 | h0
  · have : zs = #[] := Array.eq_empty_of_size_eq_zero h0
    subst this
    simp
  · induction n generalizing i with
    | zero => simp
    | succ n ih =>
      rw [List.replicate_succ, List.flatten_cons]
      by_cases hi : i < zs.size
      · rw [List.getElem?_append_left (by simpa using hi)]
        have : i < (n + 1) * zs.size := by rw [Nat.add_mul, Nat.one_mul]; omega
        simp [this, Nat.mod_eq_of_lt hi, hi]
      · rw [List.getElem?_append_right (by simp; omega), ← ih (i - zs.toList.length)]
        have hm : i % zs.size = (i - zs.size) % zs.size := by
          rw [Nat.mod_eq_sub_mod (by omega)]
        by_cases h1 : i < (n + 1) * zs.size
        · have h2 : i - zs.size < n * zs.size := by rw [Nat.add_mul, Nat.one_mul] at h1; omega
          simp [h1, h2, hm]
        · have h2 : ¬ i - zs.size < n * zs.size := by rw [Nat.add_mul, Nat.one_mul] at h1; omega
          simp [h1, h2]
end
end Go.Proofs.Ytdffdnbkinpbiaa.Sx
