import Derived.Test.YtdffdnbkinpbiaaSxS14
set_option linter.unusedVariables false
set_option linter.unusedSimpArgs false
namespace Go.Proofs.Ytdffdnbkinpbiaa.Sx
open Go Go.RowKit

/-! ### Blocks handed to a call by their pointers -/
/-- The caller's name of the callee's block i. -/
def lendF (ids : List Nat) (c : Nat) (i : Nat) : Nat := match ids[i]? with | some k => k | none => c + (i - ids.length)
section
variable {P : Program} {gl : List (Nat × List D)} {W0 : World} {S0 F0 F : Nat → Prop} {ρ : Nat → Option Loc} {M : Nat → Blk} {W : World}
def lendS (ρ : Nat → Option Loc) (M : Nat → Blk) (ids : List Nat) (b : Nat) : Prop := ∃ k, k ∈ ids ∧ real ρ k (M k) = some b
theorem lendF_lt {ids : List Nat} {c i : Nat} (h : i < ids.length) : lendF ids c i = ids[i] := by simp [lendF, h]
theorem lendF_ge {ids : List Nat} {c i : Nat} (h : ids.length ≤ i) : lendF ids c i = c + (i - ids.length) := by simp [lendF, h]
theorem Inv.lend {ids : List Nat} {ms : List Blk} {c : Nat} (h : Inv gl W0 S0 F0 F ρ M W) (hρ : ∀ k, c ≤ k → ρ k = none) (nd : ids.Nodup) (hlen : ms.length = ids.length)
    (hb : ids.map M = ms.map (Blk.ren (lendF ids c))) : Inv gl W (lendS ρ M ids) F F (fun i => ρ (lendF ids c i)) (memF ms) W := by
  have hget : ∀ i (hi : i < ids.length), M ids[i] = (memF ms i).ren (lendF ids c) := by
    intro i hi
    have h1 : (ids.map M)[i]? = (ms.map (Blk.ren (lendF ids c)))[i]? := by rw [hb]
    have hi' : i < ms.length := by omega
    simp [hi, hi'] at h1
    rw [h1]
    simp [memF, hi']
  have hdead : ∀ i, ids.length ≤ i → memF ms i = .dead := by
    intro i hi
    simp [memF, List.getElem?_eq_none (show ms.length ≤ i by omega)]
  have hreal : ∀ i g, real (fun i => ρ (lendF ids c i)) i (memF ms i) = some g → ∃ hi : i < ids.length, real ρ ids[i] (M ids[i]) = some g := by
    intro i g hg
    rcases Nat.lt_or_ge i ids.length with hi | hi
    · refine ⟨hi, ?_⟩
      have e := real_ren (ρ := ρ) (f := lendF ids c) (k := i) (b := memF ms i)
      rw [lendF_lt hi] at e
      rw [hget i hi, e]
      exact hg
    · rw [hdead i hi] at hg
      simp [real] at hg
  refine ⟨rfl, rfl, rfl, Nat.le_refl _, fun _ _ _ => rfl, fun _ h => h, fun _ h => .inl h, h.Flt, fun k => ?_, ?_, ?_, h.gl⟩
  · rcases Nat.lt_or_ge k ids.length with hk | hk
    · have h1 := h.blk ids[k]
      rw [hget k hk] at h1
      have h2 : BlkOk W F ρ (lendF ids c k) ((memF ms k).ren (lendF ids c)) := by rw [lendF_lt hk]; exact h1
      exact BlkOk.ren.1 h2
    · rw [hdead k hk]
      trivial
  · intro i j g hij h1 h2
    obtain ⟨hi, h3⟩ := hreal i g h1
    obtain ⟨hj, h4⟩ := hreal j g h2
    exact h.apart ids[i] ids[j] g (fun e => hij ((List.getElem_inj nd).1 e)) h3 h4
  · intro k g hg
    obtain ⟨hk, h1⟩ := hreal k g hg
    exact ⟨(h.own _ g h1).1, .inl ⟨_, List.getElem_mem hk, h1⟩⟩
/-- The memory behind such a call. -/
def backM (M : Nat → Blk) (ids : List Nat) (c : Nat) (ms : List Blk) : Nat → Blk := fun j =>
  match idxIn j ids 0 with
  | some i => (memF ms i).ren (lendF ids c)
  | none => if c ≤ j ∧ j < c + (ms.length - ids.length) then (memF ms (ids.length + (j - c))).ren (lendF ids c) else M j
def backρ (ρ ρ' : Nat → Option Loc) (c n m : Nat) : Nat → Option Loc := fun j => if c ≤ j ∧ j < c + (m - n) then ρ' (n + (j - c)) else ρ j
theorem idxIn_some' : ∀ (ids : List Nat) (k s i : Nat), idxIn k ids s = some i → s ≤ i ∧ ids[i - s]? = some k
  | [], k, s, i, h => by simp [idxIn] at h
  | x :: xs, k, s, i, h => by
    simp only [idxIn] at h
    split at h
    · rename_i e
      cases h
      subst e
      simp
    · obtain ⟨h1, h2⟩ := idxIn_some' xs k (s + 1) i h
      refine ⟨by omega, ?_⟩
      have : i - s = (i - (s + 1)) + 1 := by omega
      rw [this]
      simpa using h2
theorem idxIn_none' : ∀ (ids : List Nat) (k s : Nat), idxIn k ids s = none → k ∉ ids
  | [], k, s, h => by simp
  | x :: xs, k, s, h => by
    simp only [idxIn] at h
    split at h
    · cases h
    · rename_i hne
      have := idxIn_none' xs k (s + 1) h
      simp [this, Ne.symm hne]
theorem Inv.back {W' : World} {F' : Nat → Prop} {ρ' : Nat → Option Loc} {ids : List Nat} {c : Nat} {ms : List Blk} (h : Inv gl W0 S0 F0 F ρ M W) (hρ : ∀ k, c ≤ k → ρ k = none) (hids : ∀ k ∈ ids, k < c) (nd : ids.Nodup)
    (hsome : ∀ k ∈ ids, ∃ l, ρ k = some l) (h' : Inv gl W (lendS ρ M ids) F F' ρ' (memF ms) W') (hm : ∀ i l, ρ (lendF ids c i) = some l → ρ' i = some l) (hfr : ∀ i, ms.length ≤ i → ρ' i = none) (hle : ids.length ≤ ms.length) :
    Inv gl W0 S0 F0 F' (backρ ρ ρ' c ids.length ms.length) (backM M ids c ms) W' ∧ (∀ k l, ρ k = some l → backρ ρ ρ' c ids.length ms.length k = some l) ∧ (∀ b, F b → W'.heap[b]? = W.heap[b]?) ∧ (∀ i, backρ ρ ρ' c ids.length ms.length (lendF ids c i) = ρ' i) := by
  have hnS : ∀ b, F b → ¬ lendS ρ M ids b := by
    rintro b hb ⟨k, hk, hr⟩
    exact (h.own k b hr).1 hb
  have hF : ∀ b, F b → W'.heap[b]? = W.heap[b]? := fun b hb => h'.keep b (h.Flt b hb) (hnS b hb)
  have hmono : ∀ k l, ρ k = some l → backρ ρ ρ' c ids.length ms.length k = some l := by
    intro k l hl
    unfold backρ
    split
    · rename_i hk
      rw [hρ k hk.1] at hl
      cases hl
    · exact hl
  have hback : ∀ i, backρ ρ ρ' c ids.length ms.length (lendF ids c i) = ρ' i := by
    intro i
    rcases Nat.lt_or_ge i ids.length with hi | hi
    · rw [lendF_lt hi]
      have hlt := hids _ (List.getElem_mem hi)
      unfold backρ
      rw [if_neg (by omega)]
      obtain ⟨l, hl⟩ := hsome _ (List.getElem_mem hi)
      rw [hl]
      exact (hm i l (by rw [lendF_lt hi]; exact hl)).symm
    · rw [lendF_ge hi]
      unfold backρ
      rcases Nat.lt_or_ge i ms.length with hi2 | hi2
      · rw [if_pos ⟨by omega, by omega⟩]
        congr 1
        omega
      · rw [if_neg (by omega), hfr i hi2]
        exact hρ _ (by omega)
  have hfun : (fun i => backρ ρ ρ' c ids.length ms.length (lendF ids c i)) = ρ' := funext hback
  -- whose block is it
  have side : ∀ j, (∃ i, lendF ids c i = j ∧ backM M ids c ms j = (memF ms i).ren (lendF ids c) ∧ i < ms.length) ∨ (j ∉ ids ∧ backM M ids c ms j = M j ∧ backρ ρ ρ' c ids.length ms.length j = ρ j) := by
    intro j
    unfold backM backρ
    cases hj : idxIn j ids 0 with
    | some i =>
      obtain ⟨_, h2⟩ := idxIn_some' ids j 0 i hj
      simp only [Nat.sub_zero] at h2
      obtain ⟨h3, h4⟩ := List.getElem?_eq_some_iff.1 h2
      exact .inl ⟨i, by rw [lendF_lt h3]; exact h4, rfl, by omega⟩
    | none =>
      have hnin := idxIn_none' ids j 0 hj
      by_cases hr : c ≤ j ∧ j < c + (ms.length - ids.length)
      · simp only [if_pos hr]
        refine .inl ⟨ids.length + (j - c), ?_, rfl, by omega⟩
        rw [lendF_ge (by omega)]
        omega
      · simp only [if_neg hr]
        exact .inr ⟨hnin, trivial, trivial⟩
  have realC : ∀ i g, real (backρ ρ ρ' c ids.length ms.length) (lendF ids c i) ((memF ms i).ren (lendF ids c)) = some g → real ρ' i (memF ms i) = some g := by
    intro i g hg
    rw [real_ren, hfun] at hg
    exact hg
  have realO : ∀ j g, backρ ρ ρ' c ids.length ms.length j = ρ j → backM M ids c ms j = M j → real (backρ ρ ρ' c ids.length ms.length) j (backM M ids c ms j) = some g → real ρ j (M j) = some g := by
    intro j g h1 h2 hg
    rw [h2] at hg
    rw [← hg]
    cases M j <;> simp [real, h1]
  refine ⟨⟨h'.os.trans h.os, h'.tape.trans h.tape, h'.output.trans h.output, Nat.le_trans h.size h'.size, ?_, fun b hb => h'.Fsub b (h.Fsub b hb), ?_, h'.Flt, ?_, ?_, ?_, h'.gl⟩, hmono, hF, hback⟩
  · intro b hb hs
    rw [← h.keep b hb hs]
    refine h'.keep b (Nat.lt_of_lt_of_le hb h.size) ?_
    rintro ⟨k, hk, hr⟩
    rcases (h.own k b hr).2 with h1 | h1
    · exact hs h1
    · omega
  · intro b hb
    rcases h'.Fnew b hb with h1 | h1 | h1
    · exact h.Fnew b h1
    · obtain ⟨k, hk, hr⟩ := h1
      exact .inr (h.own k b hr).2
    · exact .inr (.inr (Nat.le_trans h.size h1))
  · intro j
    rcases side j with ⟨i, rfl, h2, h3⟩ | ⟨h1, h2, h3⟩
    · rw [h2, BlkOk.ren, hfun]
      exact h'.blk i
    · rw [h2]
      refine (h.blk j).mono h'.Fsub hF hmono fun g hg => ?_
      refine h'.keep g ((h.blk j).lt hg) ?_
      rintro ⟨k, hk, hr⟩
      exact h.apart k j g (fun e => h1 (e ▸ hk)) hr hg
  · intro i j g hij h1 h2
    rcases side i with ⟨i', rfl, a2, a3⟩ | ⟨a1, a2, a3⟩
    · rw [a2] at h1
      have q1 := realC i' g h1
      rcases side j with ⟨j', rfl, b2, b3⟩ | ⟨b1, b2, b3⟩
      · rw [b2] at h2
        exact h'.apart i' j' g (fun e => hij (by rw [e])) q1 (realC j' g h2)
      · have q2 := realO j g b3 b2 h2
        rcases (h'.own _ g q1).2 with ⟨k, hk, hr⟩ | q3
        · exact h.apart k j g (fun e => b1 (e ▸ hk)) hr q2
        · have := (h.blk j).lt q2
          omega
    · have q1 := realO i g a3 a2 h1
      rcases side j with ⟨j', rfl, b2, b3⟩ | ⟨b1, b2, b3⟩
      · rw [b2] at h2
        rcases (h'.own _ g (realC j' g h2)).2 with ⟨k, hk, hr⟩ | q3
        · exact h.apart k i g (fun e => a1 (e ▸ hk)) hr q1
        · have := (h.blk i).lt q1
          omega
      · exact h.apart i j g hij q1 (realO j g b3 b2 h2)
  · intro j g hg
    rcases side j with ⟨i, rfl, a2, a3⟩ | ⟨a1, a2, a3⟩
    · rw [a2] at hg
      obtain ⟨q1, q2⟩ := h'.own _ g (realC i g hg)
      refine ⟨q1, ?_⟩
      rcases q2 with ⟨k, hk, hr⟩ | q2
      · exact (h.own k g hr).2
      · exact .inr (Nat.le_trans h.size q2)
    · have q1 := realO j g a3 a2 hg
      refine ⟨fun hf => ?_, (h.own j g q1).2⟩
      rcases h'.Fnew g hf with h4 | ⟨k, hk, hr⟩ | h4
      · exact (h.own j g q1).1 h4
      · exact h.apart k j g (fun e => a1 (e ▸ hk)) hr q1
      · have := (h.blk j).lt q1
        omega
end
end Go.Proofs.Ytdffdnbkinpbiaa.Sx
