import Derived.Test.YtdffdnbkinpbiaaLib
set_option linter.unusedVariables false
set_option linter.unusedSimpArgs false
namespace Go.Proofs.Ytdffdnbkinpbiaa
open Go Go.RowKit Sx

/-! Loops by what a round comes to -/
inductive LO (N E : Type) where
  | next (a : N)
  | leave (b : E)
def LO.ex {N E : Type} (encE : E → Sx.Ex × St) : LO N E → Sx.Ex
  | .next _ => .normal
  | .leave b => (encE b).1
def LO.st {N E : Type} (encN : N → St) (encE : E → Sx.Ex × St) : LO N E → St
  | .next a => encN a
  | .leave b => (encE b).2
/-- A loop that ends within k rounds, so. -/
def ALK (m : Nat) (body : Code) (k : Nat) (pre : St) (e : Sx.Ex) (post : St) : Prop :=
  ∀ (W0 : World) (S0 F0 : Nat → Prop) (An : Nat → Option Sx.Loc), (∀ k l, An k = some l → k < m) → ∀ (a : Act) (W : World) (F : Nat → Prop) (ρ : Nat → Option Sx.Loc), Rel GL W0 S0 F0 An pre.tm pre.mem a W F ρ →
    ∀ Q : Exit → Act → World → Prop, (∀ a' W' F' ρ', Rel GL W0 S0 F0 An post.tm post.mem a' W' F' ρ' → Q e.to a' W') → Code.rounds PG body Q k a W
def ALE (m : Nat) (body : Code) (pre : St) (e : Sx.Ex) (post : St) : Prop := ∃ k, ALK m body k pre e post
theorem ALE.stop {m : Nat} {body : Code} {pre post : St} {e : Sx.Ex} (h : AL PG GL m body pre e post) (he : e ≠ .normal) : ALE m body pre e post := by
  refine ⟨1, fun W0 S0 F0 An hAn a W F ρ hr Q hQ => ?_⟩
  refine h W0 S0 F0 An hAn a W F ρ hr _ fun a' W' F' ρ' hr' => ?_
  have hq := hQ a' W' F' ρ' hr'
  cases e with
  | normal => exact absurd rfl he
  | exit id => exact hq
  | ret => exact hq
  | goto l => exact hq
theorem ALE.round {m : Nat} {body : Code} {pre mid post : St} {e : Sx.Ex} (h : AL PG GL m body pre .normal mid) (h2 : ALE m body mid e post) : ALE m body pre e post := by
  obtain ⟨k, h2⟩ := h2
  refine ⟨k + 1, fun W0 S0 F0 An hAn a W F ρ hr Q hQ => ?_⟩
  exact h W0 S0 F0 An hAn a W F ρ hr _ fun a' W' F' ρ' hr' => h2 W0 S0 F0 An hAn a' W' F' ρ' hr' Q hQ
theorem ALE.al {m : Nat} {body : Code} {pre post : St} {e : Sx.Ex} (h : ALE m body pre e post) : AL PG GL m (.loop body) pre e post := by
  obtain ⟨k, h⟩ := h
  intro W0 S0 F0 An hAn a W F ρ hr Q hQ
  exact wp_loop_rounds k (h W0 S0 F0 An hAn a W F ρ hr Q hQ)
/-- A round of either kind. -/
theorem ALE.step {m : Nat} {body : Code} {pre post : St} {e : Sx.Ex} {N E : Type} {encN : N → St} {encE : E → Sx.Ex × St} {r : LO N E} (h : AL PG GL m body pre (LO.ex encE r) (LO.st encN encE r)) (hne : ∀ b, (encE b).1 ≠ .normal)
    (hN : ∀ a, r = .next a → ALE m body (encN a) e post) (hE : ∀ b, r = .leave b → (encE b).1 = e ∧ (encE b).2 = post) : ALE m body pre e post := by
  cases r with
  | next a => exact ALE.round h (hN a rfl)
  | leave b =>
    obtain ⟨h1, h2⟩ := hE b rfl
    simp only [LO.ex, LO.st] at h
    rw [h1, h2] at h
    refine ALE.stop h ?_
    rw [← h1]
    exact hne b
/-- A loop whose rounds grow less. -/
theorem al_meas {σ β : Type} {m : Nat} {body : Code} (S : σ → St) (encE : β → Sx.Ex × St) (step : σ → LO σ β) (inv : σ → Prop) (μ : σ → Nat) (R : σ → β)
    (hne : ∀ b, (encE b).1 ≠ .normal)
    (hb : ∀ s, inv s → AL PG GL m body (S s) (LO.ex encE (step s)) (LO.st S encE (step s)))
    (hN : ∀ s s', inv s → step s = .next s' → μ s' < μ s ∧ inv s' ∧ R s = R s')
    (hE : ∀ s b, inv s → step s = .leave b → R s = b) :
    ∀ s, inv s → AL PG GL m (.loop body) (S s) (encE (R s)).1 (encE (R s)).2 := by
  intro s hs W0 S0 F0 An hAn a W F ρ hr Q hQ
  have key : ∀ k s, μ s ≤ k → inv s → (encE (R s)) = (encE (R s)) → ∀ a W F ρ, Rel GL W0 S0 F0 An (S s).tm (S s).mem a W F ρ →
      (∀ a' W' F' ρ', Rel GL W0 S0 F0 An (encE (R s)).2.tm (encE (R s)).2.mem a' W' F' ρ' → Q (encE (R s)).1.to a' W') → Code.rounds PG body Q (k + 1) a W := by
    intro k
    induction k with
    | zero =>
      intro s hk hs _ a W F ρ hr hQ
      have h1 := hb s hs
      cases hst : step s with
      | next s' =>
        have := (hN s s' hs hst).1
        omega
      | leave b =>
        rw [hst] at h1
        have hR := hE s b hs hst
        refine h1 W0 S0 F0 An hAn a W F ρ hr _ fun a' W' F' ρ' hr' => ?_
        simp only [LO.ex, LO.st] at hr' ⊢
        rw [hR] at hQ
        have hq := hQ a' W' F' ρ' hr'
        cases he : (encE b).1 with
        | normal => exact absurd he (hne b)
        | exit id => rw [he] at hq; exact hq
        | ret => rw [he] at hq; exact hq
        | goto l => rw [he] at hq; exact hq
    | succ k ih =>
      intro s hk hs _ a W F ρ hr hQ
      have h1 := hb s hs
      cases hst : step s with
      | next s' =>
        rw [hst] at h1
        obtain ⟨h2, h3, h4⟩ := hN s s' hs hst
        refine h1 W0 S0 F0 An hAn a W F ρ hr _ fun a' W' F' ρ' hr' => ?_
        simp only [LO.ex, LO.st] at hr' ⊢
        rw [h4] at hQ
        exact ih s' (by omega) h3 rfl a' W' F' ρ' hr' hQ
      | leave b =>
        rw [hst] at h1
        have hR := hE s b hs hst
        refine h1 W0 S0 F0 An hAn a W F ρ hr _ fun a' W' F' ρ' hr' => ?_
        simp only [LO.ex, LO.st] at hr' ⊢
        rw [hR] at hQ
        have hq := hQ a' W' F' ρ' hr'
        cases he : (encE b).1 with
        | normal => exact absurd he (hne b)
        | exit id => rw [he] at hq; exact hq
        | ret => rw [he] at hq; exact hq
        | goto l => rw [he] at hq; exact hq
  exact wp_loop_rounds (μ s + 1) (key (μ s) s (Nat.le_refl _) hs rfl a W F ρ hr hQ)
/-- A loop over a list, element by element. -/
def rng {σ β α : Type} (step : Nat → α → σ → LO σ β) (fin : σ → β) : List α → Nat → σ → β
  | [], _, s => fin s
  | x :: xs, i, s => match step i x s with
    | .next s' => rng step fin xs (i + 1) s'
    | .leave b => b
theorem wrap_succ {i n : Nat} (h : i < n) (hn : n ≤ 4611686018427387904) : IntKind.i64.wrap ((i : Int) + 1) = ((i + 1 : Nat) : Int) := by
  rw [wrap_s (by omega) (by omega)]
  simp
theorem ale_range {σ β α : Type} {m : Nat} {body : Code} (xs : List α) (hx : xs.length ≤ 4611686018427387904) (S : Int → σ → St) (encE : β → Sx.Ex × St) (step : Nat → α → σ → LO σ β) (fin : σ → β) (inv : Nat → σ → Prop)
    (hne : ∀ b, (encE b).1 ≠ .normal)
    (hb : ∀ i x s, xs[i]? = some x → inv i s → AL PG GL m body (S i s) (LO.ex encE (step i x s)) (LO.st (S (IntKind.i64.wrap ((i : Int) + 1))) encE (step i x s)))
    (hi : ∀ i x s s', xs[i]? = some x → inv i s → step i x s = .next s' → inv (i + 1) s')
    (hE : ∀ s, inv xs.length s → AL PG GL m body (S (xs.length : Nat) s) (encE (fin s)).1 (encE (fin s)).2) :
    ∀ (ys : List α) (i : Nat) (s : σ), xs.drop i = ys → i ≤ xs.length → inv i s → ALE m body (S i s) (encE (rng step fin ys i s)).1 (encE (rng step fin ys i s)).2
  | [], i, s, hd, hle, hs => by
    have : i = xs.length := by
      have := congrArg List.length hd
      simp at this
      omega
    subst this
    exact ALE.stop (hE s hs) (hne _)
  | y :: ys, i, s, hd, hle, hs => by
    have hlt : i < xs.length := by
      have := congrArg List.length hd
      simp at this
      omega
    have hy : xs[i]? = some y := by
      have := congrArg (·[0]?) hd
      simpa [List.getElem?_drop] using this
    have hd' : xs.drop (i + 1) = ys := by
      have := congrArg (List.drop 1) hd
      simpa [List.drop_drop] using this
    have h1 := hb i y s hy hs
    cases hst : step i y s with
    | next s' =>
      rw [hst] at h1
      have h2 := ale_range xs hx S encE step fin inv hne hb hi hE ys (i + 1) s' hd' hlt (hi i y s s' hy hs hst)
      simp only [LO.ex, LO.st] at h1
      rw [wrap_succ hlt hx] at h1
      simp only [rng, hst]
      exact ALE.round h1 h2
    | leave b =>
      rw [hst] at h1
      simp only [rng, hst]
      exact ALE.stop h1 (hne b)
/-- A loop that counts up. -/
theorem al_up {σ β : Type} {m : Nat} {body : Code} (n : Nat) (hn : n ≤ 4611686018427387904) (S : Int → σ → St) (encE : β → Sx.Ex × St) (step : Nat → σ → LO σ β) (inv : Nat → σ → Prop) (R : Nat → σ → β)
    (hne : ∀ b, (encE b).1 ≠ .normal)
    (hb : ∀ i s, i ≤ n → inv i s → AL PG GL m body (S i s) (LO.ex encE (step i s)) (LO.st (S (IntKind.i64.wrap ((i : Int) + 1))) encE (step i s)))
    (hN : ∀ i s s', i ≤ n → inv i s → step i s = .next s' → i < n ∧ inv (i + 1) s' ∧ R i s = R (i + 1) s')
    (hE : ∀ i s b, i ≤ n → inv i s → step i s = .leave b → R i s = b) (i : Nat) (s : σ) (hi : i ≤ n) (hs : inv i s) :
    AL PG GL m (.loop body) (S i s) (encE (R i s)).1 (encE (R i s)).2 := by
  let step' : Nat × σ → LO (Nat × σ) β := fun p => match step p.1 p.2 with
    | .next s' => .next (p.1 + 1, s')
    | .leave b => .leave b
  refine al_meas (fun p : Nat × σ => S p.1 p.2) encE step' (fun p => p.1 ≤ n ∧ inv p.1 p.2) (fun p => n - p.1) (fun p => R p.1 p.2) hne ?_ ?_ ?_ (i, s) ⟨hi, hs⟩
  · rintro ⟨i, s⟩ ⟨h1, h2⟩
    have h3 := hb i s h1 h2
    simp only [step']
    cases hst : step i s with
    | next s' =>
      rw [hst] at h3
      have h4 := (hN i s s' h1 h2 hst).1
      simp only [LO.ex, LO.st] at h3 ⊢
      rwa [wrap_succ h4 hn] at h3
    | leave b =>
      rw [hst] at h3
      exact h3
  · rintro ⟨i, s⟩ ⟨i', s'⟩ ⟨h1, h2⟩ hst
    simp only [step'] at hst
    cases hst' : step i s with
    | next s2 =>
      rw [hst'] at hst
      cases hst
      have h4 := hN i s _ h1 h2 hst'
      exact ⟨by simp only; omega, ⟨by simp only; omega, h4.2.1⟩, h4.2.2⟩
    | leave b =>
      rw [hst'] at hst
      cases hst
  · rintro ⟨i, s⟩ b ⟨h1, h2⟩ hst
    simp only [step'] at hst
    cases hst' : step i s with
    | next s2 =>
      rw [hst'] at hst
      cases hst
    | leave b' =>
      rw [hst'] at hst
      cases hst
      exact hE i s _ h1 h2 hst'
end Go.Proofs.Ytdffdnbkinpbiaa
