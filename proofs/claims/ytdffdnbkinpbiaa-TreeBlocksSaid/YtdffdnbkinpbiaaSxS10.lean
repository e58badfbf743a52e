import Derived.Test.YtdffdnbkinpbiaaSxS9
set_option linter.unusedVariables false
set_option linter.unusedSimpArgs false
namespace Go.Proofs.Ytdffdnbkinpbiaa.Sx
open Go Go.RowKit

section
variable {P : Program} {gl : List (Nat × List D)} {W0 : World} {S0 F0 F : Nat → Prop} {ρ : Nat → Option Loc} {M : Nat → Blk} {W : World}
theorem fieldT_ok {t : TypeId} {f : Nat} {fl : Field} (h : fieldT P t f = some fl) : ∃ fs, P.underlying t = some (.struct fs) ∧ fs[f]? = some fl := by
  unfold fieldT at h
  split at h
  · rename_i fs hu
    exact ⟨fs, hu, h⟩
  · cases h
theorem run_fieldAt {t : TypeId} {f : Nat} {fl : Field} (h : fieldT P t f = some fl) {s : Nat} (hs : szT P fl.type = some s) (hp : 0 < s) (ad : Addr) :
    (Instr.fieldAt t (.pointer (some ad)) f).run P W = .ok (.pointer (some (ad.add fl.offset))) W := by
  obtain ⟨fs, h1, h2⟩ := fieldT_ok h
  simp only [Instr.fieldAt, Sem.run_bind, run_underlying h1, Result.andThen_ok, h2, Instr.sureAddr, Sem.run_pure, fieldPlace, run_sizeOf hs, if_neg (show ¬ s = 0 by omega)]
theorem fieldAddr_ok {t : TypeId} {f c : Nat} {x : SV} {u : Value} {E : Eff} (he : (match fieldT P t f with
    | some fl => match szT P fl.type with
      | some s => if 0 < s then match x with
          | .ptr k off => some { val := SV.ptr k (off + fl.offset) }
          | .eptr k sz n off => some { val := .eptr k sz n (off + fl.offset) }
          | .rptr sz xs n off => some { val := .rptr sz xs n (off + fl.offset) }
          | _ => none
        else none
      | none => none
    | none => none : Option Eff) = some E)
    (h : Inv gl W0 S0 F0 F ρ M W) (hu : Vr W F ρ x u) : OpRuns P gl W0 S0 F0 F ρ M W c E (((do pure (Next.value (← Instr.fieldAt t u f))) : Sem Next).run P W) := by
  cases hf : fieldT P t f with
  | none => simp [hf] at he
  | some fl =>
    cases hs : szT P fl.type with
    | none => simp [hf, hs] at he
    | some s =>
      simp only [hf, hs] at he
      split at he
      · rename_i hp
        cases x with
        | ptr k off =>
          cases he
          simp only [Vr] at hu
          obtain ⟨l, h1, rfl⟩ := hu
          refine OpRuns.mk (run_fieldAt hf hs hp _) (Runs.pure h rfl rfl ?_)
          simp only [Vr]
          exact ⟨l, h1, by rw [add_at]⟩
        | eptr k sz n off =>
          cases he
          simp only [Vr] at hu
          obtain ⟨l, h1, rfl⟩ := hu
          refine OpRuns.mk (run_fieldAt hf hs hp _) (Runs.pure h rfl rfl ?_)
          simp only [Vr]
          exact ⟨l, h1, by rw [add_at, Nat.add_assoc]⟩
        | rptr sz xs n off =>
          cases he
          simp only [Vr] at hu
          obtain ⟨ad, vs, rfl, h2⟩ := hu
          refine OpRuns.mk (run_fieldAt hf hs hp _) (Runs.pure h rfl rfl ?_)
          simp only [Vr]
          exact ⟨ad, vs, by rw [add_add, Nat.add_assoc], h2⟩
        | _ => simp at he
      · cases he
theorem run_part {t : TypeId} {cs : List Value} {off : Nat} {v : Value} (h : partV P t cs off = some v) : (part t cs.toArray off).run P W = .ok v W := partV_ok (by simpa using h) W
theorem part_ok {t : TypeId} {ag : Bool} {s off c : Nat} {l : List SV} {vs : List Value} {E : Eff} (h : Inv gl W0 S0 F0 F ρ M W) (ha : aggT P t = some ag) (hs : szT P t = some s) (hv : VrL W F ρ l vs) (obs : List Prop)
    (he : (if ag then some { val := SV.agg ((l.drop off).take s), obs := obs } else match l[off]? with
        | some y => some { val := y, obs := obs }
        | none => none : Option Eff) = some E) : ∃ v, (part t vs.toArray off).run P W = .ok v W ∧ Runs gl W0 S0 F0 F ρ M W c E v W F ρ ∧ E.obs = obs := by
  cases ag with
  | true =>
    simp at he
    subst he
    refine ⟨_, run_part (v := .agg ((vs.drop off).take s).toArray) (by simp [partV, ha, hs]), Runs.pure h rfl rfl ?_, rfl⟩
    simp only [Vr]
    exact ⟨_, rfl, (hv.drop _ _ off).take _ _ s⟩
  | false =>
    simp only [Bool.false_eq_true, if_false] at he
    split at he
    · rename_i y hy
      cases he
      obtain ⟨u, h1, h2, _⟩ := hv.get _ _ off y hy
      exact ⟨u, run_part (by simp [partV, ha, h1]), Runs.pure h rfl rfl h2, rfl⟩
    · cases he
theorem field_ok {t : TypeId} {f c : Nat} {x : SV} {u : Value} {E : Eff} (he : (match fieldT P t f with
    | some fl => match aggT P fl.type, szT P fl.type, x with
      | some true, some s, .agg l => some { val := SV.agg ((l.drop fl.offset).take s) }
      | some false, some _, .agg l => match l[fl.offset]? with
        | some y => some { val := y }
        | none => none
      | _, _, _ => none
    | none => none : Option Eff) = some E)
    (h : Inv gl W0 S0 F0 F ρ M W) (hu : Vr W F ρ x u) : OpRuns P gl W0 S0 F0 F ρ M W c E (((do pure (Next.value (← Instr.field t u f))) : Sem Next).run P W) := by
  cases hf : fieldT P t f with
  | none => simp [hf] at he
  | some fl =>
    obtain ⟨fs, h1, h2⟩ := fieldT_ok hf
    simp only [hf] at he
    have key : ∀ (ag : Bool) (s : Nat) (l : List SV), aggT P fl.type = some ag → szT P fl.type = some s → x = .agg l → (if ag then some { val := SV.agg ((l.drop fl.offset).take s), obs := [] } else match l[fl.offset]? with
        | some y => some { val := y, obs := [] }
        | none => none : Option Eff) = some E → OpRuns P gl W0 S0 F0 F ρ M W c E (((do pure (Next.value (← Instr.field t u f))) : Sem Next).run P W) := by
      intro ag s l ha hs hx hE
      subst hx
      simp only [Vr] at hu
      obtain ⟨vs, rfl, hv⟩ := hu
      obtain ⟨v, h3, h4, _⟩ := part_ok (c := c) h ha hs hv [] hE
      refine OpRuns.mk (v := v) ?_ h4
      simp only [Instr.field, Sem.run_bind, run_underlying h1, Result.andThen_ok, h2, asAgg, Sem.run_pure, h3]
    split at he
    · rename_i s l ha hs
      exact key true s l ha hs rfl (by simpa using he)
    · rename_i s l ha hs
      refine key false s l ha hs rfl ?_
      simp only [Bool.false_eq_true, if_false]
      exact he
    · cases he
theorem indexAddr_ok {t : TypeId} {c : Nat} {x i : SV} {u w : Value} {E : Eff} (he : (match P.underlying t, numOf i with
    | some (.slice e), some n => match szT P e, x with
      | some s, .own k => match M k with
        | .row sz _ els => if s = sz then some { val := SV.eptr k sz n.toNat 0, obs := [0 ≤ n, n < (els.length : Int)] } else none
        | .frz els => some { val := .rptr s els n.toNat 0, obs := [0 ≤ n, n < (els.length : Int)] }
        | _ => none
      | some s, .d (.row xs) => some { val := .rptr s xs n.toNat 0, obs := [0 ≤ n, n < (xs.length : Int)] }
      | _, _ => none
    | some (.array len e), some n => match szT P e, x with
      | some s, .ptr k off => some { val := .ptr k (off + n.toNat * s), obs := [0 ≤ n, n < (len : Int)] }
      | _, _ => none
    | _, _ => none : Option Eff) = some E)
    (h : Inv gl W0 S0 F0 F ρ M W) (hu : Vr W F ρ x u) (hw : Vr W F ρ i w) (ho : ∀ p ∈ E.obs, p) : OpRuns P gl W0 S0 F0 F ρ M W c E (((do pure (Next.value (← Instr.indexAt t u w))) : Sem Next).run P W) := by
  split at he
  · rename_i e n hu' hn
    obtain ⟨kk, rfl⟩ := numOf_ok hn hw
    have run : ∀ (s : Nat) (ad : Addr) (len cap : Nat), szT P e = some s → 0 ≤ n → n < (len : Int) → (Instr.indexAt t (.slice (some ad) len cap) (.int kk n)).run P W = .ok (.pointer (some (ad.add (n.toNat * s)))) W := by
      intro s ad len cap hs h0 h1
      simp only [Instr.indexAt, asIntOf, Sem.run_bind, Sem.run_pure, Result.andThen_ok, run_underlying hu', if_pos (And.intro h0 h1), run_sizeOf hs]
    split at he
    · rename_i s k hs
      have hb := h.blk k
      simp only [Vr] at hu
      obtain ⟨l, h1, rfl, _⟩ := hu
      split at he
      · rename_i sz ty els hM
        split at he
        · rename_i hss
          subst hss
          cases he
          have h0 := ho (0 ≤ n) (by simp)
          have h2 := ho (n < (els.length : Int)) (by simp)
          rw [hM] at hb
          obtain ⟨l', vs, b1, b2, b3, b4⟩ := hb
          rw [h1] at b1
          cases b1
          obtain ⟨A, cap, e1, e2, e3⟩ := row_cells b2
          obtain ⟨g, e4, e5, _⟩ := e3 (by omega)
          have hg := b4 g e5
          subst e4
          rw [e1]
          refine OpRuns.mk (run s ⟨g, 0, none⟩ _ cap hs h0 h2) (Runs.pure h rfl rfl ?_)
          simp only [Vr]
          exact ⟨l, h1, by rw [add_new, hg, Nat.add_zero]⟩
        · cases he
      · rename_i els hM
        cases he
        have h0 := ho (0 ≤ n) (by simp)
        have h2 := ho (n < (els.length : Int)) (by simp)
        rw [hM] at hb
        obtain ⟨l', b1, b2⟩ := hb
        rw [h1] at b1
        cases b1
        simp only [Dr] at b2
        obtain ⟨A, cap, vs, sz', e1, e2, e3, e4⟩ := b2
        obtain ⟨ad, rfl, e5, e6⟩ := e4 (by rintro rfl; simp at h2; omega)
        rw [e1]
        refine OpRuns.mk (run s ad _ cap hs h0 h2) (Runs.pure h rfl rfl ?_)
        simp only [Vr]
        exact ⟨ad, vs, by rw [Nat.add_zero], ⟨sz', e3⟩, e5, e6⟩
      · cases he
    · rename_i s xs hs
      cases he
      have h0 := ho (0 ≤ n) (by simp)
      have h2 := ho (n < (xs.length : Int)) (by simp)
      simp only [Vr, Dr] at hu
      obtain ⟨A, cap, vs, sz', e1, e2, e3, e4⟩ := hu
      obtain ⟨ad, rfl, e5, e6⟩ := e4 (by rintro rfl; simp at h2; omega)
      rw [e1]
      refine OpRuns.mk (run s ad _ cap hs h0 h2) (Runs.pure h rfl rfl ?_)
      simp only [Vr]
      exact ⟨ad, vs, by rw [Nat.add_zero], ⟨sz', e3⟩, e5, e6⟩
    · cases he
  · rename_i len e n hu' hn
    obtain ⟨kk, rfl⟩ := numOf_ok hn hw
    split at he
    · rename_i s k off hs
      cases he
      have h0 := ho (0 ≤ n) (by simp)
      have h2 := ho (n < (len : Int)) (by simp)
      simp only [Vr] at hu
      obtain ⟨l, h1, rfl⟩ := hu
      refine OpRuns.mk (v := .pointer (some ((⟨l.g, off, none⟩ : Addr).add (n.toNat * s)))) ?_ (Runs.pure h rfl rfl ?_)
      · simp only [Instr.indexAt, asIntOf, Sem.run_bind, Sem.run_pure, Result.andThen_ok, run_underlying hu', Instr.sureAddr, if_pos (And.intro h0 h2), run_sizeOf hs]
      · simp only [Vr]
        exact ⟨l, h1, by rw [add_at]⟩
    · cases he
  · cases he
theorem index_ok {t : TypeId} {c : Nat} {x i : SV} {u w : Value} {E : Eff} (he : (match P.underlying t, numOf i, x with
    | some (.array len e), some n, .agg l => match aggT P e, szT P e with
      | some true, some s => some { val := SV.agg ((l.drop (n.toNat * s)).take s), obs := [0 ≤ n, n < (len : Int)] }
      | some false, some s => match l[n.toNat * s]? with
        | some y => some { val := y, obs := [0 ≤ n, n < (len : Int)] }
        | none => none
      | _, _ => none
    | _, _, _ => none : Option Eff) = some E)
    (h : Inv gl W0 S0 F0 F ρ M W) (hu : Vr W F ρ x u) (hw : Vr W F ρ i w) (ho : ∀ p ∈ E.obs, p) : OpRuns P gl W0 S0 F0 F ρ M W c E (((do pure (Next.value (← Instr.index t u w))) : Sem Next).run P W) := by
  split at he
  · rename_i len e n l hu' hn
    obtain ⟨kk, rfl⟩ := numOf_ok hn hw
    simp only [Vr] at hu
    obtain ⟨vs, rfl, hv⟩ := hu
    have key : ∀ (ag : Bool) (s : Nat), aggT P e = some ag → szT P e = some s → (if ag then some { val := SV.agg ((l.drop (n.toNat * s)).take s), obs := [0 ≤ n, n < (len : Int)] } else match l[n.toNat * s]? with
        | some y => some { val := y, obs := [0 ≤ n, n < (len : Int)] }
        | none => none : Option Eff) = some E → OpRuns P gl W0 S0 F0 F ρ M W c E (((do pure (Next.value (← Instr.index t (.agg vs.toArray) (.int kk n)))) : Sem Next).run P W) := by
      intro ag s ha hs hE
      obtain ⟨v, h3, h4, h5⟩ := part_ok (c := c) h ha hs hv _ hE
      have h0 := ho (0 ≤ n) (by rw [h5]; simp)
      have h2 := ho (n < (len : Int)) (by rw [h5]; simp)
      refine OpRuns.mk (v := v) ?_ h4
      simp only [Instr.index, asIntOf, Sem.run_bind, Sem.run_pure, Result.andThen_ok, run_underlying hu', if_pos (And.intro h0 h2), run_sizeOf hs, h3]
    split at he
    · rename_i s ha hs
      exact key true s ha hs (by simpa using he)
    · rename_i s ha hs
      refine key false s ha hs ?_
      simp only [Bool.false_eq_true, if_false]
      exact he
    · cases he
  · cases he
end
end Go.Proofs.Ytdffdnbkinpbiaa.Sx
