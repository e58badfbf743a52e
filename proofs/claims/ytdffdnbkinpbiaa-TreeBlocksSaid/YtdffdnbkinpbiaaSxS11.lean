import Derived.Test.YtdffdnbkinpbiaaSxS10
set_option linter.unusedVariables false
set_option linter.unusedSimpArgs false
namespace Go.Proofs.Ytdffdnbkinpbiaa.Sx
open Go Go.RowKit

section
variable {P : Program} {gl : List (Nat × List D)} {W0 : World} {S0 F0 F : Nat → Prop} {ρ : Nat → Option Loc} {M : Nat → Blk} {W : World}
/-- A slice that is frozen, as data. -/
theorem frzRow (h : Inv gl W0 S0 F0 F ρ M W) {x : SV} {xs : List (List D)} {u : Value} (he : readRow M x = some xs) (hu : Vr W F ρ x u) :
    ∃ F', (∀ b, F b → F' b) ∧ Inv gl W0 S0 F0 F' ρ (frzM M (frzOf x)) W ∧ Dr W F' (.row xs) u := by
  cases x with
  | own k =>
    obtain ⟨F', f1, f2⟩ := h.frzM [k]
    refine ⟨F', f1, f2, ?_⟩
    refine toD_ok f2 (.own k) u (.row xs) (match M k with | .row _ _ _ => [k] | _ => []) ?_ ?_ (hu.mono f1 (fun _ _ => rfl) (fun _ _ h => h))
    · simp only [readRow] at he
      simp only [toD]
      cases hM : M k <;> simp [hM] at he ⊢ <;> exact he
    · intro j hj
      split at hj
      · exact hj
      · simp at hj
  | d y =>
    refine ⟨F, fun _ h => h, by simpa [frzOf, frzM_nil] using h, ?_⟩
    simp only [Vr] at hu
    cases y with
    | row ys =>
      simp [readRow] at he
      subst he
      exact hu
    | nil =>
      simp [readRow] at he
      subst he
      simp only [Dr] at hu ⊢
      subst hu
      exact ⟨none, 0, [], 0, rfl, Nat.le_refl _, by simp only [DrLL], fun h => absurd rfl h⟩
    | v z => simp [readRow] at he
  | _ => simp [readRow] at he
theorem Dr.cut {xs : List (List D)} {A : Option Addr} {cap : Nat} {vs : List Value} {sz : Nat} (h2 : xs.length ≤ cap) (h3 : DrLL W F sz xs vs)
    (h4 : xs ≠ [] → ∃ ad, A = some ad ∧ F ad.block ∧ ∀ (j : Nat) (y : Value), vs[j]? = some y → W.cell? (ad.add j) = some y) (l h : Nat) (hl : l ≤ h) (hh : h ≤ xs.length) :
    Dr W F (.row ((xs.take h).drop l)) (.slice (if cap = l then A else A.map (·.add (l * sz))) (h - l) (cap - l)) := by
  simp only [Dr]
  have hlen : ((xs.take h).drop l).length = h - l := by simp; omega
  have hd : ∀ (ys : List (List D)) (ws : List Value) (n : Nat), DrLL W F sz ys ws → DrLL W F sz (ys.drop n) (ws.drop (n * sz)) := by
    intro ys
    induction ys with
    | nil =>
      intro ws n hw
      simp only [DrLL] at hw
      subst hw
      simp [DrLL]
    | cons y ys ih =>
      intro ws n hw
      cases n with
      | zero => simpa using hw
      | succ n =>
        simp only [DrLL] at hw
        obtain ⟨a, b, rfl, q1, q2, q3⟩ := hw
        have := q2.length
        have e : (n + 1) * sz = a.length + n * sz := by rw [Nat.add_mul, Nat.one_mul]; omega
        rw [List.drop_succ_cons, e, ← List.drop_drop, List.drop_left]
        exact ih b n q3
  have htk : ∀ (ys : List (List D)) (ws : List Value) (n : Nat), DrLL W F sz ys ws → DrLL W F sz (ys.take n) (ws.take (n * sz)) := by
    intro ys
    induction ys with
    | nil =>
      intro ws n hw
      simp only [DrLL] at hw
      subst hw
      simp [DrLL]
    | cons y ys ih =>
      intro ws n hw
      cases n with
      | zero => simp [DrLL]
      | succ n =>
        simp only [DrLL] at hw
        obtain ⟨a, b, rfl, q1, q2, q3⟩ := hw
        have := q2.length
        have e : (n + 1) * sz = a.length + n * sz := by rw [Nat.add_mul, Nat.one_mul]; omega
        rw [List.take_succ_cons, e, List.take_length_add_append]
        simp only [DrLL]
        exact ⟨a, _, rfl, q1, q2, ih b n q3⟩
  refine ⟨_, cap - l, (vs.take (h * sz)).drop (l * sz), sz, by rw [hlen], by omega, hd _ _ l (htk _ _ h h3), fun hne => ?_⟩
  have hne' : xs ≠ [] := by
    rintro rfl
    simp at hne
  have hlt : l < h := by
    rcases Nat.lt_or_ge l h with h0 | h0
    · exact h0
    · exact absurd (List.eq_nil_of_length_eq_zero (by rw [hlen]; omega)) hne
  obtain ⟨ad, rfl, e5, e6⟩ := h4 hne'
  rw [if_neg (by omega)]
  refine ⟨ad.add (l * sz), rfl, by rw [add_block]; exact e5, fun j y hj => ?_⟩
  rw [add_add]
  refine e6 _ y ?_
  rw [List.getElem?_drop, List.getElem?_take] at hj
  split at hj
  · exact hj
  · cases hj
theorem sliceB_ok {o : Option Operand} {tmv : Nat → SV} {a : Act} {d n : Int} (ht : ∀ t, Vr W F ρ (tmv t) (a.tmps.getD t undef)) (he : sliceB (o.map (ofOpd tmv)) d = some n) :
    (o.map a.eval = none ∧ n = d) ∨ ∃ k, o.map a.eval = some (.int k n) := by
  cases o with
  | none =>
    simp [sliceB] at he
    exact .inl ⟨rfl, he.symm⟩
  | some x =>
    simp only [sliceB, Option.map_some] at he
    obtain ⟨k, hk⟩ := numOf_ok he (ofOpd_ok ht x)
    exact .inr ⟨k, by simp [hk]⟩
theorem slice_ok {t : TypeId} {c : Nat} {x : Operand} {lo hi : Option Operand} {tmv : Nat → SV} {a : Act} {E : Eff} (ht : ∀ t, Vr W F ρ (tmv t) (a.tmps.getD t undef)) (h : Inv gl W0 S0 F0 F ρ M W) (ho : ∀ p ∈ E.obs, p)
    (he : (match elemT P t with
    | some e => match szT P e, readRow M (ofOpd tmv x), sliceB (lo.map (ofOpd tmv)) 0 with
      | some s, some xs, some l => match sliceB (hi.map (ofOpd tmv)) xs.length with
        | some h => some { val := SV.d (.row ((xs.take h.toNat).drop l.toNat)), frz := frzOf (ofOpd tmv x), obs := [0 ≤ l, l ≤ h, h ≤ (xs.length : Int), ∀ el ∈ xs, el.length = s] }
        | none => none
      | _, _, _ => none
    | none => none : Option Eff) = some E) :
    OpRuns P gl W0 S0 F0 F ρ M W c E (((do pure (Next.value (← Instr.sliceAt t (a.eval x) (lo.map a.eval) (hi.map a.eval) none))) : Sem Next).run P W) := by
  split at he
  · rename_i e hel
    have hun := elemT_ok hel
    split at he
    · rename_i s xs l hs hr hl
      split at he
      · rename_i hh hhi
        cases he
        have o1 := ho (0 ≤ l) (by simp)
        have o2 := ho (l ≤ hh) (by simp)
        have o3 := ho (hh ≤ (xs.length : Int)) (by simp)
        have o4 := ho (∀ el ∈ xs, el.length = s) (by simp)
        obtain ⟨F', f1, f2, f3⟩ := frzRow h hr (ofOpd_ok ht x)
        simp only [Dr] at f3
        obtain ⟨A, cap, vs, sz', e1, e2, e3, e4⟩ := f3
        have e3' := DrLL.resize _ _ e3 o4
        have hcut := Dr.cut (A := A) e2 e3' e4 l.toNat hh.toNat (by omega) (by omega)
        refine OpRuns.mk (v := .slice (if cap = l.toNat then A else A.map (·.add (l.toNat * s))) (hh.toNat - l.toNat) (cap - l.toNat)) (W' := W) (F' := F') (ρ' := ρ) ?_ ?_
        · have hb : (Instr.sliceBounds true xs.length cap (lo.map a.eval) (hi.map a.eval) none).run P W = .ok (l.toNat, hh.toNat, cap) W := by
            rcases sliceB_ok ht hl with ⟨p1, p2⟩ | ⟨kl, p1⟩ <;> rcases sliceB_ok ht hhi with ⟨q1, q2⟩ | ⟨kh, q1⟩
            · subst p2
              subst q2
              simp [Instr.sliceBounds, p1, q1]
            · subst p2
              simp only [Instr.sliceBounds, p1, q1, Sem.run_bind, Sem.run_pure, Result.andThen_ok, Instr.sliceBound, asIntOf, if_pos (And.intro (show 0 ≤ hh by omega) (show hh ≤ (cap : Int) by omega))]
              rfl
            · subst q2
              simp only [Instr.sliceBounds, p1, q1, Sem.run_bind, Sem.run_pure, Result.andThen_ok, Instr.sliceBound, asIntOf, if_pos (And.intro o1 o2), Int.toNat_natCast]
            · simp only [Instr.sliceBounds, p1, q1, Sem.run_bind, Sem.run_pure, Result.andThen_ok, Instr.sliceBound, asIntOf, if_pos (And.intro (show 0 ≤ hh by omega) (show hh ≤ (cap : Int) by omega)),
                if_pos (And.intro o1 (show l ≤ ((hh.toNat : Nat) : Int) by omega))]
          simp only [Instr.sliceAt, Sem.run_bind, run_underlying hun, Result.andThen_ok, e1, Instr.slice, hb, run_sizeOf hs, Sem.run_pure]
        · exact ⟨f2.congr fun j => by simp [effM], f1, fun _ _ h => h, fun _ _ => rfl, fun _ _ => rfl, by simpa only [Vr] using hcut, fun _ => rfl, fun bs h => by cases h⟩
      · cases he
    · cases he
  · cases he
theorem arrptr_ok {t : TypeId} {c : Nat} {x : SV} {u : Value} {E : Eff} (he : (match P.underlying t, readRow M x with
    | some (.array n e), some xs => match szT P e with
      | some s => some { val := SV.rptr s xs 0 0, frz := frzOf x, obs := [n ≤ xs.length, xs ≠ []] }
      | none => none
    | _, _ => none : Option Eff) = some E)
    (h : Inv gl W0 S0 F0 F ρ M W) (hu : Vr W F ρ x u) (ho : ∀ p ∈ E.obs, p) :
    OpRuns P gl W0 S0 F0 F ρ M W c E (((do pure (Next.value (← Instr.arrayAt t u))) : Sem Next).run P W) := by
  split at he
  · rename_i n e xs hun hr
    split at he
    · rename_i s hs
      cases he
      have o1 := ho (n ≤ xs.length) (by simp)
      have o2 := ho (xs ≠ []) (by simp)
      obtain ⟨F', f1, f2, f3⟩ := frzRow h hr hu
      simp only [Dr] at f3
      obtain ⟨A, cap, vs, sz', e1, e2, e3, e4⟩ := f3
      obtain ⟨ad, e5, e6, e7⟩ := e4 o2
      subst e5
      refine OpRuns.mk (v := .pointer (some ad)) (W' := W) (F' := F') (ρ' := ρ) ?_ ⟨f2.congr fun j => by simp [effM], f1, fun _ _ h => h, fun _ _ => rfl, fun _ _ => rfl, ?_, fun _ => rfl, fun bs h => by cases h⟩
      · rw [e1]
        simp only [Instr.arrayAt, Sem.run_bind, run_underlying hun, Result.andThen_ok, if_neg (Nat.not_lt.2 o1), Sem.run_pure]
      · simp only [Vr]
        exact ⟨ad, vs, by simp [add_zero], ⟨sz', e3⟩, e6, e7⟩
    · cases he
  · cases he
theorem make_ok {t : TypeId} {c : Nat} {x y : SV} {u w : Value} {E : Eff} (he : (match elemT P t, x, y with
    | some e, .d (.v (.int kl n)), .d (.v (.int kc n')) => match szT P e, bytesT P e, zeroT P e with
      | some s, some by_, some z =>
        if z.cells.toList.all one' ∧ z.cells.size = s then
          match toDL M (z.cells.toList.map ofCell) with
          | some (ds, []) => some { val := SV.own c, chg := .nw (.row s e (List.replicate n.toNat ds)), obs := [n = n', 0 ≤ n, by_ * n.toNat ≤ 281474976710656, n ≤ 9223372036854775807] }
          | _ => none
        else none
      | _, _, _ => none
    | _, _, _ => none : Option Eff) = some E)
    (h : Inv gl W0 S0 F0 F ρ M W) (hc : ρ c = none) (hu : Vr W F ρ x u) (hw : Vr W F ρ y w) (ho : ∀ p ∈ E.obs, p) :
    OpRuns P gl W0 S0 F0 F ρ M W c E (((do pure (Next.value (← Instr.makeSlice t u w))) : Sem Next).run P W) := by
  split at he
  · rename_i e kl n kc n' hel
    simp only [Vr, Dr] at hu hw
    obtain ⟨rfl, _⟩ := hu
    obtain ⟨rfl, _⟩ := hw
    have hun := elemT_ok hel
    split at he
    · rename_i s by_ z hs hb hz
      split at he
      · rename_i hcond
        obtain ⟨c1, c2⟩ := hcond
        split at he
        · rename_i ds hd
          cases he
          have o1 := ho (n = n') (by simp)
          have o2 := ho (0 ≤ n) (by simp)
          have o3 := ho (by_ * n.toNat ≤ 281474976710656) (by simp)
          have o4 := ho (n ≤ 9223372036854775807) (by simp)
          subst o1
          obtain ⟨m, rfl⟩ := Int.eq_ofNat_of_zero_le o2
          obtain ⟨i, i1, i2⟩ : ∃ i, P.info? e = some i ∧ i.zero = some z := by
            simp only [zeroT, Option.bind_eq_some_iff] at hz
            exact hz
          have i3 : i.size = s := by simp [szT, i1] at hs; exact hs
          have i4 : i.bytes = by_ := by simp [bytesT, i1] at hb; exact hb
          have hone : ∀ v ∈ z.cells.toList, v.oneCell' = true := fun v hv => by rw [← one'_eq]; exact List.all_eq_true.1 c1 v hv
          have hzv := toDL_ok (ks := []) (by simpa [frzM_nil] using h) (z.cells.toList.map ofCell) z.cells.toList ds [] hd (by simp) (ofCells_ok _ hone)
          have hdl := hzv.length
          have hm : (m : Int).toNat = m := by omega
          simp only [Int.ofNat_eq_natCast, hm] at o3 ⊢
          have hrow := rep_ok s ds z.cells.toList hzv (by simp at hdl; omega) m
          have hr := new_row (ks := []) (by simpa [frzM_nil] using h) hc s e _ _ hrow (by simp only [List.length_replicate, maxLen]; omega)
          rw [List.length_replicate] at hr
          have hmade : madeCells z.cells (m * i.size) = (List.replicate m z.cells.toList).flatten.toArray := by
            apply Array.toList_inj.1
            have := made_flat z.cells m
            rw [c2] at this
            rw [i3, madeCells, c2]
            simpa using this
          have o3' : (i.bytes : Int) * (m : Int) ≤ 281474976710656 := by
            rw [i4]
            have h3 : ((by_ * m : Nat) : Int) ≤ 281474976710656 := Int.ofNat_le.2 o3
            simpa using h3
          have hrun := run_make (P := P) W t e i z hun i1 i2 kl kc (m : Int) (m : Int) (by omega) (by omega) o3' o4
          simp only [hm] at hrun
          rw [hmade] at hrun
          exact OpRuns.mk hrun (hr.obs_irrel rfl rfl rfl rfl)
        · cases he
      · cases he
    · cases he
  · cases he
theorem len_ok {t : TypeId} {ty : TypeId} {c : Nat} {x : SV} {u : Value} {E : Eff} (he : (match P.underlying t with
    | some (.slice _) => match readRow M x with
      | some xs => some { val := SV.d (.v (.int .i64 xs.length)) }
      | none => none
    | some .string => match scal x with
      | some (.string s) => some { val := .d (.v (.int .i64 s.size)) }
      | _ => none
    | _ => none : Option Eff) = some E)
    (h : Inv gl W0 S0 F0 F ρ M W) (hu : Vr W F ρ x u) :
    OpRuns P gl W0 S0 F0 F ρ M W c E (((do pure (Next.value (← Builtin.len_ #[t] ty #[u]))) : Sem Next).run P W) := by
  split at he
  · rename_i e hun
    split at he
    · rename_i xs hr
      cases he
      obtain ⟨A, cap, vs, sz, rfl, _⟩ := readRow_ok h hr hu
      refine OpRuns.mk (v := .int .i64 xs.length) (W' := W) ?_ (Runs.pure h rfl rfl (by simp only [Vr, Dr]; exact ⟨trivial, rfl⟩))
      simp [Builtin.len_, run_underlying hun, goInt]
    · cases he
  · rename_i hun
    split at he
    · rename_i s hs
      cases he
      have := scal_ok hs hu
      subst this
      refine OpRuns.mk (v := .int .i64 s.size) (W' := W) ?_ (Runs.pure h rfl rfl (by simp only [Vr, Dr]; exact ⟨trivial, rfl⟩))
      simp [Builtin.len_, run_underlying hun, goInt]
    · cases he
  · cases he
end
end Go.Proofs.Ytdffdnbkinpbiaa.Sx
