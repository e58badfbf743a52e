import Derived.Test.YtdffdnbkinpbiaaSxS11
set_option linter.unusedVariables false
set_option linter.unusedSimpArgs false
namespace Go.Proofs.Ytdffdnbkinpbiaa.Sx
open Go Go.RowKit

section
variable {P : Program} {gl : List (Nat × List D)} {W0 : World} {S0 F0 F : Nat → Prop} {ρ : Nat → Option Loc} {M : Nat → Blk} {W : World}
theorem binOp_ok {op : BinOp} {t : TypeId} {x y : Operand} {c : Nat} {sx sy : SV} {u w : Value} {E : Eff} (he : (match sx, sy with
    | .agg xs, .agg ys => match scalL xs, scalL ys with
      | some a, some b => if P.eqGuardType P.depth t then none else
        match eqV P 10000 t (.agg a.toArray) (.agg b.toArray), op with
        | some r, .eql => some { val := SV.d (.v (.bool r)) }
        | some r, .neq => some { val := .d (.v (.bool !r)) }
        | _, _ => none
      | _, _ => none
    | sx, sy => match scal sx, scal sy with
      | some a, some b => match pureRun P (do eqGuard op t x y a b; binOp op t a b) with
        | some v => if one' v then some { val := .d (.v v) } else none
        | none => none
      | _, _ => none : Option Eff) = some E)
    (h : Inv gl W0 S0 F0 F ρ M W) (hu : Vr W F ρ sx u) (hw : Vr W F ρ sy w) :
    OpRuns P gl W0 S0 F0 F ρ M W c E (((do pure (Next.value (← (do eqGuard op t x y u w; binOp op t u w)))) : Sem Next).run P W) := by
  have fall : (match scal sx, scal sy with
      | some a, some b => match pureRun P (do eqGuard op t x y a b; binOp op t a b) with
        | some v => if one' v then some { val := SV.d (.v v) } else none
        | none => none
      | _, _ => none : Option Eff) = some E → OpRuns P gl W0 S0 F0 F ρ M W c E (((do pure (Next.value (← (do eqGuard op t x y u w; binOp op t u w)))) : Sem Next).run P W) := by
    intro he
    cases h1 : scal sx with
    | none => simp [h1] at he
    | some a =>
      cases h2 : scal sy with
      | none => simp [h1, h2] at he
      | some b =>
        simp only [h1, h2] at he
        have e1 := scal_ok h1 hu
        have e2 := scal_ok h2 hw
        subst e1
        subst e2
        exact sc_ok h he
  cases sx with
  | agg xs =>
    cases sy with
    | agg ys =>
      simp only at he
      cases h1 : scalL xs with
      | none => simp [h1] at he
      | some a =>
        cases h2 : scalL ys with
        | none => simp [h1, h2] at he
        | some b =>
          simp only [h1, h2] at he
          split at he
          · cases he
          · rename_i hg
            simp only [Vr] at hu hw
            obtain ⟨us, rfl, hu⟩ := hu
            obtain ⟨ws, rfl, hw⟩ := hw
            have e1 := scalL_ok h1 hu
            have e2 := scalL_ok h2 hw
            subst e1
            subst e2
            have hgd := run_eqGuard_agg (P := P) W op t x y us.toArray ws.toArray (by simpa using hg)
            split at he
            · rename_i r hr
              cases he
              refine OpRuns.mk (v := .bool r) (W' := W) ?_ (Runs.pure h rfl rfl (by simp only [Vr, Dr]; exact ⟨trivial, rfl⟩))
              simp only [Sem.run_bind, hgd, Result.andThen_ok, run_eql_struct, eqV_ok W _ _ _ _ _ hr]
            · rename_i r hr
              cases he
              refine OpRuns.mk (v := .bool !r) (W' := W) ?_ (Runs.pure h rfl rfl (by simp only [Vr, Dr]; exact ⟨trivial, rfl⟩))
              simp only [Sem.run_bind, hgd, Result.andThen_ok, run_neq_struct, eqV_ok W _ _ _ _ _ hr]
            · cases he
    | _ => exact fall (by simpa using he)
  | _ => exact fall (by simpa using he)

theorem opx_ok {tmv : Nat → SV} {c : Nat} {orc : Option Orc} {o : Oper} {E : Eff} {a : Act} (he : opx P gl tmv M c orc o = some E) (ho : ∀ p ∈ E.obs, p) (h : Inv gl W0 S0 F0 F ρ M W) (hc : ρ c = none)
    (ht : ∀ t, Vr W F ρ (tmv t) (a.tmps.getD t undef)) : OpRuns P gl W0 S0 F0 F ρ M W c E ((execOp a.eval o).run P W) := by
  have ev := ofOpd_ok ht
  obtain ⟨dst, op, ty, pos, after, guard⟩ := o
  have mv : ∀ x : Operand, E = { val := ofOpd tmv x } → OpRuns P gl W0 S0 F0 F ρ M W c E ((pure (Next.value (a.eval x)) : Sem Next).run P W) := by
    rintro x rfl
    exact ⟨_, W, F, ρ, .inl rfl, Runs.pure h rfl rfl (ev x)⟩
  cases op with
  | move x =>
    simp only [opx, Option.some.injEq] at he
    exact mv x he.symm
  | assign x =>
    simp only [opx, Option.some.injEq] at he
    exact mv x he.symm
  | pick x y z =>
    simp only [opx] at he
    split at he
    · rename_i hx
      cases he
      have hb := ev x
      rw [hx] at hb
      simp only [Vr] at hb
      refine ⟨_, W, F, ρ, .inl ?_, Runs.pure h rfl rfl (ev y)⟩
      simp only [execOp, hb, asBool]
      rfl
    · rename_i hx
      cases he
      have hb := ev x
      rw [hx] at hb
      simp only [Vr] at hb
      refine ⟨_, W, F, ρ, .inl ?_, Runs.pure h rfl rfl (ev z)⟩
      simp only [execOp, hb, asBool]
      rfl
    · cases he
  | alloc t => exact alloc_ok he h hc
  | box t x => exact box_ok he h hc (ev x)
  | build t parts => exact build_ok ht h he
  | buildSlice t len parts => exact buildSlice_ok ht h hc he
  | load t x =>
    obtain ⟨v, h1, h2⟩ := load_ok (c := c) he ho h _ (ev x)
    exact OpRuns.mk h1 h2
  | store t x y =>
    obtain ⟨W', F', h1, h2⟩ := store_ok (c := c) he ho h _ _ (ev x) (ev y)
    refine ⟨undef, W', F', ρ, .inr ⟨?_, rfl⟩, h2⟩
    simp only [execOp, Sem.run_bind, h1, Result.andThen_ok]
    rfl
  | binOp op t x y yt => exact binOp_ok he h (ev x) (ev y)
  | unOp op t x =>
    simp only [opx] at he
    split at he
    · rename_i b hx
      cases he
      have hb := ev x
      rw [hx] at hb
      simp only [Vr] at hb
      refine OpRuns.mk (v := .bool !b) (W' := W) ?_ (Runs.pure h rfl rfl (by simp only [Vr]))
      rw [hb]
      rfl
    · split at he
      · rename_i v hv
        have := scal_ok hv (ev x)
        simp only [execOp, this]
        exact sc_ok h he
      · cases he
  | convert s d x =>
    simp only [opx] at he
    split at he
    · rename_i v hv
      have := scal_ok hv (ev x)
      simp only [execOp, this]
      exact sc_ok h he
    · cases he
  | slice t x lo hi mx =>
    cases mx with
    | none => exact slice_ok ht h ho he
    | some m => simp [opx] at he
  | sliceToArrayPointer arr x => exact arrptr_ok he h (ev x) ho
  | makeSlice t l k => exact make_ok he h hc (ev l) (ev k) ho
  | fieldAddr t x f => exact fieldAddr_ok he h (ev x)
  | field t x f => exact field_ok he h (ev x)
  | indexAddr t x i => exact indexAddr_ok he h (ev x) (ev i) ho
  | index t x i => exact index_ok he h (ev x) (ev i) ho
  | extract x i =>
    simp only [opx] at he
    split at he
    · rename_i l hx
      split at he
      · rename_i y hy
        cases he
        have hb := ev x
        rw [hx] at hb
        simp only [Vr] at hb
        obtain ⟨vs, e1, e2⟩ := hb
        obtain ⟨u, h1, h2⟩ := e2.get _ _ i y hy
        refine OpRuns.mk (v := u) (W' := W) ?_ (Runs.pure h rfl rfl h2)
        rw [e1]
        simp [Instr.extract, h1]
      · cases he
    · cases he
  | nilCheck x =>
    simp only [opx] at he
    have hb := ev x
    split at he
    · rename_i k off hx
      cases he
      rw [hx] at hb
      refine ⟨_, W, F, ρ, .inl ?_, Runs.pure h rfl rfl hb⟩
      simp only [Vr] at hb
      obtain ⟨l, h1, h2⟩ := hb
      simp only [execOp, h2]
      rfl
    · rename_i k sz n off hx
      cases he
      rw [hx] at hb
      refine ⟨_, W, F, ρ, .inl ?_, Runs.pure h rfl rfl hb⟩
      simp only [Vr] at hb
      obtain ⟨l, h1, h2⟩ := hb
      simp only [execOp, h2]
      rfl
    · rename_i sz xs n off hx
      cases he
      rw [hx] at hb
      refine ⟨_, W, F, ρ, .inl ?_, Runs.pure h rfl rfl hb⟩
      simp only [Vr] at hb
      obtain ⟨ad, vs, h2, _⟩ := hb
      simp only [execOp, h2]
      rfl
    · rename_i f fs cs hx
      cases he
      rw [hx] at hb
      refine ⟨_, W, F, ρ, .inl ?_, Runs.pure h rfl rfl hb⟩
      simp only [Vr, Dr] at hb
      simp only [execOp, hb.1]
      rfl
    · cases he
  | call k =>
    obtain ⟨callee, args, argTypes⟩ := k
    cases callee with
    | builtin b =>
      have he' : bltx P M c (ofOpd tmv) ty b args.toList argTypes.toList = some E := he
      have hargs : ∀ l, args.toList = l → args = l.toArray := fun l hl => by rw [← hl]
      have htys : ∀ l, argTypes.toList = l → argTypes = l.toArray := fun l hl => by rw [← hl]
      unfold bltx at he'
      split at he'
      · rename_i x t h1 h2
        have e1 := hargs _ h1
        have e2 := htys _ h2
        subst e1
        subst e2
        have := len_ok (ty := ty) (c := c) he' h (ev x)
        simpa [execOp, resolve, invoke, builtin] using this
      · rename_i s x t t' h1 h2
        have e1 := hargs _ h1
        have e2 := htys _ h2
        subst e1
        subst e2
        split at he'
        · rename_i ht'
          subst ht'
          obtain ⟨v, W', ρ', q1, q2⟩ := append_ok (ty := ty) he' ho h hc _ _ (ev s) (ev x)
          refine ⟨v, W', F, ρ', .inl ?_, q2⟩
          simp [execOp, resolve, invoke, builtin, q1]
        · cases he'
      · rename_i x y h1
        have e1 := hargs _ h1
        subst e1
        split at he'
        · rename_i u v hu hv
          have e1 := scal_ok hu (ev x)
          have e2 := scal_ok hv (ev y)
          have := sc_ok (c := c) h he'
          simpa [execOp, resolve, invoke, builtin, e1, e2] using this
        · cases he'
      · rename_i x y h1
        have e1 := hargs _ h1
        subst e1
        split at he'
        · rename_i u v hu hv
          have e1 := scal_ok hu (ev x)
          have e2 := scal_ok hv (ev y)
          have := sc_ok (c := c) h he'
          simpa [execOp, resolve, invoke, builtin, e1, e2] using this
        · cases he'
      · cases he'
    | _ => simp [opx] at he
  | _ => simp [opx] at he
end
end Go.Proofs.Ytdffdnbkinpbiaa.Sx
