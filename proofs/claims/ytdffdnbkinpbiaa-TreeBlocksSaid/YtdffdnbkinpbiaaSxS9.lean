import Derived.Test.YtdffdnbkinpbiaaSxS8
set_option linter.unusedVariables false
set_option linter.unusedSimpArgs false
namespace Go.Proofs.Ytdffdnbkinpbiaa.Sx
open Go Go.RowKit

section
variable {P : Program} {gl : List (Nat × List D)} {W0 : World} {S0 F0 F : Nat → Prop} {ρ : Nat → Option Loc} {M : Nat → Blk} {W : World}
theorem val_run {s : Sem Value} {v : Value} {W' : World} (h : s.run P W = .ok v W') : ((do pure (Next.value (← s))) : Sem Next).run P W = .ok (.value v) W' := by
  simp [Sem.run_bind, h]
/-- What is to be shown of an operation. -/
def OpRuns (P : Program) (gl : List (Nat × List D)) (W0 : World) (S0 F0 F : Nat → Prop) (ρ : Nat → Option Loc) (M : Nat → Blk) (W : World) (c : Nat) (E : Eff) (r : Result Next) : Prop :=
  ∃ v W' F' ρ', (r = .ok (.value v) W' ∨ (r = .ok .skip W' ∧ v = undef)) ∧ Runs gl W0 S0 F0 F ρ M W c E v W' F' ρ'
theorem OpRuns.mk {c : Nat} {E : Eff} {s : Sem Value} {v : Value} {W' : World} {F' : Nat → Prop} {ρ' : Nat → Option Loc} (h : s.run P W = .ok v W') (hr : Runs gl W0 S0 F0 F ρ M W c E v W' F' ρ') :
    OpRuns P gl W0 S0 F0 F ρ M W c E (((do pure (Next.value (← s))) : Sem Next).run P W) := ⟨v, W', F', ρ', .inl (val_run h), hr⟩
theorem Runs.obs_irrel {c : Nat} {E E' : Eff} {v : Value} {W' : World} {F' : Nat → Prop} {ρ' : Nat → Option Loc} (h : Runs gl W0 S0 F0 F ρ M W c E v W' F' ρ') (h1 : E'.val = E.val) (h2 : E'.frz = E.frz) (h3 : E'.kill = E.kill) (h4 : E'.chg = E.chg) :
    Runs gl W0 S0 F0 F ρ M W c E' v W' F' ρ' := by
  refine ⟨?_, h.hF, h.hρ, h.old, h.hW, by rw [h1]; exact h.val, fun hn => h.nonew (by rw [← h4]; exact hn), fun bs hb => h.nonws bs (by rw [← h4]; exact hb)⟩
  have := h.inv
  unfold effM at this ⊢
  rw [h2, h3, h4]
  exact this
theorem sc_ok {c : Nat} {E : Eff} {s : Sem Value} (h : Inv gl W0 S0 F0 F ρ M W) (he : (match pureRun P s with
    | some v => if one' v then some { val := SV.d (.v v) } else none
    | none => none : Option Eff) = some E) : OpRuns P gl W0 S0 F0 F ρ M W c E (((do pure (Next.value (← s))) : Sem Next).run P W) := by
  cases hp : pureRun P s with
  | none => simp [hp] at he
  | some v =>
    simp only [hp] at he
    split at he
    · rename_i h1
      cases he
      refine OpRuns.mk (pureRun_ok s v hp W) (Runs.pure h rfl rfl ?_)
      simp only [Vr, Dr]
      exact ⟨trivial, by rw [← one'_eq]; exact h1⟩
    · cases he
theorem zeroCells_ok {t : TypeId} {cells : List SV} (h : zeroCells P t = some cells) : ∃ z, zeroT P t = some z ∧ VrL W F ρ cells z.cells.toList := by
  simp only [zeroCells, Option.bind_eq_some_iff] at h
  obtain ⟨z, h1, h2⟩ := h
  exact ⟨z, h1, cellsOf_ok h2 (ofVal_ok z)⟩

theorem alloc_ok {t : TypeId} {c : Nat} {E : Eff} (he : (match zeroCells P t with
    | some cells => some { val := SV.ptr c 0, chg := .nw (.box cells) }
    | none => none : Option Eff) = some E) (h : Inv gl W0 S0 F0 F ρ M W) (hc : ρ c = none) :
    OpRuns P gl W0 S0 F0 F ρ M W c E (((do pure (Next.value (← Instr.alloc t true (.tuple #[])))) : Sem Next).run P W) := by
  cases hz : zeroCells P t with
  | none => simp [hz] at he
  | some cells =>
    simp only [hz] at he
    cases he
    obtain ⟨z, h1, h2⟩ := zeroCells_ok (W := W) (F := F) (ρ := ρ) hz
    refine OpRuns.mk (v := .pointer (some ⟨W.heap.size, 0, none⟩)) (W' := W.alloc (.cells z.cells.toList.toArray t)) ?_ (new_box h hc cells _ t h2)
    simp only [Instr.alloc, Sem.run_bind, run_zero h1, Result.andThen_ok, newVar, newRow, newObj, Sem.run, Array.toArray_toList]
    rfl
theorem box_ok {t : TypeId} {c : Nat} {E : Eff} {x : SV} {u : Value} (he : (match cellsOf x with
    | some cells => some { val := SV.ptr c 0, chg := .nw (.box cells) }
    | none => none : Option Eff) = some E) (h : Inv gl W0 S0 F0 F ρ M W) (hc : ρ c = none) (hu : Vr W F ρ x u) :
    OpRuns P gl W0 S0 F0 F ρ M W c E (((do pure (Next.value (← Instr.box t u))) : Sem Next).run P W) := by
  cases hz : cellsOf x with
  | none => simp [hz] at he
  | some cells =>
    simp only [hz] at he
    cases he
    have h2 := cellsOf_ok hz hu
    refine OpRuns.mk (v := .pointer (some ⟨W.heap.size, 0, none⟩)) (W' := W.alloc (.cells u.cells.toList.toArray t)) ?_ (new_box h hc cells _ t h2)
    simp only [Instr.box, Sem.run_bind, Result.andThen_ok, newVar, newRow, newObj, Sem.run, Array.toArray_toList]
    rfl
/-- The parts of a literal. -/
theorem parts_ok {tmv : Nat → SV} {a : Act} (ht : ∀ t, Vr W F ρ (tmv t) (a.tmps.getD t undef)) (parts : List (Nat × Operand)) :
    ∀ (j : Nat) (p : Nat × SV), (parts.map fun p => (p.1, ofOpd tmv p.2))[j]? = some p → ∃ u, (parts.map fun p => (p.1, a.eval p.2))[j]? = some (p.1, u) ∧ Vr W F ρ p.2 u := by
  intro j p hp
  rw [List.getElem?_map, Option.map_eq_some_iff] at hp
  obtain ⟨q, h1, rfl⟩ := hp
  exact ⟨a.eval q.2, by simp [h1], ofOpd_ok ht q.2⟩
theorem run_sizes (fs : Array Field) (h : fs.toList.all (fun f => (szT P f.type).isSome) = true) :
    (fs.mapM fun (f : Field) => (do pure (f.offset, ← sizeOf f.type) : Sem (Nat × Nat))).run P W = .ok (fs.map fun f => (f.offset, (szT P f.type).getD 0)) W := by
  rw [Array.mapM_eq_mapM_toList]
  have key : ∀ l : List Field, l.all (fun f => (szT P f.type).isSome) = true → (l.mapM fun (f : Field) => (do pure (f.offset, ← sizeOf f.type) : Sem (Nat × Nat))).run P W = .ok (l.map fun f => (f.offset, (szT P f.type).getD 0)) W := by
    intro l
    induction l with
    | nil => intro _; rfl
    | cons f l ih =>
      intro hl
      simp only [List.all_cons, Bool.and_eq_true] at hl
      obtain ⟨s, hs⟩ := Option.isSome_iff_exists.1 hl.1
      simp only [List.mapM_cons, Sem.run_bind, run_sizeOf hs, Result.andThen_ok, Sem.run_pure, ih hl.2, List.map_cons, hs, Option.getD_some]
  rw [Sem.run_map, key _ h]
  simp only [Result.andThen_ok]
  congr 1
  apply Array.toList_inj.1
  simp
theorem build_ok {t : TypeId} {parts : Array (Nat × Operand)} {tmv : Nat → SV} {a : Act} {c : Nat} {E : Eff} (ht : ∀ t, Vr W F ρ (tmv t) (a.tmps.getD t undef)) (h : Inv gl W0 S0 F0 F ρ M W)
    (he : (match P.underlying t, zeroCells P t with
    | some (.struct fs), some zc => match bfill (fun i => match fs[i]? with | some f => (szT P f.type).map (fun s => (f.offset, s)) | none => none) zc (parts.toList.map fun p => (p.1, ofOpd tmv p.2)) with
      | some cells => if fs.toList.all (fun f => (szT P f.type).isSome) then some { val := SV.agg cells } else none
      | none => none
    | some (.array _ e), some zc => match szT P e with
      | some s => match bfill (fun i => some (i * s, s)) zc (parts.toList.map fun p => (p.1, ofOpd tmv p.2)) with
        | some cells => some { val := .agg cells }
        | none => none
      | none => none
    | _, _ => none : Option Eff) = some E) :
    OpRuns P gl W0 S0 F0 F ρ M W c E (((do pure (Next.value (← Instr.build t (parts.map fun (i, x) => (i, a.eval x))))) : Sem Next).run P W) := by
  have hparts : (parts.map fun (x : Nat × Operand) => (x.1, a.eval x.2)).toList = parts.toList.map fun p => (p.1, a.eval p.2) := by simp
  split at he
  · rename_i fs zc hu hz
    split at he
    · rename_i cells hf
      split at he
      · rename_i hall
        cases he
        obtain ⟨z, h1, h2⟩ := zeroCells_ok (W := W) (F := F) (ρ := ρ) hz
        obtain ⟨vs, h3, h4⟩ := bfill_ok _ _ (parts.toList.map fun p => (p.1, a.eval p.2)) zc z.cells cells hf h2 (by simp) (parts_ok ht parts.toList)
        refine OpRuns.mk (v := .agg vs.toArray) (W' := W) ?_ (Runs.pure h rfl rfl (by simp only [Vr]; exact ⟨vs, rfl, h4⟩))
        simp only [Instr.build, Sem.run_bind, run_zero h1, Result.andThen_ok, run_underlying hu, run_sizes fs hall, hparts]
        have hpl : (fun (i : Nat) => (fs.map fun f => (f.offset, (szT P f.type).getD 0))[i]?) = (fun i => match fs[i]? with | some f => (szT P f.type).map (fun s => (f.offset, s)) | none => none) := by
          funext i
          rw [Array.getElem?_map]
          cases hfi : fs[i]? with
          | none => rfl
          | some f =>
            have hm : f ∈ fs.toList := by
              rw [Array.getElem?_eq_some_iff] at hfi
              obtain ⟨hi, rfl⟩ := hfi
              simp
            obtain ⟨s, hs⟩ := Option.isSome_iff_exists.1 (List.all_eq_true.1 hall f hm)
            simp [hs]
        rw [hpl, h3]
        rfl
      · cases he
    · cases he
  · rename_i n e zc hu hz
    split at he
    · rename_i s hs
      split at he
      · rename_i cells hf
        cases he
        obtain ⟨z, h1, h2⟩ := zeroCells_ok (W := W) (F := F) (ρ := ρ) hz
        obtain ⟨vs, h3, h4⟩ := bfill_ok _ _ (parts.toList.map fun p => (p.1, a.eval p.2)) zc z.cells cells hf h2 (by simp) (parts_ok ht parts.toList)
        refine OpRuns.mk (v := .agg vs.toArray) (W' := W) ?_ (Runs.pure h rfl rfl (by simp only [Vr]; exact ⟨vs, rfl, h4⟩))
        simp only [Instr.build, Sem.run_bind, run_zero h1, Result.andThen_ok, run_underlying hu, run_sizeOf hs, hparts]
        rw [h3]
        rfl
      · cases he
    · cases he
  · cases he
theorem buildSlice_ok {t : TypeId} {len : Nat} {parts : Array (Nat × Operand)} {tmv : Nat → SV} {a : Act} {c : Nat} {E : Eff} (ht : ∀ t, Vr W F ρ (tmv t) (a.tmps.getD t undef)) (h : Inv gl W0 S0 F0 F ρ M W) (hc : ρ c = none)
    (he : (match elemT P t with
    | some e => match szT P e, zeroT P e with
      | some s, some z =>
        if len * s ≤ 2 ^ 24 ∧ z.cells.size = s ∧ z.cells.toList.all one' ∧ len ≤ 16777216 then
          match bfill (fun i => some (i * s, s)) ((List.replicate len (z.cells.toList.map ofCell)).flatten) (parts.toList.map fun p => (p.1, ofOpd tmv p.2)) with
          | some cells => match toDL M cells with
            | some (ds, ks) => if ds.length = len * s then some { val := SV.own c, frz := ks, chg := .nw (.row s e (chunk s len ds)) } else none
            | none => none
          | none => none
        else none
      | _, _ => none
    | none => none : Option Eff) = some E) :
    OpRuns P gl W0 S0 F0 F ρ M W c E (((do pure (Next.value (← Instr.buildSlice t len (parts.map fun (i, x) => (i, a.eval x))))) : Sem Next).run P W) := by
  have hparts : (parts.map fun (x : Nat × Operand) => (x.1, a.eval x.2)).toList = parts.toList.map fun p => (p.1, a.eval p.2) := by simp
  split at he
  · rename_i e hel
    have hun := elemT_ok hel
    split at he
    · rename_i s z hs hz
      split at he
      · rename_i hcond
        obtain ⟨c1, c2, c3, c4⟩ := hcond
        split at he
        · rename_i cells hf
          split at he
          · rename_i ds ks hd
            split at he
            · rename_i hlen
              cases he
              have hone : ∀ v ∈ z.cells.toList, v.oneCell' = true := fun v hv => by rw [← one'_eq]; exact List.all_eq_true.1 c3 v hv
              have hzv : VrL W F ρ (List.replicate len (z.cells.toList.map ofCell)).flatten ((Array.range (len * s)).map (z.cells[· % z.cells.size]!)).toList := by
                have := made_flat z.cells len
                rw [c2] at this
                rw [c2, this]
                clear hf hlen c1 c4 this
                induction len with
                | zero => simp [VrL]
                | succ n ih =>
                  rw [List.replicate_succ, List.replicate_succ, List.flatten_cons, List.flatten_cons]
                  exact VrL.append _ _ _ _ (ofCells_ok _ hone) ih
              obtain ⟨vs, h3, h4⟩ := bfill_ok _ _ (parts.toList.map fun p => (p.1, a.eval p.2)) _ _ cells hf hzv (by simp) (parts_ok ht parts.toList)
              obtain ⟨F1, f1, f2⟩ := h.frzM ks
              have hds := toDL_ok f2 cells vs ds ks hd (fun j hj => hj) (h4.mono f1 (fun _ _ => rfl) (fun _ _ h => h))
              have hrow := chunk_ok s len ds vs hds hlen
              have hr := new_row f2 hc s e _ vs hrow (by rw [chunk_length]; simp only [maxLen]; omega)
              rw [chunk_length] at hr
              refine OpRuns.mk (v := .slice (some ⟨W.heap.size, 0, none⟩) len len) (W' := W.alloc (.cells vs.toArray e)) ?_ (hr.frz_first f1)
              have hlim : ¬ (len * s > 2 ^ 24) := Nat.not_lt.2 c1
              rcases Nat.eq_zero_or_pos (len * s) with h0 | h0
              · have e0 : (Array.range (len * s)).map (fun x => (#[] : Array Value)[x % (#[] : Array Value).size]!) = (Array.range (len * s)).map (z.cells[· % z.cells.size]!) := by simp [h0]
                simp only [Instr.buildSlice, Sem.run_bind, run_underlying hun, Result.andThen_ok, run_sizeOf hs, hlim, if_false, if_pos h0, Sem.run_pure, e0, hparts, h3]
                rfl
              · simp only [Instr.buildSlice, Sem.run_bind, run_underlying hun, Result.andThen_ok, run_sizeOf hs, hlim, if_false, if_neg (show ¬ len * s = 0 by omega), Sem.run_pure, run_zero hz, hparts, h3]
                rfl
            · cases he
          · cases he
        · cases he
      · cases he
    · cases he
  · cases he
end
end Go.Proofs.Ytdffdnbkinpbiaa.Sx
