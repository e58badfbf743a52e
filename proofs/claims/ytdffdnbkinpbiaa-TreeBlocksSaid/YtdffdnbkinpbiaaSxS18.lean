import Derived.Test.YtdffdnbkinpbiaaSxS17
set_option linter.unusedVariables false
set_option linter.unusedSimpArgs false
namespace Go.Proofs.Ytdffdnbkinpbiaa.Sx
open Go Go.RowKit

/-! ### Functions -/
def adSV : AD → SV
  | .one x => .d x
  | .agg l => .agg (l.map .d)
  | .ptr k => .ptr k 0
def resL (P : Program) (gl : List (Nat × List D)) (tm : List SV) (mem : List Blk) : List ResultVar → Option (List SV)
  | [] => some []
  | .tmp t :: rs => match resL P gl tm mem rs with
    | some l => some (getT tm t :: l)
    | none => none
  | .cell a t :: rs => match loadx P gl (memF mem) none t (getT tm a), resL P gl tm mem rs with
    | some E, some l => match E.obs with
      | [] => some (E.val :: l)
      | _ => none
    | _, _ => none
def oneOf : List SV → SV
  | [x] => x
  | l => .tup l
def runF (P : Program) (gl : List (Nat × List D)) (f : FuncId) (args : List AD) (ms : List Blk) (o : Opt) : Option (SV × List Blk × List Prop) :=
  match P.funcs[f]? with
  | some fn => match fn.body with
    | some body => match exec P gl ms.length body { tm := args.map adSV ++ List.replicate (fn.ntmps - args.length) .any, mem := ms, path := o.path, orc := o.orc, obs := [] } o.ls with
      | some (.exit _, _, _) => none
      | some (.goto _, _, _) => none
      | some (_, x, _) => match resL P gl x.tm x.mem fn.results.toList with
        | some rs => match told ms.length ⟨rs, x.mem⟩ o.eds o.says with
          | some (s, ob) => some (oneOf s.tm, s.mem, x.obs.reverse ++ ob)
          | none => none
        | none => none
      | none => none
    | none => none
  | none => none
section
variable {P : Program} {gl : List (Nat × List D)} {W0 : World} {An : Nat → Option Loc} {S0 F0 F : Nat → Prop} {ρ : Nat → Option Loc} {W : World}
theorem adSV_ok {x : AD} {u : Value} (h : ADr W F ρ x u) : Vr W F ρ (adSV x) u := by
  cases x with
  | one x => simpa only [adSV, Vr, ADr] using h
  | agg l =>
    simp only [adSV, Vr, ADr] at h ⊢
    obtain ⟨vs, h1, h2⟩ := h
    exact ⟨vs, h1, VrL.ofD _ _ h2⟩
  | ptr k => simpa only [adSV, Vr, ADr] using h
theorem ADrL.get : ∀ {xs : List AD} {us : List Value}, ADrL W F ρ xs us → ∀ (i : Nat) (x : AD), xs[i]? = some x → ∃ u, us[i]? = some u ∧ ADr W F ρ x u
  | [], us, h, i, x, hi => by simp at hi
  | y :: ys, us, h, i, x, hi => by
    simp only [ADrL] at h
    obtain ⟨a, b, rfl, h2, h3⟩ := h
    cases i with
    | zero =>
      simp at hi
      subst hi
      exact ⟨a, rfl, h2⟩
    | succ i => exact ADrL.get h3 i x (by simpa using hi)
theorem ADrL.length : ∀ {xs : List AD} {us : List Value}, ADrL W F ρ xs us → us.length = xs.length
  | [], us, h => by
    simp only [ADrL] at h
    subst h
    rfl
  | y :: ys, us, h => by
    simp only [ADrL] at h
    obtain ⟨a, b, rfl, h2, h3⟩ := h
    simp [ADrL.length h3]
/-- The frame that a call begins with. -/
theorem Rel.begin {ms : List Blk} (h : Inv gl W0 S0 F0 F ρ (memF ms) W) (hρ : ∀ k, ms.length ≤ k → ρ k = none) {args : List AD} {vals : List Value} (hv : ADrL W F ρ args vals) (n : Nat) :
    Rel gl W0 S0 F0 ρ (args.map adSV ++ List.replicate (n - args.length) .any) ms { tmps := vals.toArray ++ Array.replicate (n - vals.toArray.size) undef, defers := [] } W F ρ := by
  have hl := hv.length
  refine ⟨h, hρ, fun _ _ h => h, fun t => ?_, by simp [hl], rfl⟩
  unfold getT
  simp only [List.getD_eq_getElem?_getD]
  rcases Nat.lt_or_ge t args.length with ht | ht
  · rw [List.getElem?_append_left (by simpa using ht), List.getElem?_map, List.getElem?_eq_getElem ht]
    obtain ⟨u, h1, h2⟩ := hv.get t _ (List.getElem?_eq_getElem ht)
    have : (vals.toArray ++ Array.replicate (n - vals.toArray.size) undef).getD t undef = u := by
      rw [Array.getD_eq_getD_getElem?, Array.getElem?_append_left (by simp; omega)]
      simp [h1]
    rw [this]
    exact adSV_ok h2
  · have : (args.map adSV ++ List.replicate (n - args.length) SV.any)[t]?.getD .any = .any := by
      rw [List.getElem?_append_right (by simpa using ht)]
      rw [List.getElem?_replicate]
      split <;> rfl
    rw [this]
    simp only [Vr]
def resF (tmps : Array Value) (r : ResultVar) : Sem Value :=
  match r with
  | .tmp t => pure (tmps.getD t undef)
  | .cell b t => do loadVar t (← asAddr (tmps.getD b undef))
theorem resL_ok {tm : List SV} {mem : List Blk} {a : Act} (h : Rel gl W0 S0 F0 An tm mem a W F ρ) : ∀ (rs : List ResultVar) (l : List SV), resL P gl tm mem rs = some l →
    ∃ vs : List Value, (rs.mapM (resF a.tmps)).run P W = .ok vs W ∧ VrT W F ρ l vs
  | [], l, he => by
    simp [resL] at he
    subst he
    exact ⟨[], rfl, by simp only [VrT]⟩
  | .tmp t :: rs, l, he => by
    simp only [resL] at he
    split at he
    · rename_i l' hl
      cases he
      obtain ⟨vs, h1, h2⟩ := resL_ok h rs l' hl
      refine ⟨a.tmps.getD t undef :: vs, ?_, ?_⟩
      · simp only [List.mapM_cons, resF, Sem.run_bind, Sem.run_pure, Result.andThen_ok, h1]
      · simp only [VrT]
        exact ⟨_, _, rfl, h.tmp t, h2⟩
    · cases he
  | .cell b t :: rs, l, he => by
    simp only [resL] at he
    split at he
    · rename_i E l' hE hl
      split at he
      · rename_i hob
        cases he
        obtain ⟨vs, h1, h2⟩ := resL_ok h rs l' hl
        obtain ⟨v, q1, q2⟩ := load_ok (P := P) (c := mem.length) hE (by rw [hob]; simp) h.inv _ (h.tmp b)
        refine ⟨v :: vs, ?_, ?_⟩
        · have q3 : (resF a.tmps (.cell b t)).run P W = .ok v W := by
            unfold resF
            have q4 := q1
            simp only [Instr.loadAt, Sem.run_bind] at q4 ⊢
            cases hb : a.tmps.getD b undef with
            | pointer p =>
              cases p with
              | some ad =>
                rw [hb] at q4
                simpa [Instr.sureAddr, asAddr] using q4
              | none =>
                rw [hb] at q4
                simp [Instr.sureAddr, stuck, Sem.run, Result.andThen] at q4
            | _ =>
              rw [hb] at q4
              simp [Instr.sureAddr, stuck, Sem.run, Result.andThen] at q4
          simp only [List.mapM_cons, Sem.run_bind, q3, Sem.run_pure, Result.andThen_ok, h1]
        · simp only [VrT]
          exact ⟨_, _, rfl, q2.val, h2⟩
      · cases he
    · cases he
theorem ac_of {f : FuncId} {args : List AD} {ms : List Blk} (o : Opt) {res : SV} {ms' : List Blk} {obs : List Prop} (hp : PL obs)
    (hx : runF P gl f args ms o = some (res, ms', obs)) : AC P gl f args ms res ms' := by
  intro W S F ρ vals h hρ hv
  unfold runF at hx
  split at hx
  · rename_i fn hf
    split at hx
    · rename_i body hb
      refine calls_of_wp hf hb ?_
      have hr := Rel.begin h hρ hv fn.ntmps
      have fin : ∀ (e : Ex) (x : X) (l1 : List LoopR), exec P gl ms.length body { tm := args.map adSV ++ List.replicate (fn.ntmps - args.length) .any, mem := ms, path := o.path, orc := o.orc, obs := [] } o.ls = some (e, x, l1) → (∀ id, e ≠ .exit id) → (∀ l, e ≠ .goto l) →
          (match resL P gl x.tm x.mem fn.results.toList with
          | some rs => match told ms.length ⟨rs, x.mem⟩ o.eds o.says with
            | some (s, ob) => some (oneOf s.tm, s.mem, x.obs.reverse ++ ob)
            | none => none
          | none => none) = some (res, ms', obs) → body.wp P (bodyPost P fn fun e W' => ∃ v F' ρ', e = .returned v ∧ Inv gl W S F F' ρ' (memF ms') W' ∧ (∀ k l, ρ k = some l → ρ' k = some l) ∧ (∀ k, ms'.length ≤ k → ρ' k = none) ∧ Vr W' F' ρ' res v)
            { tmps := vals.toArray ++ Array.replicate (fn.ntmps - vals.toArray.size) undef, defers := [] } W := by
        intro e x l1 hex hne hng hfin
        split at hfin
        · rename_i rs hrs
          split at hfin
          · rename_i s ob hs
            cases hfin
            have hAn : ∀ k l, ρ k = some l → k < ms.length := fun k l hk => by
              rcases Nat.lt_or_ge k ms.length with h | h
              · exact h
              · rw [hρ k h] at hk
                cases hk
            refine exec_ok hAn body _ _ e x l1 hex (fun p hp' => hp.all p (by simp [hp'])) _ W F ρ hr _ fun a' W' F' ρ' hr' => ?_
            have hdone : a'.defers = [] ∧ ∃ v, (results fn a'.tmps).run P W' = .ok v W' ∧ ∃ v' F'' ρ'', Ending.returned v = .returned v' ∧ Inv gl W S F F'' ρ'' (memF s.mem) W' ∧ (∀ k l, ρ k = some l → ρ'' k = some l) ∧ (∀ k, s.mem.length ≤ k → ρ'' k = none) ∧ Vr W' F'' ρ'' (oneOf s.tm) v' := by
              obtain ⟨vs, h1, h2⟩ := resL_ok hr' _ _ hrs
              have hlen := h2.length
              have hrel : Rel gl W S F ρ rs x.mem { tmps := vs.toArray, defers := [] } W' F' ρ' := by
                refine ⟨hr'.inv, hr'.fresh, hr'.anch, fun t => ?_, by simp [hlen], rfl⟩
                unfold getT
                simp only [List.getD_eq_getElem?_getD]
                cases ht : rs[t]? with
                | none => simp only [Option.getD_none, Vr]
                | some y =>
                  obtain ⟨u, q1, q2⟩ := h2.get _ _ t y ht
                  have : vs.toArray.getD t undef = u := by rw [Array.getD_eq_getD_getElem?]; simp [q1]
                  rw [this]
                  exact q2
              obtain ⟨F2, ρ2, hrel2⟩ := told_ok hAn hs (fun q hq => hp.all q (by simp [hq])) hrel
              have hsz := hrel2.size
              simp only [List.size_toArray] at hsz
              have hval : Vr W' F2 ρ2 (oneOf s.tm) (if hh : vs.toArray.size = 1 then vs.toArray[0] else .tuple vs.toArray) := by
                have hall : VrT W' F2 ρ2 s.tm vs := by
                  have hget : ∀ t, t < s.tm.length → Vr W' F2 ρ2 (getT s.tm t) (vs.toArray.getD t undef) := fun t _ => hrel2.tmp t
                  clear hrs h1 h2 hlen hrel hs hrel2
                  generalize s.tm = l at hsz hget
                  induction l generalizing vs with
                  | nil =>
                    have : vs = [] := List.eq_nil_of_length_eq_zero (by simpa using hsz)
                    subst this
                    simp only [VrT]
                  | cons y l ih =>
                    cases vs with
                    | nil => simp at hsz
                    | cons v vs =>
                      simp only [VrT]
                      refine ⟨v, vs, rfl, by simpa [getT, Array.getD_eq_getD_getElem?] using hget 0 (by simp), ih vs (by simpa using hsz) fun t ht => ?_⟩
                      have := hget (t + 1) (by simpa using ht)
                      simpa [getT, Array.getD_eq_getD_getElem?] using this
                unfold oneOf
                split
                · rename_i y hy
                  rw [hy] at hall hsz
                  simp only [VrT] at hall
                  obtain ⟨u, t', e1, e2, rfl⟩ := hall
                  subst e1
                  simpa using e2
                · rename_i l hl
                  rw [dif_neg]
                  · simp only [Vr]
                    exact ⟨vs, rfl, hall⟩
                  · intro h1'
                    have : s.tm.length = 1 := by simpa [hsz] using h1'
                    obtain ⟨y, hy⟩ := List.length_eq_one_iff.1 this
                    exact hl y hy
              have hρ2 : ∀ (k : Nat) (l : Loc), ρ k = some l → ρ2 k = some l := hrel2.anch
              refine ⟨hr'.defers, (if hh : vs.toArray.size = 1 then vs.toArray[0] else .tuple vs.toArray), ?_, _, F2, ρ2, rfl, hrel2.inv, hρ2, hrel2.fresh, hval⟩
              have hres : results fn a'.tmps = (do let vs ← fn.results.mapM (resF a'.tmps); pure (if h : vs.size = 1 then vs[0] else .tuple vs)) := by
                unfold results
                have hfun : (fun (r : ResultVar) => resF a'.tmps r) = resF a'.tmps := rfl
                rfl
              rw [hres]
              simp only [Sem.run_bind]
              rw [Array.mapM_eq_mapM_toList, Sem.run_map, h1]
              rfl
            cases e with
            | exit id => exact absurd rfl (hne id)
            | goto l => exact absurd rfl (hng l)
            | normal => exact hdone
            | ret => exact hdone
          · cases hfin
        · cases hfin
      split at hx
      · cases hx
      · cases hx
      · rename_i e x l1 hne hng hex
        exact fin e x l1 hex (fun id he => hne id he) (fun l he => hng l he) hx
      · cases hx
    · cases hx
  · cases hx
end
end Go.Proofs.Ytdffdnbkinpbiaa.Sx
