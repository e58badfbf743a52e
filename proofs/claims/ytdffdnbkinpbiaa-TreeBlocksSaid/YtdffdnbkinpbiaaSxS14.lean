import Derived.Test.YtdffdnbkinpbiaaSxS13
import Derived.Test.YtdffdnbkinpbiaaSxS12x
set_option linter.unusedVariables false
set_option linter.unusedSimpArgs false
namespace Go.Proofs.Ytdffdnbkinpbiaa.Sx
open Go Go.RowKit

/-! ### Calls -/
def idxIn (k : Nat) : List Nat → Nat → Option Nat
  | [], _ => none
  | x :: xs, i => if x = k then some i else idxIn k xs (i + 1)
def nodup : List Nat → Bool
  | [] => true
  | x :: xs => !xs.contains x && nodup xs
def toAD (M : Nat → Blk) : SV → Option (AD × List Nat)
  | .agg l => match toDL M l with
    | some (ds, ks) => some (.agg ds, ks)
    | none => none
  | x => match toD M x with
    | some (d, ks) => some (.one d, ks)
    | none => none
def toADL (M : Nat → Blk) : List SV → Option (List AD × List Nat)
  | [] => some ([], [])
  | x :: xs => match toAD M x, toADL M xs with
    | some (d, k), some (ds, ks) => some (d :: ds, k ++ ks)
    | _, _ => none
def callable (P : Program) (f : FuncId) : Bool :=
  match P.funcs[f]? with
  | some fn => fn.body.isSome && !(fn.name == "runtime.NumGoroutine")
  | none => false
def callee? : SV → Option FuncId
  | .d (.v (.func (.func f) first captured)) => match first.toList, captured.toList with
    | [], [] => some f
    | _, _ => none
  | _ => none
section
variable {P : Program} {gl : List (Nat × List D)} {W0 : World} {S0 F0 F : Nat → Prop} {ρ : Nat → Option Loc} {M : Nat → Blk} {W : World}
theorem toAD_ok {ks : List Nat} (h : Inv gl W0 S0 F0 F ρ (frzM M ks) W) {ρc : Nat → Option Loc} (x : SV) (u : Value) (d : AD) (k : List Nat) (he : toAD M x = some (d, k)) (hk : ∀ j ∈ k, j ∈ ks) (hv : Vr W F ρ x u) : ADr W F ρc d u := by
  have other : (match toD M x with
    | some (d, ks) => some (AD.one d, ks)
    | none => none) = some (d, k) → ADr W F ρc d u := by
    intro he
    cases hd : toD M x with
    | none => simp [hd] at he
    | some p =>
      obtain ⟨y, k'⟩ := p
      simp [hd] at he
      obtain ⟨rfl, rfl⟩ := he
      simp only [ADr]
      exact toD_ok h x u y k' hd hk hv
  cases x with
  | agg l =>
    simp only [toAD] at he
    cases hd : toDL M l with
    | none => simp [hd] at he
    | some p =>
      obtain ⟨ds, k'⟩ := p
      simp [hd] at he
      obtain ⟨rfl, rfl⟩ := he
      simp only [Vr] at hv
      obtain ⟨vs, rfl, hv⟩ := hv
      simp only [ADr]
      exact ⟨vs, rfl, toDL_ok h l vs ds k' hd hk hv⟩
  | _ => exact other he
theorem toADL_ok {ks : List Nat} (h : Inv gl W0 S0 F0 F ρ (frzM M ks) W) {ρc : Nat → Option Loc} : ∀ (xs : List SV) (us : List Value) (ds : List AD) (k : List Nat), toADL M xs = some (ds, k) → (∀ j ∈ k, j ∈ ks) → VrT W F ρ xs us → ADrL W F ρc ds us
  | [], us, ds, k, he, hk, hv => by
    simp [toADL] at he
    obtain ⟨rfl, rfl⟩ := he
    simpa only [VrT, ADrL] using hv
  | x :: xs, us, ds, k, he, hk, hv => by
    simp only [VrT] at hv
    obtain ⟨a, b, rfl, h2, h3⟩ := hv
    simp only [toADL] at he
    cases h5 : toAD M x with
    | none => simp [h5] at he
    | some p =>
      cases h6 : toADL M xs with
      | none => simp [h5, h6] at he
      | some q =>
        obtain ⟨d1, k1⟩ := p
        obtain ⟨d2, k2⟩ := q
        simp [h5, h6] at he
        obtain ⟨rfl, rfl⟩ := he
        simp only [ADrL]
        exact ⟨a, b, rfl, toAD_ok h x a d1 k1 h5 (fun j hj => hk j (List.mem_append_left _ hj)) h2, toADL_ok h xs b d2 k2 h6 (fun j hj => hk j (List.mem_append_right _ hj)) h3⟩
theorem callee_ok {x : SV} {f : FuncId} {u : Value} (he : callee? x = some f) (hu : Vr W F ρ x u) : u = .func (.func f) #[] #[] := by
  unfold callee? at he
  split at he
  · rename_i g first captured
    split at he
    · rename_i h1 h2
      cases he
      simp only [Vr, Dr] at hu
      rw [hu.1]
      have e1 : first = #[] := Array.toList_eq_nil_iff.1 h1
      have e2 : captured = #[] := Array.toList_eq_nil_iff.1 h2
      rw [e1, e2]
    · cases he
  · cases he
/-- The memory behind a call that was handed nothing but data. -/
def joinM (M : Nat → Blk) (c : Nat) (ms : List Blk) : Nat → Blk := fun j => if c ≤ j ∧ j < c + ms.length then (memF ms (j - c)).ren (fun i => c + i) else M j
def joinρ (ρ ρ' : Nat → Option Loc) (c n : Nat) : Nat → Option Loc := fun j => if c ≤ j ∧ j < c + n then ρ' (j - c) else ρ j
theorem Inv.join {W' : World} {F' : Nat → Prop} {ρ' : Nat → Option Loc} {c : Nat} {ms : List Blk} (h : Inv gl W0 S0 F0 F ρ M W) (h' : Inv gl W (fun _ => False) F F' ρ' (memF ms) W') (hρ : ∀ k, c ≤ k → k < c + ms.length → ρ k = none) (hρ' : ∀ k, ms.length ≤ k → ρ' k = none) :
    Inv gl W0 S0 F0 F' (joinρ ρ ρ' c ms.length) (joinM M c ms) W' ∧ (∀ k l, ρ k = some l → joinρ ρ ρ' c ms.length k = some l) ∧ (∀ b, F b → W'.heap[b]? = W.heap[b]?) := by
  have hsame : ∀ b, b < W.heap.size → W'.heap[b]? = W.heap[b]? := fun b hb => h'.keep b hb (fun h => h)
  have hF : ∀ b, F b → W'.heap[b]? = W.heap[b]? := fun b hb => hsame b (h.Flt b hb)
  have hm : ∀ k l, ρ k = some l → joinρ ρ ρ' c ms.length k = some l := by
    intro k l hl
    unfold joinρ
    split
    · rename_i hk
      rw [hρ k hk.1 hk.2] at hl
      cases hl
    · exact hl
  have hup : ∀ k l, ρ' k = some l → joinρ ρ ρ' c ms.length (c + k) = some l := by
    intro k l hl
    unfold joinρ
    have hk : k < ms.length := by
      rcases Nat.lt_or_ge k ms.length with h | h
      · exact h
      · rw [hρ' k h] at hl
        cases hl
    rw [if_pos ⟨by omega, by omega⟩]
    rw [show c + k - c = k by omega]
    exact hl
  have hold : ∀ j g, ¬ (c ≤ j ∧ j < c + ms.length) → real (joinρ ρ ρ' c ms.length) j (joinM M c ms j) = some g → real ρ j (M j) = some g := by
    intro j g hj hg
    unfold joinM at hg
    rw [if_neg hj] at hg
    have : ∀ b, real (joinρ ρ ρ' c ms.length) j b = real ρ j b := by
      intro b
      cases b <;> simp [real, joinρ, hj]
    rwa [this] at hg
  have hnew : ∀ j g, (c ≤ j ∧ j < c + ms.length) → real (joinρ ρ ρ' c ms.length) j (joinM M c ms j) = some g → real ρ' (j - c) (memF ms (j - c)) = some g := by
    intro j g hj hg
    unfold joinM at hg
    rw [if_pos hj] at hg
    have : real (joinρ ρ ρ' c ms.length) j ((memF ms (j - c)).ren (fun i => c + i)) = real ρ' (j - c) (memF ms (j - c)) := by
      cases memF ms (j - c) <;> simp [real, joinρ, hj, Blk.ren]
    rwa [this] at hg
  refine ⟨⟨h'.os.trans h.os, h'.tape.trans h.tape, h'.output.trans h.output, Nat.le_trans h.size h'.size, ?_, fun b hb => h'.Fsub b (h.Fsub b hb), ?_, h'.Flt, ?_, ?_, ?_, h'.gl⟩, hm, hF⟩
  · intro b hb hs
    rw [← h.keep b hb hs]
    exact hsame b (Nat.lt_of_lt_of_le hb h.size)
  · intro b hb
    rcases h'.Fnew b hb with h1 | h1 | h1
    · exact h.Fnew b h1
    · exact h1.elim
    · exact .inr (.inr (Nat.le_trans h.size h1))
  · intro j
    unfold joinM
    split
    · rename_i hj
      have h1 := (h'.blk (j - c)).mono (ρ' := fun k => joinρ ρ ρ' c ms.length (c + k)) (fun _ h => h) (fun _ _ => rfl) hup (fun _ _ => rfl)
      have := (BlkOk.ren (W := W') (F := F') (ρ := joinρ ρ ρ' c ms.length) (f := fun i => c + i) (k := j - c) (b := memF ms (j - c))).2 h1
      rwa [show c + (j - c) = j by omega] at this
    · rename_i hj
      exact (h.blk j).mono h'.Fsub hF hm fun g hg => hsame g ((h.blk j).lt hg)
  · intro i j g hij h1 h2
    by_cases hi : c ≤ i ∧ i < c + ms.length
    · have h3 := hnew i g hi h1
      have h5 := (h'.own _ g h3).2
      by_cases hj : c ≤ j ∧ j < c + ms.length
      · exact h'.apart (i - c) (j - c) g (by omega) h3 (hnew j g hj h2)
      · have := (h.blk j).lt (hold j g hj h2)
        rcases h5 with h4 | h4
        · exact h4
        · omega
    · have h3 := hold i g hi h1
      by_cases hj : c ≤ j ∧ j < c + ms.length
      · have h4 := (h'.own _ g (hnew j g hj h2)).2
        have := (h.blk i).lt h3
        rcases h4 with h4 | h4
        · exact h4
        · omega
      · exact h.apart i j g hij h3 (hold j g hj h2)
  · intro j g hg
    by_cases hj : c ≤ j ∧ j < c + ms.length
    · have h3 := h'.own _ g (hnew j g hj hg)
      refine ⟨h3.1, ?_⟩
      rcases h3.2 with h4 | h4
      · exact h4.elim
      · exact .inr (Nat.le_trans h.size h4)
    · have h3 := hold j g hj hg
      refine ⟨fun hf => ?_, (h.own j g h3).2⟩
      rcases h'.Fnew g hf with h4 | h4 | h4
      · exact (h.own j g h3).1 h4
      · exact h4
      · have := (h.blk j).lt h3
        omega
theorem Inv.begin (h : Inv gl W0 S0 F0 F ρ M W) : Inv gl W (fun _ => False) F F (fun _ => none) (memF []) W :=
  ⟨rfl, rfl, rfl, Nat.le_refl _, fun _ _ _ => rfl, fun _ h => h, fun _ h => .inl h, h.Flt, fun k => trivial, fun i j g _ h => by simp [memF, real] at h, fun j g h => by simp [memF, real] at h, h.gl⟩
theorem run_call {o : Oper} {k : Call} {x : Operand} {f : FuncId} {a : Act} (ho : o.op = .call k) (hk : k.callee = .value x) (hx : a.eval x = .func (.func f) #[] #[]) (hc : callable P f = true) :
    (execOp a.eval o).run P W = .ok (.enter f (k.args.map a.eval)) W := by
  unfold callable at hc
  cases hf : P.funcs[f]? with
  | none => simp [hf] at hc
  | some fn =>
    simp [hf] at hc
    obtain ⟨h1, h2⟩ := hc
    have h3 : fn.body.isNone = false := by cases hb : fn.body <;> simp_all
    simp [execOp, ho, resolve, hk, hx, Deferred.ofValue, invoke, callFunc, hf, h2, h3]
    intro hn
    rw [hn] at h1
    cases h1

/-- Blocks that are there stay as they are. -/
theorem Inv.ext {W' : World} (h : Inv gl W0 S0 F0 F ρ M W) (os : W'.os = W.os) (tape : W'.tape = W.tape) (output : W'.output = W.output) (size : W.heap.size ≤ W'.heap.size) (same : ∀ b, b < W.heap.size → W'.heap[b]? = W.heap[b]?) : Inv gl W0 S0 F0 F ρ M W' := by
  have hF : ∀ b, F b → W'.heap[b]? = W.heap[b]? := fun b hb => same b (h.Flt b hb)
  refine ⟨os.trans h.os, tape.trans h.tape, output.trans h.output, Nat.le_trans h.size size, fun b hb hs => (same b (Nat.lt_of_lt_of_le hb h.size)).trans (h.keep b hb hs), h.Fsub, h.Fnew,
    fun b hb => Nat.lt_of_lt_of_le (h.Flt b hb) size, fun k => (h.blk k).mono (fun _ h => h) hF (fun _ _ h => h) (fun g hg => same g ((h.blk k).lt hg)), h.apart, h.own, fun x hx => ?_⟩
  obtain ⟨h1, vs, h2, h3⟩ := h.gl x hx
  refine ⟨h1, vs, h2.mono (fun _ h => h) hF, fun j y hy => ?_⟩
  rw [← h3 j y hy]
  exact World.cell?_of_block (w := W) (hF _ h1)
mutual
/-- A value that reaches no memory. -/
def SV.flat : SV → Bool
  | .any => true
  | .lit _ => true
  | .d (.v _) => true
  | .d .nil => true
  | .agg l => SV.flatL l
  | .tup l => SV.flatL l
  | _ => false
def SV.flatL : List SV → Bool
  | [] => true
  | x :: xs => x.flat && SV.flatL xs
end
mutual
theorem Vr.flat {W W' : World} {F F' : Nat → Prop} {ρ ρ' : Nat → Option Loc} : ∀ (x : SV) (u : Value), x.flat = true → Vr W F ρ x u → Vr W' F' ρ' x u
  | .any, u, _, h => by simp only [Vr]
  | .lit b, u, _, h => by simpa only [Vr] using h
  | .d (.v y), u, _, h => by simpa only [Vr, Dr] using h
  | .d .nil, u, _, h => by simpa only [Vr, Dr] using h
  | .agg l, u, hf, h => by
    simp only [Vr] at h ⊢
    obtain ⟨vs, h1, h2⟩ := h
    exact ⟨vs, h1, VrL.flat l vs (by simpa only [SV.flat] using hf) h2⟩
  | .tup l, u, hf, h => by
    simp only [Vr] at h ⊢
    obtain ⟨vs, h1, h2⟩ := h
    exact ⟨vs, h1, VrT.flat l vs (by simpa only [SV.flat] using hf) h2⟩
theorem VrL.flat {W W' : World} {F F' : Nat → Prop} {ρ ρ' : Nat → Option Loc} : ∀ (x : List SV) (u : List Value), SV.flatL x = true → VrL W F ρ x u → VrL W' F' ρ' x u
  | [], u, _, h => by simpa only [VrL] using h
  | x :: xs, u, hf, h => by
    simp only [SV.flatL, Bool.and_eq_true] at hf
    simp only [VrL] at h ⊢
    obtain ⟨a, b, h1, h2, h3, h4⟩ := h
    exact ⟨a, b, h1, Vr.flat x a hf.1 h2, h3, VrL.flat xs b hf.2 h4⟩
theorem VrT.flat {W W' : World} {F F' : Nat → Prop} {ρ ρ' : Nat → Option Loc} : ∀ (x : List SV) (u : List Value), SV.flatL x = true → VrT W F ρ x u → VrT W' F' ρ' x u
  | [], u, _, h => by simpa only [VrT] using h
  | x :: xs, u, hf, h => by
    simp only [SV.flatL, Bool.and_eq_true] at hf
    simp only [VrT] at h ⊢
    obtain ⟨a, b, h1, h2, h3⟩ := h
    exact ⟨a, b, h1, Vr.flat x a hf.1 h2, VrT.flat xs b hf.2 h3⟩
end

/-- One operation, calls among them. -/
def opG (P : Program) (gl : List (Nat × List D)) (tmv : Nat → SV) (M : Nat → Blk) (c : Nat) (orc : Option Orc) (o : Oper) : Option Eff :=
  match o.op with
  | .call k => match k.callee with
    | .value f => match callee? (ofOpd tmv f), orc with
      | some f, some (.call [] [] res ms) => if callable P f then
          match toADL M (k.args.toList.map (ofOpd tmv)) with
          | some (args, ks) => if res.flat && ms.isEmpty then some { val := res, obs := [AC P gl f args [] res ms], used := true } else some { val := res.ren (fun i => c + i), frz := ks, chg := .nws (ms.map (Blk.ren (fun i => c + i))), obs := [AC P gl f args [] res ms], used := true }
          | none => none
        else none
      | _, _ => none
    | _ => opy P gl tmv M c orc o
  | _ => opy P gl tmv M c orc o
structure GRuns (gl : List (Nat × List D)) (W0 : World) (S0 F0 F : Nat → Prop) (ρ : Nat → Option Loc) (M : Nat → Blk) (W : World) (c : Nat) (E : Eff) (v : Value) (W' : World) (F' : Nat → Prop) (ρ' : Nat → Option Loc) : Prop where
  inv : Inv gl W0 S0 F0 F' ρ' (effM M c E) W'
  hF : ∀ b, F b → F' b
  hρ : ∀ k l, ρ k = some l → ρ' k = some l
  old : ∀ k, ¬ (c ≤ k ∧ k < c + E.cnt) → ρ' k = ρ k
  hW : ∀ b, F b → W'.heap[b]? = W.heap[b]?
  val : Vr W' F' ρ' E.val v
theorem Runs.g {c : Nat} {E : Eff} {v : Value} {W' : World} {F' : Nat → Prop} {ρ' : Nat → Option Loc} (h : Runs gl W0 S0 F0 F ρ M W c E v W' F' ρ') : GRuns gl W0 S0 F0 F ρ M W c E v W' F' ρ' := by
  refine ⟨h.inv, h.hF, h.hρ, fun k hk => ?_, h.hW, h.val⟩
  unfold Eff.cnt at hk
  cases hc : E.chg with
  | nw b =>
    rw [hc] at hk
    exact h.old k (by simp only at hk; omega)
  | same => rw [h.nonew (by rw [hc]; intro b hb; cases hb)]
  | upd k b => rw [h.nonew (by rw [hc]; intro b hb; cases hb)]
  | nws bs => exact absurd hc (h.nonws bs)
theorem opG_ok {tmv : Nat → SV} {c : Nat} {orc : Option Orc} {o : Oper} {E : Eff} {a : Act} (he : opG P gl tmv M c orc o = some E) (ho : ∀ p ∈ E.obs, p) (h : Inv gl W0 S0 F0 F ρ M W) (hc : ∀ k, c ≤ k → k < c + E.cnt ∨ k = c → ρ k = none)
    (ht : ∀ t, Vr W F ρ (tmv t) (a.tmps.getD t undef)) {K : Act → World → Prop} {Q : Exit → Act → World → Prop} (hK : ∀ v W' F' ρ', GRuns gl W0 S0 F0 F ρ M W c E v W' F' ρ' → K (a.put o.dst v) W') : o.wp P a W K Q := by
  have plain : opy P gl tmv M c orc o = some E → o.wp P a W K Q := by
    intro he
    obtain ⟨v, W', F', ρ', hr, hR⟩ := opy_ok he ho h (hc c (Nat.le_refl _) (.inr rfl)) ht
    rcases hr with hr | ⟨hr, rfl⟩
    · simp only [Oper.wp, hr, Oper.upon]
      exact hK v W' F' ρ' hR.g
    · simp only [Oper.wp, hr, Oper.upon]
      exact hK undef W' F' ρ' hR.g
  unfold opG at he
  split at he
  · rename_i k hop
    split at he
    · rename_i f hf
      split at he
      · rename_i g res ms hg
        split at he
        · rename_i hcall
          split at he
          · rename_i args ks hargs
            have ev := ofOpd_ok ht
            have hfun := callee_ok hg (ev f)
            obtain ⟨F1, f1, f2⟩ := h.frzM ks
            have hac : AC P gl g args [] res ms := by
              split at he
              · cases he
                exact ho _ (by simp)
              · cases he
                exact ho _ (by simp)
            have hvals : VrT W F1 ρ (k.args.toList.map (ofOpd tmv)) (k.args.map a.eval).toList := by
              rw [Array.toList_map]
              generalize k.args.toList = l
              induction l with
              | nil => simp [VrT]
              | cons y l ih =>
                simp only [List.map_cons, VrT]
                exact ⟨_, _, rfl, (ev y).mono f1 (fun _ _ => rfl) (fun _ _ h => h), ih⟩
            have hds := toADL_ok (ρc := fun _ => none) f2 _ _ args ks hargs (fun j hj => hj) hvals
            have hcalls := hac W (fun _ => False) F1 (fun _ => none) _ f2.begin (fun _ _ => rfl) hds
            simp only [Oper.wp, run_call hop hf hfun hcall, Oper.upon]
            rw [Array.toArray_toList] at hcalls
            refine hcalls.mono ?_
            rintro e W' ⟨v, F', ρ', rfl, q1, q2, q3, q4⟩
            split at he
            · rename_i hfl
              cases he
              simp only [Bool.and_eq_true] at hfl
              have same : ∀ b, b < W.heap.size → W'.heap[b]? = W.heap[b]? := fun b hb => q1.keep b hb (fun h => h)
              refine hK v W' F ρ ⟨?_, fun _ h => h, fun _ _ h => h, fun _ _ => rfl, fun b hb => same b (h.Flt b hb), q4.flat res v hfl.1⟩
              refine (h.ext q1.os q1.tape q1.output q1.size same).congr fun k => ?_
              simp [effM, Sx.frzM]
            cases he
            obtain ⟨j1, j2, j3⟩ := f2.join (c := c) q1 (fun k h1 h2 => hc k h1 (.inl (by simpa [Eff.cnt] using h2))) q3
            refine hK v W' F' (joinρ ρ ρ' c ms.length) ⟨j1.congr fun j => ?_, fun b hb => q1.Fsub b (f1 b hb), j2, fun k hk => ?_, fun b hb => j3 b (f1 b hb), ?_⟩
            · unfold effM joinM
              simp only [List.length_map]
              split
              · unfold memF
                simp only [List.getD_eq_getElem?_getD, List.getElem?_map]
                cases ms[j - c]? <;> rfl
              · rfl
            · unfold joinρ
              rw [if_neg (by simpa [Eff.cnt] using hk)]
            · refine (Vr.ren res v).2 ?_
              refine q4.mono (fun _ h => h) (fun _ _ => rfl) ?_
              intro k l hl
              unfold joinρ
              have hk : k < ms.length := by
                rcases Nat.lt_or_ge k ms.length with h | h
                · exact h
                · rw [q3 k h] at hl
                  cases hl
              rw [if_pos ⟨by omega, by omega⟩, show c + k - c = k by omega]
              exact hl
          · cases he
        · cases he
      · cases he
    · exact plain he
  · exact plain he
end
end Go.Proofs.Ytdffdnbkinpbiaa.Sx
