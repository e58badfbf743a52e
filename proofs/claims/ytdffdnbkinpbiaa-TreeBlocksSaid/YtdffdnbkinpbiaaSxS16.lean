import Derived.Test.YtdffdnbkinpbiaaSxS15g
set_option linter.unusedVariables false
set_option linter.unusedSimpArgs false
namespace Go.Proofs.Ytdffdnbkinpbiaa.Sx
open Go Go.RowKit

/-! ### What is known, told otherwise -/
structure St where
  tm : List SV
  mem : List Blk
inductive Pl where
  | t (t : Nat)
  | ta (t j : Nat)
  | b (k j : Nat)
inductive Act' where
  | nil
  | adopt (sz : Nat) (e : TypeId)
  | exp
  | any
inductive Ed where
  | unlit
  | at_ (p : Pl) (a : Act')
  | re (ids : List Nat)
  | anys (ts : List Nat)
  | keep (ts : List Nat)
def getPl (s : St) : Pl → Option SV
  | .t t => s.tm[t]?
  | .ta t j => match s.tm[t]? with
    | some (.agg l) => l[j]?
    | _ => none
  | .b k j => match s.mem[k]? with
    | some (.box l) => l[j]?
    | _ => none
def setPl (s : St) (v : SV) : Pl → St
  | .t t => { s with tm := s.tm.set t v }
  | .ta t j => match s.tm[t]? with
    | some (.agg l) => { s with tm := s.tm.set t (.agg (l.set j v)) }
    | _ => s
  | .b k j => match s.mem[k]? with
    | some (.box l) => { s with mem := s.mem.set k (.box (l.set j v)) }
    | _ => s
mutual
def SV.reO (g : Nat → Option Nat) : SV → SV
  | .own k => match g k with | some i => .own i | none => .any
  | .ptr k off => match g k with | some i => .ptr i off | none => .any
  | .eptr k sz n off => match g k with | some i => .eptr i sz n off | none => .any
  | .agg l => .agg (SV.reOL g l)
  | .tup l => .tup (SV.reOL g l)
  | .any => .any
  | .lit b => .lit b
  | .d x => .d x
  | .rptr sz xs n off => .rptr sz xs n off
def SV.reOL (g : Nat → Option Nat) : List SV → List SV
  | [] => []
  | x :: xs => x.reO g :: SV.reOL g xs
end
def Blk.reO (g : Nat → Option Nat) : Blk → Blk
  | .box cs => .box (SV.reOL g cs)
  | b => b
def anysL (tm : List SV) : List Nat → List SV
  | [] => tm
  | t :: ts => anysL (tm.set t .any) ts
def keepL (ts : List Nat) : Nat → List SV → List SV
  | _, [] => []
  | i, v :: tm => (if ts.contains i then v else .any) :: keepL ts (i + 1) tm
mutual
def SV.unlit : SV → SV
  | .lit b => .d (.v (.bool b))
  | .agg l => .agg (SV.unlitL l)
  | .tup l => .tup (SV.unlitL l)
  | .any => .any
  | .d x => .d x
  | .own k => .own k
  | .ptr k off => .ptr k off
  | .eptr k sz n off => .eptr k sz n off
  | .rptr sz xs n off => .rptr sz xs n off
def SV.unlitL : List SV → List SV
  | [] => []
  | x :: xs => x.unlit :: SV.unlitL xs
end
def Blk.unlit : Blk → Blk
  | .box cs => .box (SV.unlitL cs)
  | b => b
def edit (m : Nat) (s : St) : Ed → Option St
  | .unlit => some { tm := s.tm.map SV.unlit, mem := s.mem.map Blk.unlit }
  | .at_ p a => match getPl s p, a with
    | some (.d .nil), .nil => some (setPl s (.d (.row [])) p)
    | some (.d .nil), .adopt sz e => some (setPl { s with mem := s.mem ++ [.row sz e []] } (.own s.mem.length) p)
    | some (.own k), .exp => match readRow (memF s.mem) (.own k) with
      | some els => some (setPl { s with mem := frzL s.mem [k] } (.d (.row els)) p)
      | none => none
    | some _, .any => some (setPl s .any p)
    | _, _ => none
  | .re ids => if nodup ids && (ids.take m == List.range m) then some { tm := s.tm.map (SV.reO fun k => idxIn k ids 0), mem := ids.map fun k => (memF s.mem k).reO fun k => idxIn k ids 0 } else none
  | .anys ts => some { s with tm := anysL s.tm ts }
  | .keep ts => some { s with tm := keepL ts 0 s.tm }
/-- Data told by an equal term. -/
inductive Say where
  | d (p : Pl) (x : D)
  | row (k : Nat) (els : List (List D))
def says (s : St) : List Say → Option (St × List Prop)
  | [] => some (s, [])
  | .d p x :: es => match getPl s p with
    | some (.d y) => match says (setPl s (.d x) p) es with
      | some (s', o) => some (s', (y = x) :: o)
      | none => none
    | _ => none
  | .row k els :: es => match s.mem[k]? with
    | some (.row sz e l) => match says { s with mem := s.mem.set k (.row sz e els) } es with
      | some (s', o) => some (s', (l = els) :: o)
      | none => none
    | _ => none
def edits (m : Nat) (s : St) : List Ed → Option St
  | [] => some s
  | e :: es => match edit m s e with
    | some s' => edits m s' es
    | none => none
def told (m : Nat) (s : St) (eds : List Ed) (sys : List Say) : Option (St × List Prop) :=
  match edits m s eds with
  | some s' => says s' sys
  | none => none

section
variable {P : Program} {gl : List (Nat × List D)} {W0 : World} {An : Nat → Option Loc} {S0 F0 F : Nat → Prop} {ρ : Nat → Option Loc} {W : World} {a : Act}
theorem getT_eq {tm : List SV} {t : Nat} {v : SV} (h : tm[t]? = some v) : getT tm t = v := by simp [getT, h]
theorem Rel.set_tmp {tm : List SV} {mem : List Blk} (h : Rel gl W0 S0 F0 An tm mem a W F ρ) (t : Nat) (v : SV) (hv : t < tm.length → Vr W F ρ v (a.tmps.getD t undef)) : Rel gl W0 S0 F0 An (tm.set t v) mem a W F ρ := by
  refine ⟨h.inv, h.fresh, h.anch, fun t' => ?_, by simp [h.size], h.defers⟩
  rw [getT_set]
  split
  · rename_i e
    obtain ⟨rfl, hl⟩ := e
    exact hv hl
  · exact h.tmp t'
/-- A value at a place told otherwise. -/
theorem Rel.set_pl {s : St} (h : Rel gl W0 S0 F0 An s.tm s.mem a W F ρ) {p : Pl} {v w : SV} (hg : getPl s p = some v) (hvw : ∀ u, Vr W F ρ v u → Vr W F ρ w u) : Rel gl W0 S0 F0 An (setPl s w p).tm (setPl s w p).mem a W F ρ := by
  have setL : ∀ (l : List SV) (j : Nat) (us : List Value), l[j]? = some v → VrL W F ρ l us → VrL W F ρ (l.set j w) us := by
    intro l j us hj hv
    obtain ⟨y, h1, h2, h3⟩ := hv.get _ _ j v hj
    have := hv.set _ _ j w y (hvw y h2) h3
    have e : us.set j y = us := by
      apply List.ext_getElem?
      intro i
      rw [List.getElem?_set]
      split
      · rename_i e
        subst e
        split
        · exact h1.symm
        · rename_i hl
          rw [List.getElem?_eq_none (Nat.le_of_not_lt hl)]
      · rfl
    rwa [e] at this
  cases p with
  | t t =>
    simp only [getPl] at hg
    simp only [setPl]
    exact h.set_tmp t w fun _ => hvw _ (by have := h.tmp t; rwa [getT_eq hg] at this)
  | ta t j =>
    simp only [getPl] at hg
    simp only [setPl]
    cases ht : s.tm[t]? with
    | none => simp [ht] at hg
    | some x =>
      cases x with
      | agg l =>
        simp only [ht] at hg ⊢
        refine h.set_tmp t _ fun _ => ?_
        have := h.tmp t
        rw [getT_eq ht] at this
        simp only [Vr] at this ⊢
        obtain ⟨us, h1, h2⟩ := this
        exact ⟨us, h1, setL l j us hg h2⟩
      | _ => simp [ht] at hg
  | b k j =>
    simp only [getPl] at hg
    simp only [setPl]
    cases ht : s.mem[k]? with
    | none => simp [ht] at hg
    | some x =>
      cases x with
      | box l =>
        simp only [ht] at hg ⊢
        have hk : k < s.mem.length := (List.getElem?_eq_some_iff.1 ht).1
        have hM : memF s.mem k = .box l := by simp [memF, ht]
        have hb := h.inv.blk k
        rw [hM] at hb
        obtain ⟨lc, vs, ty, h1, h2, h3⟩ := hb
        have hnext := h.inv.next k (.box (l.set j w)) lc none [] W (.inr h1) rfl rfl rfl (Nat.le_refl _) (fun _ _ _ => rfl) (fun g hg => by cases hg)
          ⟨lc, vs, ty, ext_at, h2, by rw [ext_self h1]; exact setL l j vs hg h3⟩ (fun g hg => .inl ⟨k, .inl rfl, by rw [ext_self h1] at hg; rw [hM]; simpa [real] using hg⟩)
        rw [ext_self h1] at hnext
        refine ⟨hnext.congr fun i => ?_, fun i hi => h.fresh i (by simpa using hi), h.anch, h.tmp, h.size, h.defers⟩
        rw [memF_set _ _ _ (.inl hk)]
        unfold Sx.put
        simp
      | _ => simp [ht] at hg
theorem idxIn_ge (k : Nat) : ∀ (ids : List Nat) (i j : Nat), idxIn k ids i = some j → i ≤ j
  | [], i, j, h => by simp [idxIn] at h
  | x :: xs, i, j, h => by
    simp only [idxIn] at h
    split at h
    · cases h
      exact Nat.le_refl _
    · have := idxIn_ge k xs (i + 1) j h
      omega
theorem idxIn_ok (k : Nat) : ∀ (ids : List Nat) (i j : Nat), idxIn k ids i = some j → ids[j - i]? = some k
  | [], i, j, h => by simp [idxIn] at h
  | x :: xs, i, j, h => by
    simp only [idxIn] at h
    split at h
    · rename_i e
      cases h
      simp [e]
    · have h1 := idxIn_ge k xs (i + 1) j h
      have := idxIn_ok k xs (i + 1) j h
      rw [show j - i = (j - (i + 1)) + 1 by omega]
      simpa using this
/-- Blocks told by other numbers. -/
def reρ (ρ : Nat → Option Loc) (ids : List Nat) : Nat → Option Loc := fun i => (ids[i]?).bind ρ
mutual
theorem Vr.reO {ids : List Nat} : ∀ (x : SV) (u : Value), Vr W F ρ x u → Vr W F (reρ ρ ids) (x.reO fun k => idxIn k ids 0) u
  | .own k, u, h => by
    simp only [SV.reO]
    split
    · rename_i i hi
      simp only [Vr] at h ⊢
      obtain ⟨l, h1, h2⟩ := h
      exact ⟨l, by have := idxIn_ok k ids 0 i hi; simp only [Nat.sub_zero] at this; simp [reρ, this, h1], h2⟩
    · simp only [Vr]
  | .ptr k off, u, h => by
    simp only [SV.reO]
    split
    · rename_i i hi
      simp only [Vr] at h ⊢
      obtain ⟨l, h1, h2⟩ := h
      exact ⟨l, by have := idxIn_ok k ids 0 i hi; simp only [Nat.sub_zero] at this; simp [reρ, this, h1], h2⟩
    · simp only [Vr]
  | .eptr k sz n off, u, h => by
    simp only [SV.reO]
    split
    · rename_i i hi
      simp only [Vr] at h ⊢
      obtain ⟨l, h1, h2⟩ := h
      exact ⟨l, by have := idxIn_ok k ids 0 i hi; simp only [Nat.sub_zero] at this; simp [reρ, this, h1], h2⟩
    · simp only [Vr]
  | .agg l, u, h => by
    simp only [SV.reO, Vr] at h ⊢
    obtain ⟨vs, h1, h2⟩ := h
    exact ⟨vs, h1, VrL.reO l vs h2⟩
  | .tup l, u, h => by
    simp only [SV.reO, Vr] at h ⊢
    obtain ⟨vs, h1, h2⟩ := h
    exact ⟨vs, h1, VrT.reO l vs h2⟩
  | .any, u, h => by simp only [SV.reO, Vr]
  | .lit b, u, h => by simpa only [SV.reO, Vr] using h
  | .d x, u, h => by simpa only [SV.reO, Vr] using h
  | .rptr sz xs n off, u, h => by simpa only [SV.reO, Vr] using h
theorem VrL.reO {ids : List Nat} : ∀ (x : List SV) (u : List Value), VrL W F ρ x u → VrL W F (reρ ρ ids) (SV.reOL (fun k => idxIn k ids 0) x) u
  | [], u, h => by simpa only [SV.reOL, VrL] using h
  | x :: xs, u, h => by
    simp only [SV.reOL, VrL] at h ⊢
    obtain ⟨a, b, h1, h2, h3, h4⟩ := h
    exact ⟨a, b, h1, Vr.reO x a h2, h3, VrL.reO xs b h4⟩
theorem VrT.reO {ids : List Nat} : ∀ (x : List SV) (u : List Value), VrT W F ρ x u → VrT W F (reρ ρ ids) (SV.reOL (fun k => idxIn k ids 0) x) u
  | [], u, h => by simpa only [SV.reOL, VrT] using h
  | x :: xs, u, h => by
    simp only [SV.reOL, VrT] at h ⊢
    obtain ⟨a, b, h1, h2, h3⟩ := h
    exact ⟨a, b, h1, Vr.reO x a h2, VrT.reO xs b h3⟩
end
theorem nodup_get : ∀ {ids : List Nat}, nodup ids = true → ∀ i j k : Nat, ids[i]? = some k → ids[j]? = some k → i = j
  | [], _, i, j, k, h, _ => by simp at h
  | x :: xs, hn, i, j, k, hi, hj => by
    simp [nodup] at hn
    cases i with
    | zero =>
      cases j with
      | zero => rfl
      | succ j =>
        simp at hi hj
        subst hi
        exact absurd (List.mem_of_getElem? hj) hn.1
    | succ i =>
      cases j with
      | zero =>
        simp at hi hj
        subst hj
        exact absurd (List.mem_of_getElem? hi) hn.1
      | succ j =>
        simp at hi hj
        rw [nodup_get hn.2 i j k hi hj]
theorem Rel.re {tm : List SV} {mem : List Blk} {ids : List Nat} (h : Rel gl W0 S0 F0 An tm mem a W F ρ) (hn : nodup ids = true) {m : Nat} (hAn : ∀ k l, An k = some l → k < m) (hm0 : ids.take m = List.range m) :
    Rel gl W0 S0 F0 An (tm.map (SV.reO fun k => idxIn k ids 0)) (ids.map fun k => (memF mem k).reO fun k => idxIn k ids 0) a W F (reρ ρ ids) := by
  have hm : ∀ i, memF (ids.map fun k => (memF mem k).reO fun k => idxIn k ids 0) i = match ids[i]? with | some k => (memF mem k).reO fun k => idxIn k ids 0 | none => .dead := by
    intro i
    unfold memF
    simp only [List.getD_eq_getElem?_getD, List.getElem?_map]
    cases ids[i]? <;> rfl
  have hr : ∀ i g, real (reρ ρ ids) i (memF (ids.map fun k => (memF mem k).reO fun k => idxIn k ids 0) i) = some g → ∃ k, ids[i]? = some k ∧ real ρ k (memF mem k) = some g := by
    intro i g hg
    rw [hm i] at hg
    cases hi : ids[i]? with
    | none => simp [hi, real] at hg
    | some k =>
      refine ⟨k, rfl, ?_⟩
      simp only [hi] at hg
      cases hb : memF mem k <;> simp [hb, Blk.reO, real, reρ, hi] at hg ⊢ <;> exact hg
  refine ⟨⟨h.inv.os, h.inv.tape, h.inv.output, h.inv.size, h.inv.keep, h.inv.Fsub, h.inv.Fnew, h.inv.Flt, ?_, ?_, ?_, h.inv.gl⟩, ?_, ?_, ?_, by simp [h.size], h.defers⟩
  · intro i
    rw [hm i]
    cases hi : ids[i]? with
    | none => trivial
    | some k =>
      have hb := h.inv.blk k
      simp only
      cases hM : memF mem k with
      | dead => trivial
      | box cs =>
        rw [hM] at hb
        obtain ⟨l, vs, t, h1, h2, h3⟩ := hb
        exact ⟨l, vs, t, by simp [reρ, hi, h1], h2, h3.reO⟩
      | row sz e els =>
        rw [hM] at hb
        obtain ⟨l, vs, h1, h2⟩ := hb
        exact ⟨l, vs, by simp [reρ, hi, h1], h2⟩
      | frz els =>
        rw [hM] at hb
        obtain ⟨l, h1, h2⟩ := hb
        exact ⟨l, by simp [reρ, hi, h1], h2⟩
  · intro i j g hij h1 h2
    obtain ⟨k, q1, q2⟩ := hr i g h1
    obtain ⟨k', q3, q4⟩ := hr j g h2
    refine h.inv.apart k k' g ?_ q2 q4
    rintro rfl
    exact hij (nodup_get hn i j k q1 q3)
  · intro i g hg
    obtain ⟨k, _, q2⟩ := hr i g hg
    exact h.inv.own k g q2
  · intro k hk
    simp only [List.length_map] at hk
    simp [reρ, List.getElem?_eq_none hk]
  · intro k l hk
    have h1 := hAn k l hk
    have h2 : (ids.take m)[k]? = some k := by rw [hm0]; simp [h1]
    rw [List.getElem?_take_of_lt h1] at h2
    simp [reρ, h2, h.anch k l hk]
  · intro t
    have := (h.tmp t).reO (ids := ids)
    unfold getT at this ⊢
    simp only [List.getD_eq_getElem?_getD, List.getElem?_map] at this ⊢
    cases ht : tm[t]? with
    | none => simp [Vr]
    | some v => simpa [ht] using this
theorem Rel.anys {mem : List Blk} : ∀ (ts : List Nat) {tm : List SV}, Rel gl W0 S0 F0 An tm mem a W F ρ → Rel gl W0 S0 F0 An (anysL tm ts) mem a W F ρ
  | [], tm, h => h
  | t :: ts, tm, h => Rel.anys ts (h.set_tmp t .any fun _ => by simp only [Vr])
mutual
theorem Vr.unlit : ∀ (x : SV) (u : Value), Vr W F ρ x u → Vr W F ρ x.unlit u
  | .lit b, u, h => by
    simp only [SV.unlit, Vr, Dr] at h ⊢
    subst h
    exact ⟨rfl, rfl⟩
  | .agg l, u, h => by
    simp only [SV.unlit, Vr] at h ⊢
    obtain ⟨vs, h1, h2⟩ := h
    exact ⟨vs, h1, VrL.unlit l vs h2⟩
  | .tup l, u, h => by
    simp only [SV.unlit, Vr] at h ⊢
    obtain ⟨vs, h1, h2⟩ := h
    exact ⟨vs, h1, VrT.unlit l vs h2⟩
  | .any, u, h => by simpa only [SV.unlit] using h
  | .d x, u, h => by simpa only [SV.unlit] using h
  | .own k, u, h => by simpa only [SV.unlit] using h
  | .ptr k off, u, h => by simpa only [SV.unlit] using h
  | .eptr k sz n off, u, h => by simpa only [SV.unlit] using h
  | .rptr sz xs n off, u, h => by simpa only [SV.unlit] using h
theorem VrL.unlit : ∀ (x : List SV) (u : List Value), VrL W F ρ x u → VrL W F ρ (SV.unlitL x) u
  | [], u, h => by simpa only [SV.unlitL, VrL] using h
  | x :: xs, u, h => by
    simp only [SV.unlitL, VrL] at h ⊢
    obtain ⟨a, b, h1, h2, h3, h4⟩ := h
    exact ⟨a, b, h1, Vr.unlit x a h2, h3, VrL.unlit xs b h4⟩
theorem VrT.unlit : ∀ (x : List SV) (u : List Value), VrT W F ρ x u → VrT W F ρ (SV.unlitL x) u
  | [], u, h => by simpa only [SV.unlitL, VrT] using h
  | x :: xs, u, h => by
    simp only [SV.unlitL, VrT] at h ⊢
    obtain ⟨a, b, h1, h2, h3⟩ := h
    exact ⟨a, b, h1, Vr.unlit x a h2, VrT.unlit xs b h3⟩
end
theorem Rel.unlit {tm : List SV} {mem : List Blk} (h : Rel gl W0 S0 F0 An tm mem a W F ρ) : Rel gl W0 S0 F0 An (tm.map SV.unlit) (mem.map Blk.unlit) a W F ρ := by
  have hm : ∀ k, memF (mem.map Blk.unlit) k = (memF mem k).unlit := by
    intro k
    unfold memF
    simp only [List.getD_eq_getElem?_getD, List.getElem?_map]
    cases mem[k]? <;> rfl
  have hr : ∀ k, real ρ k (memF (mem.map Blk.unlit) k) = real ρ k (memF mem k) := by
    intro k
    rw [hm]
    cases memF mem k <;> rfl
  refine ⟨⟨h.inv.os, h.inv.tape, h.inv.output, h.inv.size, h.inv.keep, h.inv.Fsub, h.inv.Fnew, h.inv.Flt, fun k => ?_, fun i j g hij h1 h2 => ?_, fun k g hg => ?_, h.inv.gl⟩, fun k hk => h.fresh k (by simpa using hk), h.anch, fun t => ?_, by simp [h.size], h.defers⟩
  · have := h.inv.blk k
    rw [hm]
    cases hb : memF mem k with
    | box cs =>
      rw [hb] at this
      obtain ⟨l, vs, t, h1, h2, h3⟩ := this
      exact ⟨l, vs, t, h1, h2, h3.unlit⟩
    | _ => rw [hb] at this; exact this
  · rw [hr] at h1 h2
    exact h.inv.apart i j g hij h1 h2
  · rw [hr] at hg
    exact h.inv.own k g hg
  · have := (h.tmp t).unlit
    unfold getT at this ⊢
    simp only [List.getD_eq_getElem?_getD, List.getElem?_map] at this ⊢
    cases ht : tm[t]? with
    | none => simp [Vr]
    | some v => simpa [ht] using this
theorem keepL_get (ts : List Nat) : ∀ (tm : List SV) (i t : Nat), getT (keepL ts i tm) t = getT tm t ∨ getT (keepL ts i tm) t = .any
  | [], i, t => .inl rfl
  | v :: tm, i, t => by
    cases t with
    | zero =>
      simp only [keepL, getT, List.getD_cons_zero]
      split
      · exact .inl rfl
      · exact .inr rfl
    | succ t => simpa only [keepL, getT, List.getD_cons_succ] using keepL_get ts tm (i + 1) t
theorem keepL_length (ts : List Nat) : ∀ (tm : List SV) (i : Nat), (keepL ts i tm).length = tm.length
  | [], i => rfl
  | v :: tm, i => by simp [keepL, keepL_length ts tm (i + 1)]
theorem Rel.keep {tm : List SV} {mem : List Blk} (h : Rel gl W0 S0 F0 An tm mem a W F ρ) (ts : List Nat) : Rel gl W0 S0 F0 An (keepL ts 0 tm) mem a W F ρ := by
  refine ⟨h.inv, h.fresh, h.anch, fun t => ?_, by rw [keepL_length]; exact h.size, h.defers⟩
  rcases keepL_get ts tm 0 t with e | e
  · rw [e]
    exact h.tmp t
  · rw [e]
    simp only [Vr]
theorem edit_ok {m : Nat} (hAn : ∀ k l, An k = some l → k < m) {s s' : St} {e : Ed} (he : edit m s e = some s') (h : Rel gl W0 S0 F0 An s.tm s.mem a W F ρ) : ∃ F' ρ', Rel gl W0 S0 F0 An s'.tm s'.mem a W F' ρ' := by
  cases e with
  | unlit =>
    simp [edit] at he
    subst he
    exact ⟨F, ρ, h.unlit⟩
  | anys ts =>
    simp [edit] at he
    subst he
    exact ⟨F, ρ, h.anys ts⟩
  | keep ts =>
    simp [edit] at he
    subst he
    exact ⟨F, ρ, h.keep ts⟩
  | re ids =>
    simp only [edit] at he
    split at he
    · rename_i hn
      cases he
      simp only [Bool.and_eq_true, beq_iff_eq] at hn
      exact ⟨F, _, h.re hn.1 hAn hn.2⟩
    · cases he
  | at_ p act =>
    simp only [edit] at he
    split at he
    · rename_i hg
      cases he
      refine ⟨F, ρ, h.set_pl hg fun u hu => ?_⟩
      simp only [Vr, Dr] at hu ⊢
      exact ⟨none, 0, [], 0, by rw [hu]; rfl, Nat.le_refl _, by simp only [DrLL], fun h => absurd rfl h⟩
    · rename_i sz e hg
      cases he
      have hnone := h.fresh s.mem.length (Nat.le_refl _)
      have hnext := h.inv.next s.mem.length (.row sz e []) ⟨0, .slice none 0 0⟩ none [] W (.inl hnone) rfl rfl rfl (Nat.le_refl _) (fun _ _ _ => rfl) (fun g hg => by cases hg)
        ⟨_, [], ext_at, ⟨by simp, .inl ⟨rfl, rfl⟩⟩, by simp only [DrLL], fun g hg => by simp [Value.ownBlock] at hg⟩ (fun g hg => by simp [real, ext_at, Value.ownBlock] at hg)
      have hrel : Rel gl W0 S0 F0 An s.tm (s.mem ++ [.row sz e []]) a W F (ext ρ s.mem.length ⟨0, .slice none 0 0⟩) := by
        refine ⟨hnext.congr fun j => ?_, fun k hk => ?_, fun k l hk => ext_mono (.inl hnone) k l (h.anch k l hk), fun t => (h.tmp t).mono (fun _ h => h) (fun _ _ => rfl) (ext_mono (.inl hnone)), h.size, h.defers⟩
        · rw [memF_snoc]
          unfold put
          simp
        · simp at hk
          unfold ext
          rw [if_neg (by omega)]
          exact h.fresh k (by omega)
      refine ⟨F, _, Rel.set_pl (s := { s with mem := s.mem ++ [.row sz e []] }) hrel (v := .d .nil) ?_ fun u hu => ?_⟩
      · cases p with
        | t t => exact hg
        | ta t j => exact hg
        | b k j =>
          simp only [getPl] at hg ⊢
          cases ht : s.mem[k]? with
          | none => simp [ht] at hg
          | some x =>
            rw [List.getElem?_append_left (List.getElem?_eq_some_iff.1 ht).1, ht]
            simpa [ht] using hg
      · simp only [Vr, Dr] at hu ⊢
        exact ⟨_, ext_at, hu, by rw [hu]; rfl⟩
    · rename_i k hg
      split at he
      · rename_i els hr
        cases he
        obtain ⟨F', f1, f2⟩ := h.inv.frzM [k]
        have hrel : Rel gl W0 S0 F0 An s.tm (frzL s.mem [k]) a W F' ρ :=
          ⟨f2.congr fun j => memF_frzL [k] s.mem j, fun i hi => h.fresh i (by rw [frzL_length] at hi; exact hi), h.anch, fun t => (h.tmp t).mono f1 (fun _ _ => rfl) (fun _ _ h => h), h.size, h.defers⟩
        refine ⟨F', ρ, Rel.set_pl (s := { s with mem := frzL s.mem [k] }) hrel (v := .own k) ?_ fun u hu => ?_⟩
        · cases p with
          | t t => exact hg
          | ta t j => exact hg
          | b k' j =>
            simp only [getPl] at hg ⊢
            have hm := memF_frzL [k] s.mem k'
            cases ht : s.mem[k']? with
            | none => simp [ht] at hg
            | some x =>
              cases x with
              | box l =>
                have h1 : memF s.mem k' = .box l := by simp [memF, ht]
                have h2 : frzM (memF s.mem) [k] k' = .box l := by
                  unfold frzM
                  rw [h1]
                  split <;> rfl
                rw [h2] at hm
                have h3 : (frzL s.mem [k])[k']? = some (.box l) := by
                  have hl : k' < (frzL s.mem [k]).length := by rw [frzL_length]; exact (List.getElem?_eq_some_iff.1 ht).1
                  unfold memF at hm
                  rw [List.getD_eq_getElem?_getD, List.getElem?_eq_getElem hl] at hm
                  rw [List.getElem?_eq_getElem hl]
                  simpa using hm
                rw [h3]
                simpa [ht] using hg
              | _ => simp [ht] at hg
        · have hd : ∃ ks, toD (memF s.mem) (.own k) = some (.row els, ks) ∧ ∀ j ∈ ks, j ∈ [k] := by
            simp only [readRow] at hr
            simp only [toD]
            cases hM : memF s.mem k <;> simp [hM] at hr ⊢ <;> exact ⟨_, ⟨hr, rfl⟩, by simp⟩
          obtain ⟨ks, d1, d2⟩ := hd
          simp only [Vr]
          exact toD_ok f2 (.own k) u (.row els) ks d1 d2 hu
      · cases he
    · rename_i v hg
      cases he
      exact ⟨F, ρ, h.set_pl hg fun u hu => by simp only [Vr]⟩
    · cases he
theorem edits_ok {m : Nat} (hAn : ∀ k l, An k = some l → k < m) : ∀ (es : List Ed) {s s' : St} {F : Nat → Prop} {ρ : Nat → Option Loc}, edits m s es = some s' → Rel gl W0 S0 F0 An s.tm s.mem a W F ρ → ∃ F' ρ', Rel gl W0 S0 F0 An s'.tm s'.mem a W F' ρ'
  | [], s, s', F, ρ, he, h => by
    simp [edits] at he
    subst he
    exact ⟨F, ρ, h⟩
  | e :: es, s, s', F, ρ, he, h => by
    simp only [edits] at he
    split at he
    · rename_i s1 h1
      obtain ⟨F1, ρ1, h2⟩ := edit_ok hAn h1 h
      exact edits_ok hAn es he h2
    · cases he
theorem says_ok : ∀ (es : List Say) {s s' : St} {o : List Prop}, says s es = some (s', o) → (∀ p ∈ o, p) → Rel gl W0 S0 F0 An s.tm s.mem a W F ρ → Rel gl W0 S0 F0 An s'.tm s'.mem a W F ρ
  | [], s, s', o, he, ho, h => by
    simp [says] at he
    obtain ⟨rfl, rfl⟩ := he
    exact h
  | .d p x :: es, s, s', o, he, ho, h => by
    simp only [says] at he
    split at he
    · rename_i y hg
      split at he
      · rename_i s1 o1 h1
        cases he
        have hyx : y = x := ho (y = x) (by simp)
        refine says_ok es h1 (fun q hq => ho q (by simp [hq])) (h.set_pl hg fun u hu => ?_)
        rw [← hyx]
        exact hu
      · cases he
    · cases he
  | .row k els :: es, s, s', o, he, ho, h => by
    simp only [says] at he
    split at he
    · rename_i sz e l hg
      split at he
      · rename_i s1 o1 h1
        cases he
        have hyx : l = els := ho (l = els) (by simp)
        subst hyx
        refine says_ok es h1 (fun q hq => ho q (by simp [hq])) ?_
        have : s.mem.set k (.row sz e l) = s.mem := by
          apply List.ext_getElem?
          intro i
          rw [List.getElem?_set]
          split
          · rename_i e'
            subst e'
            split
            · exact hg.symm
            · rename_i hl
              rw [List.getElem?_eq_none (Nat.le_of_not_lt hl)]
          · rfl
        simp only [this]
        exact h
      · cases he
    · cases he
theorem told_ok {m : Nat} (hAn : ∀ k l, An k = some l → k < m) {eds : List Ed} {sys : List Say} {s s' : St} {o : List Prop} (he : told m s eds sys = some (s', o)) (ho : ∀ p ∈ o, p) (h : Rel gl W0 S0 F0 An s.tm s.mem a W F ρ) : ∃ F' ρ', Rel gl W0 S0 F0 An s'.tm s'.mem a W F' ρ' := by
  simp only [told] at he
  split at he
  · rename_i s1 h1
    obtain ⟨F1, ρ1, h2⟩ := edits_ok hAn eds h1 h
    exact ⟨F1, ρ1, says_ok sys he ho h2⟩
  · cases he
end
end Go.Proofs.Ytdffdnbkinpbiaa.Sx
