import Derived.Test.YtdffdnbkinpbiaaSxS6
set_option linter.unusedVariables false
set_option linter.unusedSimpArgs false
namespace Go.Proofs.Ytdffdnbkinpbiaa.Sx
open Go Go.RowKit

/-! ### The operations -/
def elemT (P : Program) (t : TypeId) : Option TypeId :=
  match P.underlying t with
  | some (.slice e) => some e
  | _ => none
def bytesT (P : Program) (t : TypeId) : Option Nat := (P.info? t).map (·.bytes)
def fieldT (P : Program) (t : TypeId) (f : Nat) : Option Field :=
  match P.underlying t with
  | some (.struct fs) => fs[f]?
  | _ => none
def zeroCells (P : Program) (t : TypeId) : Option (List SV) := (zeroT P t).bind fun z => cellsOf (ofVal z)

/-- A slice that is read: its elements; what is frozen by it (nothing), and what is owed. -/
def readRow (M : Nat → Blk) : SV → Option (List (List D))
  | .own k => match M k with
    | .row _ _ els => some els
    | .frz els => some els
    | _ => none
  | .d (.row xs) => some xs
  | .d .nil => some []
  | _ => none
def numOf : SV → Option Int
  | .d (.v (.int _ n)) => some n
  | _ => none

def appendx (P : Program) (M : Nat → Blk) (c : Nat) (t : TypeId) (s x : SV) : Option Eff :=
  match elemT P t with
  | some e => match szT P e, bytesT P e, (zeroT P e).map (fun z => z.cells.size), readRow M x with
    | some sz, some by_, some zs, some xs =>
      if 0 < sz ∧ 0 < by_ ∧ zs = sz then
        match s with
        | .own k => match M k with
          | .row sz' e' els => if sz' = sz ∧ e' = e then some { val := .own c, kill := [k], chg := .nw (.row sz e (els ++ xs)), obs := [(els.length + xs.length) * by_ ≤ 140737488355328, ∀ el ∈ xs, el.length = sz] } else none
          | _ => none
        | .d .nil => some { val := .own c, chg := .nw (.row sz e xs), obs := [(0 + xs.length) * by_ ≤ 140737488355328, ∀ el ∈ xs, el.length = sz] }
        | _ => none
      else none
    | _, _, _, _ => none
  | none => none

section
variable {P : Program} {gl : List (Nat × List D)} {W0 : World} {S0 F0 F : Nat → Prop} {ρ : Nat → Option Loc} {M : Nat → Blk} {W : World}
theorem DrLL.resize {sz sz' : Nat} : ∀ (xs : List (List D)) (vs : List Value), DrLL W F sz' xs vs → (∀ el ∈ xs, el.length = sz) → DrLL W F sz xs vs
  | [], vs, h, _ => by
    simp only [DrLL] at h ⊢
    exact h
  | x :: xs, vs, h, hs => by
    simp only [DrLL] at h ⊢
    obtain ⟨a, b, h1, h2, h3, h4⟩ := h
    exact ⟨a, b, h1, hs x (by simp), h3, DrLL.resize xs b h4 fun el hel => hs el (by simp [hel])⟩
theorem elemT_ok {t e : TypeId} (h : elemT P t = some e) : P.underlying t = some (.slice e) := by
  unfold elemT at h
  split at h
  · rename_i x hx
    cases h
    exact hx
  · cases h
/-- A slice that is read. -/
theorem readRow_ok (h : Inv gl W0 S0 F0 F ρ M W) {x : SV} {xs : List (List D)} {u : Value} (he : readRow M x = some xs) (hu : Vr W F ρ x u) :
    ∃ A cap vs sz, u = .slice A xs.length cap ∧ xs.length ≤ cap ∧ DrLL W F sz xs vs ∧ (A = none → xs = []) ∧ (∀ ad, A = some ad → ∀ (j : Nat) (y : Value), vs[j]? = some y → W.cell? (ad.add j) = some y) := by
  have ofD : ∀ {w : Value}, Dr W F (.row xs) w → ∃ A cap vs sz, w = .slice A xs.length cap ∧ xs.length ≤ cap ∧ DrLL W F sz xs vs ∧ (A = none → xs = []) ∧ (∀ ad, A = some ad → ∀ (j : Nat) (y : Value), vs[j]? = some y → W.cell? (ad.add j) = some y) := by
    intro w hw
    simp only [Dr] at hw
    obtain ⟨A, cap, vs, sz, h1, h2, h3, h4⟩ := hw
    refine ⟨A, cap, vs, sz, h1, h2, h3, fun hA => ?_, fun ad hA j y hy => ?_⟩
    · rcases Classical.em (xs = []) with h0 | h0
      · exact h0
      · obtain ⟨ad, h5, _⟩ := h4 h0
        rw [hA] at h5
        cases h5
    · rcases Classical.em (xs = []) with h0 | h0
      · subst h0
        simp only [DrLL] at h3
        subst h3
        simp at hy
      · obtain ⟨ad', h5, _, h6⟩ := h4 h0
        rw [hA] at h5
        cases h5
        exact h6 j y hy
  cases x with
  | own k =>
    simp only [Vr] at hu
    obtain ⟨l, h1, rfl, _⟩ := hu
    have hb := h.blk k
    simp only [readRow] at he
    cases hM : M k with
    | row sz e els =>
      simp [hM] at he
      subst he
      rw [hM] at hb
      obtain ⟨l', vs, h2, h3, h4, h5⟩ := hb
      rw [h1] at h2
      cases h2
      obtain ⟨A, cap, e1, e2, e3⟩ := row_cells h3
      refine ⟨A, cap, vs, sz, e1, e2, h4, fun hA => ?_, fun ad hA j y hy => ?_⟩
      · rcases Nat.eq_zero_or_pos els.length with h0 | h0
        · exact List.eq_nil_of_length_eq_zero h0
        · obtain ⟨g, e4, _⟩ := e3 h0
          rw [hA] at e4
          cases e4
      · rcases Nat.eq_zero_or_pos els.length with h0 | h0
        · have := List.eq_nil_of_length_eq_zero h0
          subst this
          simp only [DrLL] at h4
          subst h4
          simp at hy
        · obtain ⟨g, e4, _, e5⟩ := e3 h0
          rw [hA] at e4
          cases e4
          rw [add_new]
          exact e5 j y hy
    | frz els =>
      simp [hM] at he
      subst he
      rw [hM] at hb
      obtain ⟨l', h2, h3⟩ := hb
      rw [h1] at h2
      cases h2
      exact ofD h3
    | _ => simp [hM] at he
  | d y =>
    simp only [Vr] at hu
    cases y with
    | row ys =>
      simp [readRow] at he
      subst he
      exact ofD hu
    | nil =>
      simp [readRow] at he
      subst he
      simp only [Dr] at hu
      subst hu
      exact ⟨none, 0, [], 0, rfl, Nat.le_refl _, by simp only [DrLL], fun _ => rfl, fun _ h => by cases h⟩
    | v z => simp [readRow] at he
  | _ => simp [readRow] at he

theorem append_ok {t ty : TypeId} {c : Nat} {s x : SV} {E : Eff} (he : appendx P M c t s x = some E) (ho : ∀ p ∈ E.obs, p) (h : Inv gl W0 S0 F0 F ρ M W) (hc : ρ c = none) (u w : Value) (hu : Vr W F ρ s u) (hw : Vr W F ρ x w) :
    ∃ v W' ρ', (Builtin.append_ #[t, t] ty #[u, w]).run P W = .ok v W' ∧ Runs gl W0 S0 F0 F ρ M W c E v W' F ρ' := by
  unfold appendx at he
  cases h1 : elemT P t with
  | none => simp [h1] at he
  | some e =>
    simp only [h1] at he
    have hun := elemT_ok h1
    cases h2 : szT P e with
    | none => simp [h2] at he
    | some sz =>
      cases h3 : bytesT P e with
      | none => simp [h2, h3] at he
      | some by_ =>
        cases h4 : zeroT P e with
        | none => simp [h2, h3, h4] at he
        | some z =>
          cases h5 : readRow M x with
          | none => simp [h2, h3, h4, h5] at he
          | some xs =>
            simp only [h2, h3, h4, h5, Option.map_some] at he
            split at he
            · rename_i hpos
              obtain ⟨p1, p2, p3⟩ := hpos
              obtain ⟨i, i1, i2⟩ : ∃ i, P.info? e = some i ∧ i.zero = some z := by
                simp only [zeroT, Option.bind_eq_some_iff] at h4
                exact h4
              have i3 : i.size = sz := by simp [szT, i1] at h2; exact h2
              have i4 : i.bytes = by_ := by simp [bytesT, i1] at h3; exact h3
              obtain ⟨A, cap, news, sz', e1, e2, e3, e4, e5⟩ := readRow_ok h h5 hw
              subst e1
              -- the law, of a row that is owned (or nil)
              have law : ∀ (els : List (List D)) (vs : List Value), W.ownsRow 0 e sz u els.length vs → DrLL W F sz els vs → (els.length + xs.length) * by_ ≤ 140737488355328 → (∀ el ∈ xs, el.length = sz) →
                  ∃ v W', (Builtin.append_ #[t, t] ty #[u, .slice A xs.length cap]).run P W = .ok v W' ∧ W'.ownsRow 0 e sz v (els ++ xs).length (vs ++ news) ∧ DrLL W F sz (els ++ xs) (vs ++ news) ∧ W.grownBy W' u.ownBlock ∧
                    (v.ownBlock = u.ownBlock ∨ v.ownBlock = some W.heap.size) := by
                intro els vs q1 q2 q3 q4
                have e3' := DrLL.resize _ _ e3 q4
                have hnl := e3'.length
                have hb : els.length + xs.length ≤ 140737488355328 := Nat.le_trans (Nat.le_mul_of_pos_right _ p2) q3
                have hd := DrLL.append _ _ _ _ q2 e3'
                cases A with
                | none =>
                  have hx := e4 rfl
                  subst hx
                  simp only [DrLL] at e3'
                  subst e3'
                  refine ⟨u, W, ?_, by simpa using q1, hd, World.grownBy.refl W _, .inl rfl⟩
                  rcases q1.2 with ⟨r1, r2⟩ | ⟨g, cp, cur, r1, _, _, r3, _⟩
                  · subst r1
                    simp [Builtin.append_, run_underlying hun, sizeOf, typeInfo, i1, Builtin.lenOf, Builtin.firstCells, r2]
                  · subst r1
                    simp [Builtin.append_, run_underlying hun, sizeOf, typeInfo, i1, Builtin.lenOf, Builtin.firstCells, r3, storeCells]
                | some ad =>
                  obtain ⟨v, W', r1, r2, r3, _, r4⟩ := run_append_own_at (P := P) W 0 t ty e i z sz by_ hun i1 i2 i3 i4 p3 p1 u els.length vs q1 ad xs.length cap news hnl (e5 ad rfl) e3'.one (by simp only [maxLen]; omega) q3 (Nat.zero_le _)
                  exact ⟨v, W', r1, by rw [List.length_append]; exact r2, hd, r3, r4⟩
              -- what follows of the memory
              have fin : ∀ (Z : List Nat) (els : List (List D)) (vs : List Value) (v : Value) (W' : World), W'.ownsRow 0 e sz v (els ++ xs).length (vs ++ news) → DrLL W F sz (els ++ xs) (vs ++ news) → W.grownBy W' u.ownBlock →
                  (v.ownBlock = u.ownBlock ∨ v.ownBlock = some W.heap.size) → (∀ g, u.ownBlock = some g → ∃ j ∈ Z, real ρ j (M j) = some g) → ∀ obs,
                  ∃ ρ', Runs gl W0 S0 F0 F ρ M W c { val := .own c, kill := Z, chg := .nw (.row sz e (els ++ xs)), obs := obs } v W' F ρ' := by
                intro Z els vs v W' q1 q2 q3 q4 q5 obs
                have hsame : ∀ b, F b → W'.heap[b]? = W.heap[b]? := fun b hb => q3.block b (h.Flt b hb) fun e => by
                  obtain ⟨j, _, hj⟩ := q5 b e.symm
                  exact (h.own j b hj).1 hb
                have hnext := h.next c (.row sz e (els ++ xs)) ⟨(v.ownBlock).getD 0, v⟩ u.ownBlock Z W' (.inl hc) q3.os q3.tape q3.output q3.size (fun b hb hX => q3.block b hb fun e => hX e.symm)
                  (fun g hg => by obtain ⟨j, h6, h7⟩ := q5 g hg; exact ⟨j, .inr h6, h7⟩)
                  ⟨_, _, ext_at, q1, q2.mono (fun _ h => h) hsame _, fun g hg => by rw [hg]; rfl⟩
                  (fun g hg => by
                    have hg' : v.ownBlock = some g := by simpa [real, ext_at] using hg
                    rcases q4 with h6 | h6
                    · obtain ⟨j, h7, h8⟩ := q5 g (by rw [← h6]; exact hg')
                      exact .inl ⟨j, .inr h7, h8⟩
                    · rw [h6] at hg'
                      cases hg'
                      exact .inr (Nat.le_refl _))
                refine ⟨_, hnext.congr fun j => by simp [effM, frzM_nil], fun _ h => h, ext_mono (.inl hc), fun k hk => by simp [ext, hk], hsame, ?_, fun hn => absurd rfl (hn _), fun bs h => by cases h⟩
                simp only [Vr]
                refine ⟨_, ext_at, rfl, ?_⟩
                obtain ⟨A', c', r1, _⟩ := row_cells q1
                rw [r1]
                rfl
              cases s with
              | own k =>
                simp only at he
                cases hM : M k with
                | row sz' e' els =>
                  simp only [hM] at he
                  split at he
                  · rename_i hee
                    obtain ⟨r1, r2⟩ := hee
                    subst r1
                    subst r2
                    simp at he
                    subst he
                    have hb := h.blk k
                    rw [hM] at hb
                    obtain ⟨l, vs, b1, b2, b3, b4⟩ := hb
                    simp only [Vr] at hu
                    obtain ⟨l', b5, rfl, _⟩ := hu
                    rw [b1] at b5
                    cases b5
                    have o1 := ho ((els.length + xs.length) * by_ ≤ 140737488355328) (by simp)
                    have o2 := ho (∀ el ∈ xs, el.length = sz') (by simp)
                    obtain ⟨v, W', c1, c2, c3, c4, c5⟩ := law els vs b2 b3 o1 o2
                    obtain ⟨ρ', c6⟩ := fin [k] els vs v W' c2 c3 c4 c5 (fun g hg => ⟨k, by simp, by rw [hM]; simp [real, b1, hg]⟩) _
                    exact ⟨v, W', ρ', c1, c6⟩
                  · cases he
                | _ => simp [hM] at he
              | d y =>
                cases y with
                | nil =>
                  simp at he
                  subst he
                  simp only [Vr, Dr] at hu
                  subst hu
                  have o1 := ho ((0 + xs.length) * by_ ≤ 140737488355328) (by simp)
                  have o2 := ho (∀ el ∈ xs, el.length = sz) (by simp)
                  obtain ⟨v, W', c1, c2, c3, c4, c5⟩ := law [] [] ⟨by simp, .inl ⟨rfl, rfl⟩⟩ (by simp only [DrLL]) (by simpa using o1) o2
                  obtain ⟨ρ', c6⟩ := fin [] [] [] v W' c2 c3 c4 c5 (fun g hg => by simp [Value.ownBlock] at hg) _
                  exact ⟨v, W', ρ', c1, c6⟩
                | _ => simp at he
              | _ => simp at he
            · cases he
end
end Go.Proofs.Ytdffdnbkinpbiaa.Sx
