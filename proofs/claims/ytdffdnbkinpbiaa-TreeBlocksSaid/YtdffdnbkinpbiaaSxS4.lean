import Derived.Test.YtdffdnbkinpbiaaSxS3
set_option linter.unusedVariables false
set_option linter.unusedSimpArgs false
namespace Go.Proofs.Ytdffdnbkinpbiaa.Sx
open Go Go.RowKit

theorem splice_get {α : Type} (x : List α) (off : Nat) (y : List α) (h : off ≤ x.length) (i : Nat) : (splice x off y)[i]? = if i < off then x[i]? else if i < off + y.length then y[i - off]? else x[i]? := by
  unfold splice
  by_cases h1 : i < off
  · rw [if_pos h1, List.getElem?_append_left (by simp; omega), List.getElem?_take, if_pos h1]
  · rw [if_neg h1, List.getElem?_append_right (by simp; omega)]
    have e : (x.take off).length = off := by simp; omega
    rw [e]
    by_cases h2 : i < off + y.length
    · rw [if_pos h2, List.getElem?_append_left (by omega)]
    · rw [if_neg h2, List.getElem?_append_right (by omega), List.getElem?_drop]
      congr 1
      omega
theorem splice_splice {α : Type} (x : List α) (m sz off : Nat) (y : List α) (h : m + sz ≤ x.length) (hy : off + y.length ≤ sz) : splice x m (splice ((x.drop m).take sz) off y) = splice x (m + off) y := by
  have hl : ((x.drop m).take sz).length = sz := by simp; omega
  have hl2 : (splice ((x.drop m).take sz) off y).length = sz := by rw [splice_length _ _ _ (by omega), hl]
  apply List.ext_getElem?
  intro i
  rw [splice_get x m _ (by omega), splice_get x (m + off) y (by omega), hl2]
  by_cases h1 : i < m
  · rw [if_pos h1, if_pos (by omega)]
  · rw [if_neg h1]
    by_cases h2 : i < m + sz
    · rw [if_pos h2, splice_get _ _ _ (by omega)]
      by_cases h3 : i < m + off
      · rw [if_pos (by omega), if_pos h3, List.getElem?_take, if_pos (by omega), List.getElem?_drop]
        congr 1
        omega
      · rw [if_neg (by omega), if_neg h3]
        by_cases h4 : i < m + off + y.length
        · rw [if_pos (by omega), if_pos h4]
          congr 1
          omega
        · rw [if_neg (by omega), if_neg h4, List.getElem?_take, if_pos (by omega), List.getElem?_drop]
          congr 1
          omega
    · rw [if_neg h2, if_neg (by omega), if_neg (by omega)]

def cellsOf : SV → Option (List SV)
  | .agg l => some l
  | .any => none
  | .tup _ => none
  | x => some [x]
theorem cellsOf_ok {W : World} {F : Nat → Prop} {ρ : Nat → Option Loc} {x : SV} {l : List SV} {u : Value} (he : cellsOf x = some l) (hu : Vr W F ρ x u) : VrL W F ρ l u.cells.toList := by
  have one : ∀ {y : SV}, l = [y] → Vr W F ρ y u → u.oneCell' = true → VrL W F ρ l u.cells.toList := by
    intro y e h1 h2
    subst e
    have : u.cells = #[u] := by cases u <;> first | rfl | simp [Value.oneCell'] at h2
    rw [this]
    simp only [VrL]
    exact ⟨u, [], rfl, h1, h2, rfl⟩
  cases x with
  | any => simp [cellsOf] at he
  | tup => simp [cellsOf] at he
  | agg k =>
    simp [cellsOf] at he
    subst he
    simp only [Vr] at hu
    obtain ⟨vs, rfl, h⟩ := hu
    simpa [Value.cells] using h
  | d y =>
    simp [cellsOf] at he
    exact one he.symm hu (by simp only [Vr] at hu; exact Dr.one _ _ hu)
  | lit b =>
    simp [cellsOf] at he
    exact one he.symm hu (by simp only [Vr] at hu; subst hu; rfl)
  | own k =>
    simp [cellsOf] at he
    exact one he.symm hu (by simp only [Vr] at hu; obtain ⟨l, _, _, h⟩ := hu; exact h)
  | ptr k off =>
    simp [cellsOf] at he
    exact one he.symm hu (by simp only [Vr] at hu; obtain ⟨l, _, rfl⟩ := hu; rfl)
  | eptr k sz n off =>
    simp [cellsOf] at he
    exact one he.symm hu (by simp only [Vr] at hu; obtain ⟨l, _, rfl⟩ := hu; rfl)
  | rptr sz xs n off =>
    simp [cellsOf] at he
    exact one he.symm hu (by simp only [Vr] at hu; obtain ⟨ad, vs, rfl, _⟩ := hu; rfl)

def storex (P : Program) (M : Nat → Blk) (orc : Option Orc) (t : TypeId) (a v : SV) : Option Eff :=
  match szT P t, cellsOf v with
  | some s, some cells =>
    if cells.length = s then
      match a with
      | .ptr k off => match M k with
        | .box cs => if off + s ≤ cs.length then some { val := .any, chg := .upd k (.box (splice cs off cells)) } else none
        | _ => none
      | .eptr k sz n off => match M k, toDL M cells with
        | .row sz' e els, some (ds, ks) =>
          if sz = sz' ∧ k ∉ ks then
            if s = sz ∧ off = 0 then some { val := .any, frz := ks, chg := .upd k (.row sz e (els.set n ds)), obs := [n < els.length] }
            else match orc with
              | some (.elem el) => if off + s ≤ sz then some { val := .any, frz := ks, chg := .upd k (.row sz e (els.set n (splice el off ds))), obs := [els[n]? = some el], used := true } else none
              | _ => none
          else none
        | _, _ => none
      | _ => none
    else none
  | _, _ => none

section
variable {P : Program} {gl : List (Nat × List D)} {W0 : World} {S0 F0 F : Nat → Prop} {ρ : Nat → Option Loc} {M : Nat → Blk} {W : World}
theorem frzM_self {ks : List Nat} {k : Nat} (h : k ∉ ks) : frzM M ks k = M k := by simp [frzM, h]
theorem ext_self {k : Nat} {l : Loc} (h : ρ k = some l) : ext ρ k l = ρ := by
  funext j
  unfold ext
  split
  · rename_i e
    subst e
    exact h.symm
  · rfl
theorem run_storeAt {t : TypeId} {s : Nat} (hs : szT P t = some s) (g o : Nat) (ty : TypeId) (cur : Array Value) (hg : W.heap[g]? = some (.cells cur ty (0, 0))) (u : Value) (hu : u.cells.size = s) (hl : o + s ≤ cur.size) (h1 : ∀ v ∈ u.cells.toList, v.oneCell' = true) :
    (Instr.storeAt t (.pointer (some ⟨g, o, none⟩)) u).run P W = .ok () (W.setRow g (splice cur.toList o u.cells.toList).toArray) := by
  simp only [Instr.storeAt, Instr.sureAddr, storeVar, Sem.run_bind, Sem.run_pure, Result.andThen_ok, run_sizeOf hs, hu, ne_eq, not_true_eq_false, if_false]
  rw [run_storeCells_at (P := P) g o ty u.cells.toList 0 cur W hg (by simp; omega) h1]
  simp only [splice, Nat.add_zero, List.append_assoc]
/-- A store into a row of the walk's own. -/
theorem own_set {W : World} {e : TypeId} {sz n g : Nat} {v : Value} {vs : List Value} (h : W.ownsRow 0 e sz v n vs) (hg : v.ownBlock = some g) (o : Nat) (ys : List Value) (hl : o + ys.length ≤ n * sz) :
    ∃ cur, W.heap[g]? = some (.cells cur e (0, 0)) ∧ o + ys.length ≤ cur.size ∧ (W.setRow g (splice cur.toList o ys).toArray).ownsRow 0 e sz v n (splice vs o ys) := by
  rcases h.2 with ⟨h1, h2⟩ | ⟨g', cap, cur, h1, h2, h3, h4, h5, h6, h7⟩
  · subst h1
    simp [Value.ownBlock] at hg
  · have e1 : g' = g := by rw [h1] at hg; simpa [Value.ownBlock] using hg
    subst e1
    have hm : n * sz ≤ cap * sz := Nat.mul_le_mul_right _ h4
    have e2 := h.1
    refine ⟨cur, h3, by omega, ?_, .inr ⟨g', cap, _, h1, h2, setRow_heap W g' cur _ e (0, 0) h3, h4, h5, ?_, ?_⟩⟩
    · rw [splice_length _ _ _ (by omega)]
      exact e2
    · simp only [List.size_toArray]
      rw [splice_length _ _ _ (by simp; omega)]
      simpa using h6
    · simp only []
      apply List.ext_getElem?
      intro i
      rw [splice_get _ _ _ (by omega), List.getElem?_take, splice_get _ _ _ (by simp; omega)]
      by_cases hi : i < n * sz
      · rw [if_pos hi, ← h7, List.getElem?_take, if_pos hi]
      · rw [if_neg hi, if_neg (by omega), if_neg (by omega), List.getElem?_eq_none (by omega)]
theorem store_ok {t : TypeId} {a v : SV} {orc : Option Orc} {E : Eff} (he : storex P M orc t a v = some E) (ho : ∀ p ∈ E.obs, p) (h : Inv gl W0 S0 F0 F ρ M W) (u x : Value) (hu : Vr W F ρ a u) (hx : Vr W F ρ v x) (c : Nat) :
    ∃ W' F', (Instr.storeAt t u x).run P W = .ok () W' ∧ Runs gl W0 S0 F0 F ρ M W c E undef W' F' ρ := by
  unfold storex at he
  cases hs : szT P t with
  | none => simp [hs] at he
  | some s =>
    cases hc : cellsOf v with
    | none => simp [hs, hc] at he
    | some cells =>
      simp only [hs, hc] at he
      split at he
      · rename_i hlen
        have hv := cellsOf_ok hc hx
        have hvl := hv.length
        have hsz : x.cells.size = s := by rw [← Array.length_toList]; omega
        cases a with
        | ptr k off =>
          simp only at he
          cases hM : M k with
          | box cs =>
            simp only [hM] at he
            split at he
            · rename_i hoff
              simp at he
              subst he
              have hb := h.blk k
              rw [hM] at hb
              obtain ⟨l, vs, ty, h1, h2, h3⟩ := hb
              simp only [Vr] at hu
              obtain ⟨l', h4, rfl⟩ := hu
              rw [h1] at h4
              cases h4
              have hl3 := h3.length
              refine ⟨_, F, run_storeAt hs l.g off ty vs.toArray h2 x hsz (by simp; omega) hv.one, ?_⟩
              have hnext := h.next k (.box (splice cs off cells)) l (some l.g) [] (W.setRow l.g (splice vs off x.cells.toList).toArray) (.inr h1) rfl rfl rfl (by simp)
                (fun c _ hc => setRow_other W l.g c _ (fun e => hc (by rw [e]))) (fun g hg => ⟨k, .inl rfl, by rw [hM]; simp [real, h1]; simpa using hg⟩)
                (by
                  rw [ext_self h1]
                  have hsame : ∀ b, F b → (W.setRow l.g (splice vs off x.cells.toList).toArray).heap[b]? = W.heap[b]? := fun b hb => setRow_other W l.g b _ (fun e => (h.own k l.g (by rw [hM]; simp [real, h1])).1 (e ▸ hb))
                  exact ⟨l, _, ty, h1, setRow_heap W l.g _ _ ty (0, 0) h2, (VrL.splice _ _ _ _ off h3 hv).mono (fun _ h => h) hsame (fun _ _ h => h)⟩)
                (fun g hg => .inl ⟨k, .inl rfl, by rw [ext_self h1] at hg; rw [hM]; simpa [real] using hg⟩)
              rw [ext_self h1] at hnext
              refine ⟨hnext.congr fun j => by simp [effM, put, frzM], fun _ h => h, fun _ _ h => h, fun _ _ => rfl, fun b hb => setRow_other W l.g b _ (fun e => (h.own k l.g (by rw [hM]; simp [real, h1])).1 (e ▸ hb)), by simp only [Vr], fun _ => rfl, fun bs h => by cases h⟩
            · cases he
          | _ => simp [hM] at he
        | eptr k sz n off =>
          simp only at he
          cases hM : M k with
          | row sz' e els =>
            cases hd : toDL M cells with
            | none => simp [hM, hd] at he
            | some p =>
              obtain ⟨ds, ks⟩ := p
              simp only [hM, hd] at he
              split at he
              · rename_i hk
                obtain ⟨e1, hk⟩ := hk
                subst e1
                obtain ⟨F', f1, f2⟩ := h.frzM ks
                have hds := toDL_ok f2 cells x.cells.toList ds ks hd (fun j hj => hj) (hv.mono f1 (fun _ _ => rfl) (fun _ _ h => h))
                have hdl := hds.length
                have hMk : frzM M ks k = .row sz e els := by rw [frzM_self hk, hM]
                have hb := f2.blk k
                rw [hMk] at hb
                obtain ⟨l, vs, h1, h2, h3, h5⟩ := hb
                simp only [Vr] at hu
                obtain ⟨l', h4, rfl⟩ := hu
                rw [h1] at h4
                cases h4
                have hl3 := h3.length
                -- the store of cells that make element n anew
                have fin : ∀ (el' : List D) (ws : List Value), n < els.length → off + s ≤ sz → el'.length = sz → DrL W F' el' ws → splice vs (n * sz) ws = splice vs (n * sz + off) x.cells.toList →
                    ∃ W', (Instr.storeAt t (.pointer (some ⟨l.g, n * sz + off, none⟩)) x).run P W = .ok () W' ∧ Inv gl W0 S0 F0 F' ρ (put (frzM M ks) [] k (.row sz e (els.set n el'))) W' ∧ ∀ b, F b → W'.heap[b]? = W.heap[b]? := by
                  intro el' ws hn hoff hel hws hsp
                  have hblk : l.s.ownBlock = some l.g := by
                    obtain ⟨A, cap, q1, q2, q3⟩ := row_cells h2
                    obtain ⟨g, _, q4, _⟩ := q3 (by omega)
                    rw [q4, h5 g q4]
                  have hmul : n * sz + sz ≤ els.length * sz := by
                    have := Nat.mul_le_mul_right sz (show n + 1 ≤ els.length by omega)
                    rwa [Nat.add_mul, Nat.one_mul] at this
                  obtain ⟨cur, r1, r2, r3⟩ := own_set h2 hblk (n * sz + off) x.cells.toList (by omega)
                  have hreal : real ρ k (frzM M ks k) = some l.g := by rw [hMk]; simp [real, h1, hblk]
                  have hsame : ∀ b, F' b → (W.setRow l.g (splice cur.toList (n * sz + off) x.cells.toList).toArray).heap[b]? = W.heap[b]? := fun b hb => setRow_other W l.g b _ (fun e => (f2.own k l.g hreal).1 (e ▸ hb))
                  refine ⟨_, run_storeAt hs l.g (n * sz + off) e cur r1 x hsz (by omega) hv.one, ?_, fun b hb => hsame b (f1 b hb)⟩
                  have hnext := f2.next k (.row sz e (els.set n el')) l (some l.g) [] (W.setRow l.g (splice cur.toList (n * sz + off) x.cells.toList).toArray) (.inr h1) rfl rfl rfl (by simp)
                    (fun c _ hc => setRow_other W l.g c _ (fun e => hc (by rw [e]))) (fun g hg => ⟨k, .inl rfl, by rw [hreal]; simpa using hg⟩)
                    (by
                      rw [ext_self h1]
                      refine ⟨l, _, h1, by rw [List.length_set]; exact r3, ?_, h5⟩
                      rw [← hsp]
                      exact (DrLL.set _ _ h3 n el' ws hn hel hws).mono (fun _ h => h) hsame _)
                    (fun g hg => .inl ⟨k, .inl rfl, by rw [ext_self h1] at hg; rw [hMk]; simpa [real] using hg⟩)
                  rwa [ext_self h1] at hnext
                split at he
                · rename_i hwhole
                  obtain ⟨e2, rfl⟩ := hwhole
                  simp at he
                  subst he
                  have hn : n < els.length := ho _ (List.mem_singleton.2 rfl)
                  obtain ⟨W', r1, r2, r3⟩ := fin ds x.cells.toList hn (by omega) (by omega) hds rfl
                  exact ⟨W', F', r1, r2, f1, fun _ _ h => h, fun _ _ => rfl, r3, by simp only [Vr], fun _ => rfl, fun bs h => by cases h⟩
                · split at he
                  · rename_i el
                    split at he
                    · rename_i hoff
                      simp at he
                      subst he
                      have hel := ho _ (List.mem_singleton.2 rfl)
                      have hn : n < els.length := (List.getElem?_eq_some_iff.1 hel).1
                      obtain ⟨w1, ws, w2, w3⟩ := h3.get _ _ n el hel
                      have hmul : n * sz + sz ≤ els.length * sz := by
                        have := Nat.mul_le_mul_right sz (show n + 1 ≤ els.length by omega)
                        rwa [Nat.add_mul, Nat.one_mul] at this
                      obtain ⟨W', r1, r2, r3⟩ := fin (splice el off ds) (splice ws off x.cells.toList) hn hoff (by rw [splice_length _ _ _ (by omega)]; exact w1) (DrL.splice _ _ _ _ off w2 hds)
                        (by rw [← w3]; exact splice_splice vs (n * sz) sz off _ (by omega) (by omega))
                      exact ⟨W', F', r1, r2, f1, fun _ _ h => h, fun _ _ => rfl, r3, by simp only [Vr], fun _ => rfl, fun bs h => by cases h⟩
                    · cases he
                  · cases he
              · cases he
          | _ => simp [hM] at he
        | _ => simp at he
      · cases he
end
end Go.Proofs.Ytdffdnbkinpbiaa.Sx
