import Derived.Test.YtdffdnbkinpbiaaSxS2
import Derived.Laws.StructEq
set_option linter.unusedVariables false
set_option linter.unusedSimpArgs false
namespace Go.Proofs.Ytdffdnbkinpbiaa.Sx
open Go Go.RowKit

/-! ### What an operation comes to -/
def szT (P : Program) (t : TypeId) : Option Nat := (P.info? t).map (·.size)
def isAggD : TypeDesc → Bool
  | .struct _ | .array _ _ => true
  | _ => false
def aggT (P : Program) (t : TypeId) : Option Bool := (P.underlying t).map isAggD
def ofCell : Value → SV
  | .bool b => .lit b
  | .slice none 0 0 => .d .nil
  | v => .d (.v v)
def one' : Value → Bool
  | .agg _ | .tuple _ => false
  | _ => true
def ofVal : Value → SV
  | .agg cs => if cs.toList.all one' then .agg (cs.toList.map ofCell) else .any
  | .tuple _ => .any
  | v => ofCell v
def getT (tm : List SV) (t : Nat) : SV := tm.getD t .any
def ofOpd (ρ : Nat → SV) : Operand → SV
  | .tmp t => ρ t
  | .const v => ofVal v
  | .global g => .d (.v (.pointer (some ⟨g, 0, none⟩)))
  | .func f => .d (.v (.func (.func f) #[] #[]))
/-- A scalar's value. -/
def scal : SV → Option Value
  | .d (.v x) => some x
  | .lit b => some (.bool b)
  | _ => none
def scalL : List SV → Option (List Value)
  | [] => some []
  | x :: xs => match scal x, scalL xs with
    | some v, some vs => some (v :: vs)
    | _, _ => none
/-- What needs no world. -/
def pureRun (P : Program) {α : Type} : Sem α → Option α
  | .pure a => some a
  | .program k => pureRun P (k P)
  | _ => none
theorem pureRun_ok {P : Program} {α : Type} : ∀ (s : Sem α) (a : α), pureRun P s = some a → ∀ W, s.run P W = .ok a W
  | .pure a, b, h, W => by
    simp only [pureRun, Option.some.injEq] at h
    subst h
    rfl
  | .program k, b, h, W => by
    simp only [pureRun] at h
    exact pureRun_ok (k P) b h W
  | .load .., _, h, _ | .store .., _, h, _ | .new .., _, h, _ | .shape .., _, h, _ | .freeze .., _, h, _ | .frozen .., _, h, _ | .getObj .., _, h, _ | .setObj .., _, h, _
  | .choose .., _, h, _ | .sys .., _, h, _ | .mark .., _, h, _ | .halt .., _, h, _ => by simp [pureRun] at h

/-- To closed data; which rows are frozen by it. -/
def toD (M : Nat → Blk) : SV → Option (D × List Nat)
  | .d .nil => some (.row [], [])
  | .d x => some (x, [])
  | .lit b => some (.v (.bool b), [])
  | .own k => match M k with
    | .row _ _ els => some (.row els, [k])
    | .frz els => some (.row els, [])
    | _ => none
  | _ => none
def toDL (M : Nat → Blk) : List SV → Option (List D × List Nat)
  | [] => some ([], [])
  | x :: xs => match toD M x, toDL M xs with
    | some (d, k), some (ds, ks) => some (d :: ds, k ++ ks)
    | _, _ => none
def frzB : Blk → Blk
  | .row _ _ els => .frz els
  | b => b
def frzM (M : Nat → Blk) (ks : List Nat) : Nat → Blk := fun j => if j ∈ ks then frzB (M j) else M j

section
variable {gl : List (Nat × List D)} {W0 : World} {S0 F0 F : Nat → Prop} {ρ : Nat → Option Loc} {M : Nat → Blk} {W : World}
theorem Inv.congr {M' : Nat → Blk} (h : Inv gl W0 S0 F0 F ρ M W) (e : ∀ k, M' k = M k) : Inv gl W0 S0 F0 F ρ M' W := by
  have : M' = M := funext e
  rwa [this]
theorem Inv.frzM (h : Inv gl W0 S0 F0 F ρ M W) : ∀ ks : List Nat, ∃ F', (∀ b, F b → F' b) ∧ Inv gl W0 S0 F0 F' ρ (frzM M ks) W
  | [] => ⟨F, fun _ h => h, h.congr fun k => by simp [Sx.frzM]⟩
  | k :: ks => by
    obtain ⟨F1, h1, h2⟩ := Inv.frzM h ks
    cases hk : Sx.frzM M ks k with
    | row sz e els =>
      obtain ⟨F2, h3, h4, _⟩ := h2.freeze k sz e els hk
      refine ⟨F2, fun b hb => h3 b (h1 b hb), h4.congr fun j => ?_⟩
      unfold Sx.frzM put
      by_cases hj : j = k
      · subst hj
        unfold Sx.frzM at hk
        by_cases hm : j ∈ ks
        · simp only [hm, if_true] at hk
          cases hM : M j <;> simp [hM, frzB] at hk
        · simp only [hm, if_false] at hk
          simp [hk, frzB]
      · simp [hj]
    | _ =>
      refine ⟨F1, h1, h2.congr fun j => ?_⟩
      unfold Sx.frzM
      by_cases hj : j = k
      · subst hj
        unfold Sx.frzM at hk
        by_cases hm : j ∈ ks
        · simp [hm]
        · simp only [hm, if_false] at hk
          simp [hk, frzB, hm]
      · simp [hj]

theorem toD_ok {ks : List Nat} (h : Inv gl W0 S0 F0 F ρ (frzM M ks) W) (x : SV) (u : Value) (d : D) (k : List Nat) (he : toD M x = some (d, k)) (hk : ∀ j ∈ k, j ∈ ks) (hv : Vr W F ρ x u) : Dr W F d u := by
  cases x with
  | d y =>
    cases y with
    | nil =>
      simp [toD] at he
      obtain ⟨rfl, rfl⟩ := he
      simp only [Vr, Dr] at hv
      simp only [Dr]
      exact ⟨none, 0, [], 0, by simpa using hv, by simp, by simp [DrLL], fun h => absurd rfl h⟩
    | v z =>
      simp [toD] at he
      obtain ⟨rfl, rfl⟩ := he
      simpa only [Vr] using hv
    | row xs =>
      simp [toD] at he
      obtain ⟨rfl, rfl⟩ := he
      simpa only [Vr] using hv
  | lit b =>
    simp [toD] at he
    obtain ⟨rfl, rfl⟩ := he
    simp only [Vr] at hv
    simp only [Dr]
    exact ⟨hv, by subst hv; rfl⟩
  | own j =>
    simp only [Vr] at hv
    obtain ⟨l, h1, h2, _⟩ := hv
    have hb := h.blk j
    simp only [toD] at he
    cases hM : M j with
    | row sz e els =>
      simp [hM] at he
      obtain ⟨rfl, rfl⟩ := he
      have hj : frzM M ks j = .frz els := by
        unfold frzM
        rw [if_pos (hk j (by simp)), hM]
        rfl
      rw [hj] at hb
      obtain ⟨l', h3, h4⟩ := hb
      rw [h1] at h3
      cases h3
      rw [h2]
      exact h4
    | frz els =>
      simp [hM] at he
      obtain ⟨rfl, rfl⟩ := he
      have hj : frzM M ks j = .frz els := by
        unfold frzM
        split
        · rw [hM]
          rfl
        · exact hM
      rw [hj] at hb
      obtain ⟨l', h3, h4⟩ := hb
      rw [h1] at h3
      cases h3
      rw [h2]
      exact h4
    | _ => simp [hM] at he
  | _ => simp [toD] at he
theorem toDL_ok {ks : List Nat} (h : Inv gl W0 S0 F0 F ρ (frzM M ks) W) : ∀ (x : List SV) (u : List Value) (d : List D) (k : List Nat), toDL M x = some (d, k) → (∀ j ∈ k, j ∈ ks) → VrL W F ρ x u → DrL W F d u
  | [], u, d, k, he, hk, hv => by
    simp [toDL] at he
    obtain ⟨rfl, rfl⟩ := he
    simpa only [VrL, DrL] using hv
  | x :: xs, u, d, k, he, hk, hv => by
    simp only [VrL] at hv
    obtain ⟨a, b, rfl, h2, h3, h4⟩ := hv
    simp only [toDL] at he
    cases h5 : toD M x with
    | none => simp [h5] at he
    | some p =>
      cases h6 : toDL M xs with
      | none => simp [h5, h6] at he
      | some q =>
        obtain ⟨d1, k1⟩ := p
        obtain ⟨d2, k2⟩ := q
        simp [h5, h6] at he
        obtain ⟨rfl, rfl⟩ := he
        simp only [DrL]
        exact ⟨a, b, rfl, toD_ok h x a d1 k1 h5 (fun j hj => hk j (List.mem_append_left _ hj)) h2, toDL_ok h xs b d2 k2 h6 (fun j hj => hk j (List.mem_append_right _ hj)) h4⟩
end
/-- What is passed by a call, or found by a search: told from outside. -/
inductive AD where
  | one (x : D)
  | agg (l : List D)
  | ptr (k : Nat)
inductive Orc where
  | elem (el : List D)
  | span (cells : List D)
  | call (ids : List Nat) (ms : List Blk) (res : SV) (ms' : List Blk)
  | loop (keep : List Nat) (n : Nat) (ren : List (Nat × Nat)) (exit : Option Nat) (tm : List SV) (mem : List Blk)
  | hint (hs : List (Nat × List Nat))
  | said (k : Nat) (els : List (List D))
inductive Chg where
  | same
  | nw (b : Blk)
  | upd (k : Nat) (b : Blk)
  | nws (bs : List Blk)
structure Eff where
  val : SV
  frz : List Nat := []
  kill : List Nat := []
  chg : Chg := .same
  obs : List Prop := []
  used : Bool := false

def loadx (P : Program) (gl : List (Nat × List D)) (M : Nat → Blk) (orc : Option Orc) (t : TypeId) (a : SV) : Option Eff :=
  match szT P t, aggT P t with
  | some s, some ag =>
    let fin (cells : List SV) (obs : List Prop) (used : Bool) : Option Eff :=
      if cells.length = s then
        if ag then some { val := .agg cells, obs, used }
        else match cells with
          | [x] => some { val := x, obs, used }
          | _ => none
      else none
    match a with
    | .ptr k off => match M k with
      | .box cs => fin ((cs.drop off).take s) [] false
      | _ => none
    | .eptr k sz n off => match M k, orc with
      | .row sz' _ els, some (.elem el) => if sz = sz' then fin (((el.drop off).take s).map .d) [els[n]? = some el] true else none
      | _, _ => none
    | .rptr sz xs n off => match orc with
      | some (.elem el) => if el.length = sz then fin (((el.drop off).take s).map .d) [xs[n]? = some el] true else none
      | some (.span cells) => fin (cells.map .d) [(xs.flatten.drop (n * sz + off)).take s = cells] true
      | _ => none
    | .d (.v (.pointer (some ⟨g, 0, none⟩))) => match gl.lookup g with
      | some cells => fin ((cells.take s).map .d) [] false
      | none => none
    | _ => none
  | _, _ => none

/-! ### Soundness, operation by operation -/
def effM (M : Nat → Blk) (c : Nat) (E : Eff) : Nat → Blk :=
  match E.chg with
  | .same => frzM M E.frz
  | .nw b => put (frzM M E.frz) E.kill c b
  | .upd k b => put (frzM M E.frz) [] k b
  | .nws bs => fun j => if c ≤ j ∧ j < c + bs.length then bs.getD (j - c) .dead else frzM M E.frz j
def Eff.cnt (E : Eff) : Nat :=
  match E.chg with
  | .nw _ => 1
  | .nws bs => bs.length
  | _ => 0
/-- What a run comes to, as E tells. -/
structure Runs (gl : List (Nat × List D)) (W0 : World) (S0 F0 F : Nat → Prop) (ρ : Nat → Option Loc) (M : Nat → Blk) (W : World) (c : Nat) (E : Eff) (v : Value) (W' : World) (F' : Nat → Prop) (ρ' : Nat → Option Loc) : Prop where
  inv : Inv gl W0 S0 F0 F' ρ' (effM M c E) W'
  hF : ∀ b, F b → F' b
  hρ : ∀ k l, ρ k = some l → ρ' k = some l
  old : ∀ k, k ≠ c → ρ' k = ρ k
  hW : ∀ b, F b → W'.heap[b]? = W.heap[b]?
  val : Vr W' F' ρ' E.val v
  nonew : (∀ b, E.chg ≠ .nw b) → ρ' = ρ
  nonws : ∀ bs, E.chg ≠ .nws bs

section
variable {P : Program} {gl : List (Nat × List D)} {W0 : World} {S0 F0 F : Nat → Prop} {ρ : Nat → Option Loc} {M : Nat → Blk} {W : World}
theorem Runs.pure {c : Nat} {E : Eff} {v : Value} (h : Inv gl W0 S0 F0 F ρ M W) (hf : E.frz = []) (hc : E.chg = .same) (hv : Vr W F ρ E.val v) : Runs gl W0 S0 F0 F ρ M W c E v W F ρ :=
  ⟨h.congr fun k => by simp [effM, hc, hf, frzM], fun _ h => h, fun _ _ h => h, fun _ _ => rfl, fun _ _ => rfl, hv, fun _ => rfl, fun bs h => by rw [hc] at h; cases h⟩

theorem run_isAgg {t : TypeId} {ag : Bool} (ha : aggT P t = some ag) : (isAgg t).run P W = .ok ag W := by
  simp only [aggT] at ha
  cases hu : P.underlying t with
  | none => simp [hu] at ha
  | some d =>
    simp [hu] at ha
    subst ha
    simp only [isAgg, Sem.run_bind, run_underlying hu, Result.andThen_ok]
    cases d <;> rfl
theorem run_sizeOf {t : TypeId} {s : Nat} (hs : szT P t = some s) : (sizeOf t).run P W = .ok s W := by
  simp only [szT] at hs
  cases hi : P.info? t with
  | none => simp [hi] at hs
  | some i =>
    simp [hi] at hs
    subst hs
    simp [sizeOf, typeInfo, hi]
theorem run_loadAgg {t : TypeId} {s : Nat} (hs : szT P t = some s) (ha : aggT P t = some true) (a : Addr) (cs : List Value) (hl : cs.length = s) (h : ∀ (j : Nat) (v : Value), cs[j]? = some v → W.cell? (a.add j) = some v) :
    (Instr.loadAt t (.pointer (some a))).run P W = .ok (.agg cs.toArray) W := by
  subst hl
  simp only [Instr.loadAt, Instr.sureAddr, loadVar, Sem.run_bind, Sem.run_pure, Result.andThen_ok, run_isAgg ha, if_true, run_sizeOf hs, run_loadCells_list W a cs h]
theorem run_loadOne {t : TypeId} (ha : aggT P t = some false) (a : Addr) (v : Value) (h : W.cell? a = some v) :
    (Instr.loadAt t (.pointer (some a))).run P W = .ok v W := by
  simp only [Instr.loadAt, Instr.sureAddr, loadVar, Sem.run_bind, Sem.run_pure, Result.andThen_ok, run_isAgg ha, Bool.false_eq_true, if_false]
  simp [h]
theorem lookup_mem {g : Nat} {cells : List D} : ∀ {gl : List (Nat × List D)}, gl.lookup g = some cells → (g, cells) ∈ gl
  | [], h => by simp at h
  | (a, b) :: ps, h => by
    simp only [List.lookup] at h
    split at h
    · rename_i hb
      simp at h hb
      subst h
      subst hb
      exact List.mem_cons_self
    · exact List.mem_cons_of_mem _ (lookup_mem h)
/-- Cells that are there, loaded. -/
theorem load_fin {t : TypeId} {s : Nat} {ag : Bool} (hs : szT P t = some s) (ha : aggT P t = some ag) (a : Addr) (cells : List SV) (obs : List Prop) (used : Bool) {E : Eff}
    (he : (if cells.length = s then
        if ag then some { val := SV.agg cells, obs, used }
        else match cells with
          | [x] => some { val := x, obs, used }
          | _ => none
      else none : Option Eff) = some E)
    (h : Inv gl W0 S0 F0 F ρ M W) (cs : List Value) (hv : VrL W F ρ cells cs) (hc : ∀ (j : Nat) (v : Value), cs[j]? = some v → W.cell? (a.add j) = some v) (c : Nat) :
    ∃ v, (Instr.loadAt t (.pointer (some a))).run P W = .ok v W ∧ E.obs = obs ∧ Runs gl W0 S0 F0 F ρ M W c E v W F ρ := by
  split at he
  · rename_i hl
    have hlen := hv.length
    cases ag with
    | true =>
      simp at he
      subst he
      refine ⟨_, run_loadAgg hs ha a cs (by omega) hc, rfl, Runs.pure h rfl rfl ?_⟩
      simp only [Vr]
      exact ⟨cs, rfl, hv⟩
    | false =>
      simp only [Bool.false_eq_true, if_false] at he
      split at he
      · rename_i x
        simp at he
        subst he
        simp only [VrL] at hv
        obtain ⟨u, t', rfl, h2, h3, rfl⟩ := hv
        refine ⟨u, run_loadOne ha a u ?_, rfl, Runs.pure h rfl rfl h2⟩
        have := hc 0 u rfl
        rwa [add_zero] at this
      · cases he
  · cases he
theorem load_ok {t : TypeId} {a : SV} {orc : Option Orc} {E : Eff} (he : loadx P gl M orc t a = some E) (ho : ∀ p ∈ E.obs, p) (h : Inv gl W0 S0 F0 F ρ M W) (u : Value) (hu : Vr W F ρ a u) (c : Nat) :
    ∃ v, (Instr.loadAt t u).run P W = .ok v W ∧ Runs gl W0 S0 F0 F ρ M W c E v W F ρ := by
  unfold loadx at he
  cases hs : szT P t with
  | none => simp [hs] at he
  | some s =>
    cases ha : aggT P t with
    | none => simp [hs, ha] at he
    | some ag =>
      simp only [hs, ha] at he
      -- an element of a row
      have elem : ∀ (ad : Addr) (sz : Nat) (els : List (List D)) (vs : List Value) (n off : Nat) (el : List D), DrLL W F sz els vs → (∀ (j : Nat) (y : Value), vs[j]? = some y → W.cell? (ad.add j) = some y) → els[n]? = some el →
          ∃ cs, VrL W F ρ (((el.drop off).take s).map .d) cs ∧ ∀ (j : Nat) (v : Value), cs[j]? = some v → W.cell? ((ad.add (n * sz + off)).add j) = some v := by
        intro ad sz els vs n off el h1 h2 h3
        obtain ⟨e1, ws, e2, e3⟩ := h1.get _ _ n el h3
        refine ⟨(ws.drop off).take s, VrL.ofD _ _ ((e2.drop _ _ off).take _ _ s), fun j v hj => ?_⟩
        rw [add_add]
        refine h2 _ v ?_
        rw [← e3] at hj
        rw [List.getElem?_take] at hj
        split at hj
        · rw [List.getElem?_drop, List.getElem?_take] at hj
          split at hj
          · rw [List.getElem?_drop] at hj
            rw [← hj]
            congr 1
            omega
          · cases hj
        · cases hj
      have fin1 : ∀ (ad : Addr) (cells : List SV) (obs : List Prop) (used : Bool), (if cells.length = s then
          if ag then some { val := SV.agg cells, obs, used }
          else match cells with
            | [x] => some { val := x, obs, used }
            | _ => none
          else none : Option Eff) = some E → ((∀ p ∈ obs, p) → ∃ cs, VrL W F ρ cells cs ∧ ∀ (j : Nat) (v : Value), cs[j]? = some v → W.cell? (ad.add j) = some v) →
          ∃ v, (Instr.loadAt t (.pointer (some ad))).run P W = .ok v W ∧ Runs gl W0 S0 F0 F ρ M W c E v W F ρ := by
        intro ad cells obs used he1 hcs
        have hob : E.obs = obs := by
          split at he1
          · cases ag
            · simp only [Bool.false_eq_true, if_false] at he1
              split at he1
              · simp at he1
                subst he1
                rfl
              · cases he1
            · simp at he1
              subst he1
              rfl
          · cases he1
        obtain ⟨cs, h1, h2⟩ := hcs (by rw [← hob]; exact ho)
        obtain ⟨v, h3, _, h4⟩ := load_fin hs ha ad cells obs used he1 h cs h1 h2 c
        exact ⟨v, h3, h4⟩
      cases a with
      | ptr k off =>
        simp only at he
        cases hM : M k with
        | box cells =>
          simp only [hM] at he
          have hb := h.blk k
          rw [hM] at hb
          obtain ⟨l, vs, ty, h1, h2, h3⟩ := hb
          simp only [Vr] at hu
          obtain ⟨l', h4, rfl⟩ := hu
          rw [h1] at h4
          cases h4
          refine fin1 _ _ _ _ he fun _ => ⟨(vs.drop off).take s, (h3.drop _ _ off).take _ _ s, fun j v hj => ?_⟩
          rw [add_at, cell_of_row W l.g _ vs.toArray ty (0, 0) h2]
          rw [List.getElem?_take] at hj
          split at hj
          · rw [List.getElem?_drop] at hj
            simpa using hj
          · cases hj
        | _ => simp [hM] at he
      | eptr k sz n off =>
        simp only [Vr] at hu
        obtain ⟨l, h4, rfl⟩ := hu
        have hb := h.blk k
        cases hM : M k with
        | row sz' ty els =>
          cases orc with
          | none => simp [hM] at he
          | some o =>
            cases o with
            | elem el =>
              simp only [hM] at he
              split at he
              · rename_i e
                subst e
                rw [hM] at hb
                obtain ⟨l', vs, h1, h2, h3, h5⟩ := hb
                rw [h1] at h4
                cases h4
                refine fin1 _ _ _ _ he fun hob => ?_
                have hel := hob _ (List.mem_singleton.2 rfl)
                obtain ⟨A, cap, e1, e2, e3⟩ := row_cells h2
                have hpos : 0 < els.length := by
                  rcases Nat.eq_zero_or_pos els.length with h0 | h0
                  · rw [List.eq_nil_of_length_eq_zero h0] at hel
                    simp at hel
                  · exact h0
                obtain ⟨g, e4, e5, e6⟩ := e3 hpos
                have hg := h5 g e5
                rw [hg] at e6
                obtain ⟨cs, q1, q2⟩ := elem ⟨l.g, 0, none⟩ sz els vs n off el h3 (fun j y hy => by rw [add_new]; exact e6 j y hy) hel
                refine ⟨cs, q1, fun j v hj => ?_⟩
                have := q2 j v hj
                rwa [add_new] at this
              · cases he
            | _ => simp [hM] at he
        | _ => simp [hM] at he
      | rptr sz xs n off =>
        simp only [Vr] at hu
        obtain ⟨ad, vs, rfl, ⟨sz', h2⟩, h3, h4⟩ := hu
        cases orc with
        | none => simp at he
        | some o =>
          cases o with
          | elem el =>
            simp only at he
            split at he
            · rename_i hsz
              refine fin1 _ _ _ _ he fun hob => ?_
              have hel := hob _ (List.mem_singleton.2 rfl)
              have hs' : sz' = sz := by
                have := (h2.get _ _ n el hel).1
                omega
              subst hs'
              exact elem ad sz' xs vs n off el h2 h4 hel
            · cases he
          | span cells =>
            simp only at he
            refine fin1 _ _ _ _ he fun hob => ?_
            have hel := hob _ (List.mem_singleton.2 rfl)
            refine ⟨(vs.drop (n * sz + off)).take s, ?_, fun j v hj => ?_⟩
            · rw [← hel]
              exact VrL.ofD _ _ ((h2.flat.drop _ _ _).take _ _ _)
            · rw [add_add]
              refine h4 _ v ?_
              rw [List.getElem?_take] at hj
              split at hj
              · rwa [List.getElem?_drop] at hj
              · cases hj
          | _ => simp at he
      | d x =>
        cases x with
        | row xs => simp at he
        | nil => simp at he
        | v y =>
          simp only [Vr, Dr] at hu
          obtain ⟨rfl, _⟩ := hu
          split at he <;> rename_i heq
          · cases heq
          · cases heq
          · cases heq
          · rename_i g
            cases heq
            cases hg : gl.lookup g with
            | none => simp [hg] at he
            | some cells =>
              simp only [hg] at he
              have hmem : (g, cells) ∈ gl := lookup_mem hg
              obtain ⟨_, vs, q1, q2⟩ := h.gl _ hmem
              refine fin1 _ _ _ _ he fun _ => ⟨vs.take s, VrL.ofD _ _ (q1.take _ _ s), fun j v hj => ?_⟩
              rw [add_new]
              refine q2 j v ?_
              rw [List.getElem?_take] at hj
              split at hj
              · exact hj
              · cases hj
          · cases he
      | _ => simp at he
end
end Go.Proofs.Ytdffdnbkinpbiaa.Sx
