import Derived.Test.YtdffdnbkinpbiaaSxS18
import Derived.ChangeOld
import Derived.Carry
import Derived.ChangeSame
import Derived.ChangeVars
import Derived.JoinedOf
import Derived.RowKit
import Derived.RowKitTokens
import Derived.LaidLaws
import Derived.LaidHandle
import Derived.Stop.Joined
set_option linter.unusedVariables false
set_option linter.unusedSimpArgs false
namespace Go.Proofs.Ytdffdnbkinpbiaa.Sx
open Go Go.RowKit

/-! ### From what a row reads to data -/
/-- Data of a type. -/
def ShpF (S : TypeId → List D → Prop) : List Field → List D → Prop
  | [], ds => ds = []
  | f :: fs, ds => ∃ a b, ds = a ++ b ∧ S f.type a ∧ ShpF S fs b
def Shp (P : Program) : Nat → TypeId → List D → Prop
  | 0, _, _ => False
  | d + 1, t, ds => match P.underlying t with
    | some .bool => ∃ b, ds = [.v (.bool b)]
    | some (.int k) => ∃ n, (Lit.int k n).wf = true ∧ ds = [.v (.int k n)]
    | some .string => ∃ s : ByteArray, s.size ≤ maxLen ∧ ds = [.v (.string s)]
    | some (.slice e) => ∃ els : List (List D), ds = [.row els] ∧ els.length ≤ maxLen ∧ ∀ el ∈ els, Shp P d e el
    | some (.struct fs) => ShpF (Shp P d) fs.toList ds
    | _ => False
/-- Fields without a gap. -/
def tight (P : Program) : Nat → List Field → Nat → Bool
  | off, [], n => off == n
  | off, f :: fs, n => f.offset == off && tight P (off + P.cellsOf f.type) fs n
def plainT (P : Program) : Nat → TypeId → Bool
  | 0, _ => false
  | d + 1, t => match P.underlying t with
    | some .bool | some (.int _) | some .string => P.cellsOf t == 1
    | some (.slice e) => P.cellsOf t == 1 && decide (0 < P.cellsOf e) && plainT P d e
    | some (.struct fs) => tight P 0 fs.toList (P.cellsOf t) && fs.toList.all fun f => plainT P d f.type
    | _ => false
section
variable {H : Type} {enc : TypeId × Value → H} {P : Program} {w : World} {base : Nat} {spare : Nat → Bool} {held : Bool}
theorem mapM_all {α β : Type} {f : α → Option β} : ∀ (l : List α) (r : List β), l.mapM f = some r → r.length = l.length ∧ ∀ (i : Nat) (x : α), l[i]? = some x → ∃ y, r[i]? = some y ∧ f x = some y
  | [], r, h => by
    simp at h
    subst h
    simp
  | x :: l, r, h => by
    simp only [List.mapM_cons, Option.bind_eq_bind, Option.bind_eq_some_iff, Option.pure_def, Option.some.injEq] at h
    obtain ⟨y, h1, ys, h2, rfl⟩ := h
    obtain ⟨h3, h4⟩ := mapM_all l ys h2
    refine ⟨by simp [h3], fun i z hz => ?_⟩
    cases i with
    | zero =>
      simp at hz
      subst hz
      exact ⟨y, rfl, h1⟩
    | succ i => exact h4 i z (by simpa using hz)
theorem cells_get {a : Addr} {n : Nat} {cs : List Value} (h : w.cells? base a n = some cs) : cs.length = n ∧ ∀ (j : Nat) (v : Value), cs[j]? = some v → w.cell? (a.add j) = some v := by
  unfold World.cells? at h
  split at h
  · obtain ⟨h1, h2⟩ := mapM_all _ _ h
    simp at h1
    refine ⟨h1, fun j v hj => ?_⟩
    have hlt : j < n := by
      have := (List.getElem?_eq_some_iff.1 hj).1
      omega
    obtain ⟨y, h3, h4⟩ := h2 j j (by simp [hlt])
    rw [hj] at h3
    cases h3
    exact h4
  · cases h
/-- Elements in a row: their values, one behind the other. -/
theorem elems_row {F : Nat → Prop} {S : List D → Prop} {c : Nat} {a : Addr} {f : Nat → Option (DataW H × List MemPlace)} (hf : ∀ i x, f i = some x → ∃ cs ds, cs.length = c ∧ (∀ (j : Nat) (v : Value), cs[j]? = some v → w.cell? ((a.add (i * c)).add j) = some v) ∧ DrL w F ds cs ∧ S ds) :
    ∀ (len i0 : Nat) (r : List (DataW H × List MemPlace)), (List.range' i0 len).mapM f = some r →
      ∃ (els : List (List D)) (vs : List Value), els.length = len ∧ DrLL w F c els vs ∧ (∀ el ∈ els, S el) ∧ ∀ (j : Nat) (v : Value), vs[j]? = some v → w.cell? (a.add (i0 * c + j)) = some v
  | 0, i0, r, h => ⟨[], [], rfl, by simp [DrLL], by simp, by simp⟩
  | len + 1, i0, r, h => by
    simp only [List.range'_succ, List.mapM_cons, Option.bind_eq_bind, Option.bind_eq_some_iff, Option.pure_def, Option.some.injEq] at h
    obtain ⟨y, h1, ys, h2, rfl⟩ := h
    obtain ⟨cs, ds, q1, q2, q3, q4⟩ := hf i0 y h1
    obtain ⟨els, vs, p1, p2, p3, p4⟩ := elems_row hf len (i0 + 1) ys h2
    have hl := q3.length
    refine ⟨ds :: els, cs ++ vs, by simp [p1], ?_, ?_, fun j v hj => ?_⟩
    · simp only [DrLL]
      exact ⟨cs, vs, rfl, by omega, q3, p2⟩
    · intro el hel
      rcases List.mem_cons.1 hel with rfl | hel
      · exact q4
      · exact p3 el hel
    · rcases Nat.lt_or_ge j cs.length with hj' | hj'
      · rw [List.getElem?_append_left hj'] at hj
        rw [← add_add]
        exact q2 j v hj
      · rw [List.getElem?_append_right hj'] at hj
        have := p4 (j - cs.length) v hj
        rw [Nat.add_mul, Nat.one_mul] at this
        rw [show i0 * c + j = i0 * c + c + (j - cs.length) by omega]
        exact this
theorem trod_shp {F : Nat → Prop} (hF : ∀ b, b < w.heap.size → F b) : ∀ (fuel n : Nat) (t : TypeId) (cs : List Value) (x : DataW H × List MemPlace), DataW.trod enc P w base spare held fuel t cs = some x → plainT P n t = true →
    ∃ ds, DrL w F ds cs ∧ Shp P n t ds
  | 0, n, t, cs, x, h, _ => by simp [DataW.trod] at h
  | fuel + 1, 0, t, cs, x, h, hp => by simp [plainT] at hp
  | fuel + 1, n + 1, t, cs, x, h, hp => by
    have one : ∀ {v : Value}, v.oneCell' = true → DrL w F [.v v] [v] := fun hv => by
      simp only [DrL, Dr]
      exact ⟨_, [], rfl, ⟨rfl, hv⟩, rfl⟩
    simp only [plainT] at hp
    simp only [Shp]
    cases hu : P.underlying t with
    | none => simp [hu] at hp
    | some u =>
      cases u with
      | bool =>
        simp only
        rcases cs with _ | ⟨c, _ | ⟨c2, cs⟩⟩
        · simp [DataW.trod, hu] at h
        · cases c <;> simp [DataW.trod, hu] at h
          rename_i b
          exact ⟨_, one rfl, b, rfl⟩
        · simp [DataW.trod, hu] at h
      | int k =>
        simp only
        rcases cs with _ | ⟨c, _ | ⟨c2, cs⟩⟩
        · simp [DataW.trod, hu] at h
        · cases c <;> simp [DataW.trod, hu] at h
          rename_i k' m
          obtain ⟨⟨rfl, hw⟩, _⟩ := h
          exact ⟨_, one rfl, m, hw, rfl⟩
        · simp [DataW.trod, hu] at h
      | string =>
        simp only
        rcases cs with _ | ⟨c, _ | ⟨c2, cs⟩⟩
        · simp [DataW.trod, hu] at h
        · cases c <;> simp [DataW.trod, hu] at h
          rename_i s
          exact ⟨_, one rfl, s, h.1, rfl⟩
        · simp [DataW.trod, hu] at h
      | slice e =>
        simp only [hu, Bool.and_eq_true, decide_eq_true_eq, beq_iff_eq] at hp
        obtain ⟨⟨hp1, hp2⟩, hp3⟩ := hp
        simp only
        rcases cs with _ | ⟨c, _ | ⟨c2, cs⟩⟩
        · simp [DataW.trod, hu] at h
        · cases c with
          | slice a len cap =>
            cases a with
            | none =>
              have h0 : len = 0 ∧ cap = 0 := by
                rcases Nat.eq_zero_or_pos len with h1 | h1 <;> rcases Nat.eq_zero_or_pos cap with h2 | h2
                · exact ⟨h1, h2⟩
                · obtain ⟨c', rfl⟩ : ∃ c', cap = c' + 1 := ⟨cap - 1, by omega⟩
                  subst h1
                  simp [DataW.trod, hu] at h
                · obtain ⟨c', rfl⟩ : ∃ c', len = c' + 1 := ⟨len - 1, by omega⟩
                  subst h2
                  simp [DataW.trod, hu] at h
                · obtain ⟨c', rfl⟩ : ∃ c', len = c' + 1 := ⟨len - 1, by omega⟩
                  simp [DataW.trod, hu] at h
              obtain ⟨rfl, rfl⟩ := h0
              refine ⟨[.row []], ?_, [], rfl, by simp, by simp⟩
              simp only [DrL, Dr]
              exact ⟨_, [], rfl, ⟨none, 0, [], 0, rfl, by simp, by simp [DrLL], fun h => absurd rfl h⟩, rfl⟩
            | some a =>
              simp only [DataW.trod, hu] at h
              split at h
              · rename_i hb
                simp only [Option.bind_eq_some_iff] at h
                obtain ⟨elems, h1, h2⟩ := h
                rw [List.range_eq_range'] at h1
                obtain ⟨els, vs, q1, q2, q3, q4⟩ := elems_row (F := F) (S := Shp P n e) (c := P.cellsOf e) (a := a) (f := fun i => (w.cells? base (a.add (i * P.cellsOf e)) (P.cellsOf e)).bind (DataW.trod enc P w base spare held fuel e)) (by
                  intro i y hy
                  simp only [Option.bind_eq_some_iff] at hy
                  obtain ⟨cs', hc, hr⟩ := hy
                  obtain ⟨p1, p2⟩ := cells_get hc
                  obtain ⟨ds, r1, r2⟩ := trod_shp hF fuel n e cs' y hr hp3
                  exact ⟨cs', ds, p1, p2, r1, r2⟩) len 0 elems h1
                refine ⟨[.row els], ?_, els, rfl, by omega, q3⟩
                simp only [DrL, Dr]
                refine ⟨_, [], rfl, ⟨some a, cap, vs, P.cellsOf e, by rw [q1], by omega, q2, fun hne => ?_⟩, rfl⟩
                refine ⟨a, rfl, hF _ ?_, fun j y hy => by simpa using q4 j y hy⟩
                cases els with
                | nil => exact absurd rfl hne
                | cons el els =>
                  have hl := q2.length
                  have hpos : 0 < vs.length := by
                    rw [hl]
                    exact Nat.mul_pos (by simp) hp2
                  have := q4 0 vs[0] (by simp)
                  simp only [Nat.zero_mul, Nat.add_zero, add_zero] at this
                  have hblk : a.block < w.heap.size := by
                    rcases Nat.lt_or_ge a.block w.heap.size with h | h
                    · exact h
                    · simp [World.cell?, Array.getElem?_eq_none h] at this
                  exact hblk
              · cases h
          | _ => simp [DataW.trod, hu] at h
        · simp [DataW.trod, hu] at h
      | struct fs =>
        simp only [hu, Bool.and_eq_true, List.all_eq_true] at hp
        obtain ⟨hp1, hp2⟩ := hp
        simp only
        have h' : (if cs.length = P.cellsOf t then (fs.toList.mapM fun f => DataW.trod enc P w base spare held fuel f.type ((cs.drop f.offset).take (P.cellsOf f.type))).map fun xs => (DataW.agg (xs.map (·.1)), xs.flatMap (·.2)) else none) = some x := by
          rw [← h]
          simp only [DataW.trod, hu]
        split at h'
        · rename_i hl
          simp only [Option.map_eq_some_iff] at h'
          obtain ⟨xs, h1, _⟩ := h'
          have key : ∀ f ∈ fs.toList, ∀ x, DataW.trod enc P w base spare held fuel f.type ((cs.drop f.offset).take (P.cellsOf f.type)) = some x → ∃ ds, DrL w F ds ((cs.drop f.offset).take (P.cellsOf f.type)) ∧ Shp P n f.type ds := fun f hf x hx => trod_shp hF fuel n f.type _ x hx (hp2 f hf)
          have gen : ∀ (l : List Field) (off m : Nat) (r : List (DataW H × List MemPlace)), (∀ f ∈ l, f ∈ fs.toList) → tight P off l m = true → l.mapM (fun f => DataW.trod enc P w base spare held fuel f.type ((cs.drop f.offset).take (P.cellsOf f.type))) = some r → cs.length = m → ∃ ds, DrL w F ds (cs.drop off) ∧ ShpF (Shp P n) l ds := by
            intro l
            induction l with
            | nil =>
              intro off m r _ ht hr hm
              simp only [tight, beq_iff_eq] at ht
              refine ⟨[], ?_, by simp [ShpF]⟩
              simp only [DrL]
              exact List.drop_eq_nil_of_le (by omega)
            | cons f l ih =>
              intro off m r hsub ht hr hm
              simp only [tight, Bool.and_eq_true, beq_iff_eq] at ht
              obtain ⟨h0, h2⟩ := ht
              simp only [List.mapM_cons, Option.bind_eq_bind, Option.bind_eq_some_iff, Option.pure_def, Option.some.injEq] at hr
              obtain ⟨y, h3, ys, h4, rfl⟩ := hr
              obtain ⟨ds, q1, q2⟩ := key f (hsub f (by simp)) y h3
              obtain ⟨ds', p1, p2⟩ := ih (off + P.cellsOf f.type) m ys (fun g hg => hsub g (by simp [hg])) h2 h4 hm
              refine ⟨ds ++ ds', ?_, ?_⟩
              · rw [h0] at q1
                have e : cs.drop off = (cs.drop off).take (P.cellsOf f.type) ++ cs.drop (off + P.cellsOf f.type) := by
                  rw [← List.drop_drop, List.take_append_drop]
                rw [e]
                exact DrL.append _ _ _ _ q1 p1
              · simp only [ShpF]
                exact ⟨ds, ds', rfl, q2, p2⟩
          obtain ⟨ds, q1, q2⟩ := gen fs.toList 0 (P.cellsOf t) xs (fun _ h => h) hp1 h1 hl
          exact ⟨ds, by simpa using q1, q2⟩
        · cases h'
      | _ => simp [hu] at hp
/-! Arguments -/
def isStr (P : Program) (t : TypeId) : Bool := match P.underlying t with
  | some (.struct _) => true
  | _ => false
def adOf (P : Program) (t : TypeId) (ds : List D) : AD := if isStr P t then .agg ds else .one (ds.headD .nil)
theorem value_shp {F : Nat → Prop} {ρ : Nat → Option Loc} (hF : ∀ b, b < w.heap.size → F b) {n : Nat} {t : TypeId} {v : Value} {d : DataW H} {ps : List MemPlace} {base' : Nat} (hp : plainT P n t = true) (hok : Value.okWide P w .any base' t v) (h : DataW.Trod enc P w base spare held t v d ps) :
    ∃ ds, Shp P n t ds ∧ ADr w F ρ (adOf P t ds) v := by
  obtain ⟨fuel, h⟩ := h
  obtain ⟨ds, h1, h2⟩ := trod_shp hF fuel n t _ _ h hp
  refine ⟨ds, h2, ?_⟩
  have simple : isStr P t = false → v.cells = #[v] → ADr w F ρ (adOf P t ds) v := by
    intro hs hc
    rw [hc] at h1
    unfold adOf
    rw [hs]
    simp only [Bool.false_eq_true, if_false]
    cases ds with
    | nil => simp [DrL] at h1
    | cons x xs =>
      simp only [DrL] at h1
      obtain ⟨u, tl, e1, e2, _⟩ := h1
      simp at e1
      obtain ⟨rfl, _⟩ := e1
      simpa [ADr] using e2
  cases n with
  | zero => simp [plainT] at hp
  | succ n =>
    simp only [plainT] at hp
    cases hu : P.underlying t with
    | none => simp [hu] at hp
    | some u =>
      cases u with
      | struct fs =>
        simp only [Value.okWide, hu] at hok
        obtain ⟨cs, rfl, _⟩ := hok
        have hs : isStr P t = true := by simp [isStr, hu]
        unfold adOf
        rw [hs]
        simp only [if_true, ADr]
        exact ⟨cs.toList, by simp, h1⟩
      | bool =>
        refine simple (by simp [isStr, hu]) ?_
        simp only [Value.okWide, hu, Cell.okWide, Cell.ok] at hok
        cases v <;> first | rfl | simp at hok
      | int k =>
        refine simple (by simp [isStr, hu]) ?_
        simp only [Value.okWide, hu, Cell.okWide, Cell.ok] at hok
        cases v <;> first | rfl | simp at hok
      | string =>
        refine simple (by simp [isStr, hu]) ?_
        simp only [Value.okWide, hu, Cell.okWide, Cell.ok] at hok
        cases v <;> first | rfl | simp at hok
      | slice e =>
        refine simple (by simp [isStr, hu]) ?_
        simp only [Value.okWide, hu, Cell.okWide, Cell.ok] at hok
        cases v <;> first | rfl | simp at hok
      | _ => simp [hu] at hp
def ShpAll (P : Program) (n : Nat) : List TypeId → List (List D) → Prop
  | [], [] => True
  | t :: ts, x :: xs => Shp P n t x ∧ ShpAll P n ts xs
  | _, _ => False
def adAll (P : Program) : List TypeId → List (List D) → List AD
  | t :: ts, x :: xs => adOf P t x :: adAll P ts xs
  | _, _ => []
theorem values_shp {F : Nat → Prop} {ρ : Nat → Option Loc} (hF : ∀ b, b < w.heap.size → F b) {n : Nat} {base' : Nat} : ∀ (ts : List TypeId) (vs : List Value) (ds : List (DataW H)) (ps : List MemPlace), (ts.all fun t => plainT P n t) = true → (∀ (j : Nat) t v, ts[j]? = some t → vs[j]? = some v → Value.okWide P w .any base' t v) →
    DataW.TrodAll enc P w base spare held ts vs ds ps → ∃ xs, ShpAll P n ts xs ∧ ADrL w F ρ (adAll P ts xs) vs ∧ ds.length = ts.length
  | [], [], [], ps, hp, hok, h => ⟨[], trivial, by simp [adAll, ADrL], rfl⟩
  | [], [], d :: ds, ps, hp, hok, h => by simp [DataW.TrodAll] at h
  | [], v :: vs, ds, ps, hp, hok, h => by simp [DataW.TrodAll] at h
  | t :: ts, [], ds, ps, hp, hok, h => by simp [DataW.TrodAll] at h
  | t :: ts, v :: vs, [], ps, hp, hok, h => by simp [DataW.TrodAll] at h
  | t :: ts, v :: vs, d :: ds, ps, hp, hok, h => by
    simp only [DataW.TrodAll] at h
    obtain ⟨p, q, h1, h2, _⟩ := h
    simp only [List.all_cons, Bool.and_eq_true] at hp
    obtain ⟨x, a1, a2⟩ := value_shp (ρ := ρ) hF hp.1 (hok 0 t v rfl rfl) h1
    obtain ⟨xs, b1, b2, b3⟩ := values_shp (ρ := ρ) hF ts vs ds q hp.2 (fun j t' v' h1 h2 => hok (j + 1) t' v' (by simpa using h1) (by simpa using h2)) h2
    refine ⟨x :: xs, ⟨a1, b1⟩, ?_, by simp [b3]⟩
    simp only [adAll, ADrL]
    exact ⟨v, vs, rfl, a2, b2⟩
/-- Memory that was there stays: arguments read as they did. -/
theorem trodAll_stays (hl : laidOutB P = true) {W W' : World} (hb : Below W.heap.size W W') : ∀ (ts : List TypeId) (vs : List Value) (ds : List (DataW H)) (ps : List MemPlace), (ts.all fun t => P.readableRec t && decide (t < P.types.size)) = true →
    DataW.TrodAll enc P W 0 (fun _ => true) true ts vs ds ps → DataW.TrodAll enc P W' 0 (fun b => decide (b < W.heap.size)) true ts vs ds ps
  | [], [], [], ps, hp, h => h
  | [], [], d :: ds, ps, hp, h => by simp [DataW.TrodAll] at h
  | [], v :: vs, ds, ps, hp, h => by simp [DataW.TrodAll] at h
  | t :: ts, [], ds, ps, hp, h => by simp [DataW.TrodAll] at h
  | t :: ts, v :: vs, [], ps, hp, h => by simp [DataW.TrodAll] at h
  | t :: ts, v :: vs, d :: ds, ps, hp, h => by
    have hlt := h.lt
    simp only [DataW.TrodAll] at h ⊢
    obtain ⟨p, q, h1, h2, rfl⟩ := h
    simp only [List.all_cons, Bool.and_eq_true, decide_eq_true_eq] at hp
    exact ⟨p, q, Below.trod hl hp.1.1 hp.1.2 h1 hb (fun x hx => hlt x (by simp [hx])), trodAll_stays hl hb ts vs ds q hp.2 h2, rfl⟩
/-- A law whose call answers true, whatever data it is handed. -/
theorem law_post {gl : List (Nat × List D)} {f : FuncId} {fn : Func} {s : ChangeSpec} {apart fresh handsOn : Bool} {n : Nat} {tb : TypeId} (hl : laidOutB P = true) (hpl : (fn.params.toList.all fun t => plainT P n t) = true)
    (hrd : (fn.params.toList.all fun t => P.readableRec t && decide (t < P.types.size)) = true) (hres : fn.resultTypes = #[tb]) (hbool : P.underlying tb = some .bool) (hvars : s.vars = [])
    (hspec : ∀ ds : List (DataW H), ds.length = fn.params.toList.length → s.fn H (ds ++ []) = { results := [.lit (.bool true)], args := ds })
    (hac : ∀ xs, ShpAll P n fn.params.toList xs → AC P gl f (adAll P fn.params.toList xs) [] (.d (.v (.bool true))) [])
    {W : World} {base : Nat} {args : Array Value} {ds gs : List (DataW H)} {before : List MemPlace}
    (hgl : ∀ x, x ∈ gl → x.1 < W.heap.size ∧ ∃ vs, DrL W (fun b => b < W.heap.size) x.2 vs ∧ ∀ (j : Nat) (y : Value), vs[j]? = some y → W.cell? ⟨x.1, j, none⟩ = some y)
    (hval : ∀ (j : Nat) t v, fn.params[j]? = some t → args[j]? = some v → Value.okWide P W .any base t v)
    (hW : DataW.Whole enc P fn.params.toList s.vars apart W args.toList ds gs before) :
    Calls P f args W fun e W' => ∃ v, e = .returned v ∧ s.post enc P fn apart fresh handsOn false W args v W' := by
  have hW' := hW
  obtain ⟨p, q, hA, hV, rfl, hfz, hnd⟩ := hW
  rw [hvars] at hV
  have hgs : gs = [] ∧ q = [] := by
    cases gs with
    | nil => exact ⟨rfl, hV⟩
    | cons g r => exact absurd hV (by intro h; cases h)
  obtain ⟨rfl, rfl⟩ := hgs
  obtain ⟨xs, h1, h2, h3⟩ := values_shp (F := fun b => b < W.heap.size) (ρ := fun _ => none) (n := n) (base' := base) (fun b h => h) fn.params.toList args.toList ds p hpl (fun j t v ht hv => hval j t v (by simpa using ht) (by simpa using hv)) hA
  have hinv : Inv gl W (fun _ => False) (fun b => b < W.heap.size) (fun b => b < W.heap.size) (fun _ => none) (memF []) W :=
    ⟨rfl, rfl, rfl, Nat.le_refl _, fun _ _ _ => rfl, fun _ h => h, fun _ h => .inl h, fun _ h => h, fun k => trivial, fun i j g _ h => by simp [memF, real] at h, fun j g h => by simp [memF, real] at h, hgl⟩
  have hc := hac xs h1 W (fun _ => False) (fun b => b < W.heap.size) (fun _ => none) args.toList hinv (fun _ _ => rfl) h2
  rw [Array.toArray_toList] at hc
  refine hc.mono ?_
  rintro e W' ⟨v, F', ρ', rfl, k1, k2, k3, k4⟩
  have hv : v = .bool true := by simpa only [Vr, Dr] using k4.1
  subst hv
  have hb : Below W.heap.size W W' := ⟨k1.os, k1.tape, k1.output, k1.size, fun b hb => k1.keep b hb (fun h => h)⟩
  refine ⟨_, rfl, ds, [], p ++ [], [], p, [], hW', ?_, ?_, ?_, ?_, fun h => by cases h⟩
  · rw [hspec ds h3, hres]
    exact Go.ChangeShapes.trodAll_mk1 (shut_bool hbool true)
  · rw [hspec ds h3]
    exact trodAll_stays hl hb _ _ _ _ hrd hA
  · rw [hspec ds h3, hvars]
    rfl
  · refine ⟨k1.os, k1.output, fun i hi => ?_⟩
    rw [hb.block i hi]
    cases hh : W.heap[i]? with
    | none => rfl
    | some o => cases o <;> simp
end
end Go.Proofs.Ytdffdnbkinpbiaa.Sx
