import Derived.Test.YtdffdnbkinpbiaaSxS15d
import Derived.Orders
set_option linter.unusedVariables false
set_option linter.unusedSimpArgs false
namespace Go.Proofs.Ytdffdnbkinpbiaa.Sx
open Go Go.RowKit

/-! ### A region that draws its order -/
def readsOf (ops : Array Oper) (o : Oper) : List Nat :=
  (o.op.operands.toList.filterMap fun | .tmp t => some t | _ => none) ++ (match o.guard with | some (j, _) => ((ops[j]?).bind (·.dst)).toList | none => [])
/-- What an effect does to blocks that are there. -/
def effTch (E : Eff) : List Nat := E.frz ++ (E.kill ++ (match E.chg with | .upd k _ => [k] | _ => []))
def effHid (c : Nat) (E : Eff) : List Nat := effTch E ++ List.range' c E.cnt
/-- What one operation of the region does. -/
structure RC where
  dst : Option Nat
  val : SV
  c : Nat
  eff : Option Eff
  tch : List Nat
  hid : List Nat
def RC.n (r : RC) : Nat := match r.eff with | some E => max 1 E.cnt | none => 0
def RC.touches (r : RC) (k : Nat) : Bool := r.hid.contains k
/-- Are they those of its effect? -/
structure RC.Fine (r : RC) : Prop where
  tch : r.tch = match r.eff with | some E => effTch E | none => []
  hid : r.hid = match r.eff with | some E => effHid r.c E | none => []
def stT (N t : Nat) (r : RC) (v : SV) : SV := match r.dst with | some d => if t = d ∧ d < N then r.val else v | none => v
def stM (k : Nat) (r : RC) (b : Blk) : Blk := match r.eff with | some E => effM (fun _ => b) r.c E k | none => b
/-- The steps that D holds, in the text's order. -/
def sel {α : Type} (st : RC → α → α) (D : Nat → Bool) : α → List RC → Nat → α
  | v, [], _ => v
  | v, r :: rs, i => sel st D (if D i then st r v else v) rs (i + 1)
theorem sel_agree {α : Type} {st : RC → α → α} {D D' : Nat → Bool} : ∀ (rs : List RC) (i : Nat) (v : α), (∀ j r, rs[j]? = some r → D (i + j) = D' (i + j) ∨ ∀ u, st r u = u) → sel st D v rs i = sel st D' v rs i
  | [], i, v, h => rfl
  | r :: rs, i, v, h => by
    simp only [sel]
    have h0 := h 0 r (by simp)
    have : (if D i then st r v else v) = (if D' i then st r v else v) := by
      rcases h0 with h0 | h0
      · rw [show i + 0 = i from rfl] at h0
        rw [h0]
      · rw [h0]
        simp
    rw [this]
    refine sel_agree rs (i + 1) _ fun j r' hr => ?_
    have := h (j + 1) r' (by simpa using hr)
    rwa [show i + (j + 1) = i + 1 + j by omega] at this
theorem sel_last {α : Type} {st : RC → α → α} {D : Nat → Bool} {r0 : RC} : ∀ (rs : List RC) (i : Nat) (v : α), (∀ j r, rs[j]? = some r → D (i + j) = true → (∀ u, st r u = u) ∨ (∀ u, st r0 u = u)) → sel st D (st r0 v) rs i = st r0 (sel st D v rs i)
  | [], i, v, h => rfl
  | r :: rs, i, v, h => by
    simp only [sel]
    have hrec : ∀ u, sel st D (st r0 u) rs (i + 1) = st r0 (sel st D u rs (i + 1)) := fun u => sel_last rs (i + 1) u fun j r' hr hd => by
      refine h (j + 1) r' (by simpa using hr) ?_
      rwa [show i + (j + 1) = i + 1 + j by omega]
    cases hD : D i with
    | false => simpa using hrec v
    | true =>
      simp only [if_true]
      rcases h 0 r (by simp) hD with h0 | h0
      · rw [h0, h0]
        exact hrec v
      · rw [h0]
        have := hrec (st r v)
        rw [h0] at this
        exact this
theorem sel_insert {α : Type} {st : RC → α → α} {D D' : Nat → Bool} {r0 : RC} {i0 : Nat} (hD : D i0 = false) (hD' : ∀ j, D' j = (decide (j = i0) || D j)) : ∀ (rs : List RC) (i : Nat) (v : α), i ≤ i0 → rs[i0 - i]? = some r0 → (∀ j r, rs[j]? = some r → i0 < i + j → D (i + j) = true → (∀ u, st r u = u) ∨ (∀ u, st r0 u = u)) →
    sel st D' v rs i = st r0 (sel st D v rs i)
  | [], i, v, hi, hr, h => by simp at hr
  | r :: rs, i, v, hi, hr, h => by
    simp only [sel]
    by_cases hii : i = i0
    · subst hii
      simp at hr
      subst hr
      have hd1 : D' i = true := by rw [hD']; simp
      rw [hd1, hD]
      simp only [if_true]
      have : sel st D' (st r v) rs (i + 1) = sel st D (st r v) rs (i + 1) := sel_agree rs (i + 1) _ fun j r' hr => .inl (by rw [hD', decide_eq_false (by omega)]; rfl)
      rw [this]
      refine sel_last rs (i + 1) v fun j r' hr hd => ?_
      refine h (j + 1) r' (by simpa using hr) (by omega) ?_
      rwa [show i + (j + 1) = i + 1 + j by omega]
    · have hd1 : D' i = D i := by rw [hD']; simp [hii]
      rw [hd1]
      refine sel_insert hD hD' rs (i + 1) _ (by omega) ?_ fun j r' hr hj hd => ?_
      · rw [show i0 - i = (i0 - (i + 1)) + 1 by omega] at hr
        simpa using hr
      · refine h (j + 1) r' (by simpa using hr) (by omega) ?_
        rwa [show i + (j + 1) = i + 1 + j by omega]
theorem frzM_pt {M M' : Nat → Blk} {ks : List Nat} {k : Nat} (h : M k = M' k) : frzM M ks k = frzM M' ks k := by simp [frzM, h]
theorem effM_pt {M M' : Nat → Blk} {c : Nat} {E : Eff} {k : Nat} (h : M k = M' k) : effM M c E k = effM M' c E k := by
  unfold effM
  cases E.chg with
  | same => exact frzM_pt h
  | nw b => simp only [put]; rw [frzM_pt h]
  | upd k b => simp only [put]; rw [frzM_pt h]
  | nws bs => simp only []; rw [frzM_pt h]
theorem stM_id {k : Nat} {r : RC} (hr : r.Fine) (h : r.touches k = false) : ∀ b, stM k r b = b := by
  intro b
  unfold stM
  have h0 := hr.hid
  cases he : r.eff with
  | none => rfl
  | some E =>
    rw [he] at h0
    simp only [RC.touches, h0, effHid, effTch, List.contains_eq_mem, decide_eq_false_iff_not, List.mem_append, List.mem_range'_1, not_or] at h
    obtain ⟨⟨h1, h2, h3⟩, h4⟩ := h
    have hf : frzM (fun _ => b) E.frz k = b := by simp [frzM, h1]
    simp only [effM]
    cases hc : E.chg with
    | same => simpa using hf
    | nw b' =>
      simp only [put]
      have : E.cnt = 1 := by simp [Eff.cnt, hc]
      rw [if_neg (by omega), if_neg h2, hf]
    | upd k' b' =>
      simp only [put, hc] at h3 ⊢
      have : k ≠ k' := by simpa using h3
      rw [if_neg this]
      simp [hf]
    | nws bs =>
      simp only
      have : E.cnt = bs.length := by simp [Eff.cnt, hc]
      rw [if_neg (by omega), hf]
theorem stT_id {N t : Nat} {r : RC} (h : r.dst ≠ some t) : ∀ v, stT N t r v = v := by
  intro v
  unfold stT
  cases hd : r.dst with
  | none => rfl
  | some d =>
    have : t ≠ d := fun e => h (by rw [hd, e])
    simp [this]

/-! Values told in full -/
def seqN {β : Type} (n : Nat) (k : Nat → β) : β := match n with | 0 => k 0 | n + 1 => k (n + 1)
theorem seqN_eq {β : Type} (n : Nat) (k : Nat → β) : seqN n k = k n := by cases n <;> rfl
def forceL {β : Type} : List Nat → (List Nat → β) → β
  | [], k => k []
  | x :: xs, k => seqN x fun x => forceL xs fun xs => k (x :: xs)
theorem forceL_eq {β : Type} : ∀ (l : List Nat) (k : List Nat → β), forceL l k = k l
  | [], k => rfl
  | x :: xs, k => by simp only [forceL, seqN_eq, forceL_eq xs]

/-! Which come ahead of which -/
abbrev Anc := List Nat
def ancOf (acc : Anc) : List Edge → Nat → Nat
  | [], m => m
  | e :: es, m => ancOf acc es (if Region.binds .any e then m ||| ((1 <<< e.on) ||| acc.getD e.on 0) else m)
def ancGo : List Oper → Anc → Anc
  | [], acc => acc
  | o :: os, acc => seqN (ancOf acc o.after.toList 0) fun m => ancGo os (acc ++ [m])
def anc (A : Anc) (i j : Nat) : Bool := (A.getD j 0).testBit i
/-- Each one ahead comes by an edge. -/
def ancAll (A : Anc) (es : List Edge) (m : Nat) : Nat → Bool
  | 0 => true
  | k + 1 => (!m.testBit k || es.any fun e => Region.binds .any e && (k == e.on || anc A k e.on)) && ancAll A es m k
def ancOk (A : Anc) : List Oper → Nat → Bool
  | [], _ => true
  | o :: os, i => decide (A.getD i 0 < 2 ^ i) && ancAll A o.after.toList (A.getD i 0) i && o.after.toList.all (fun e => !Region.binds .any e || decide (e.on < i)) && ancOk A os (i + 1)
theorem ancAll_spec {A : Anc} {es : List Edge} {m : Nat} : ∀ n, ancAll A es m n = true → ∀ k, k < n → m.testBit k = true → ∃ e ∈ es, Region.binds .any e = true ∧ (k = e.on ∨ anc A k e.on = true)
  | 0, h, k, hk, _ => by omega
  | n + 1, h, k, hk, hb => by
    simp only [ancAll, Bool.and_eq_true, Bool.or_eq_true, Bool.not_eq_true', List.any_eq_true, beq_iff_eq] at h
    by_cases hkn : k = n
    · subst hkn
      rcases h.1 with h1 | ⟨e, he, h2, h3⟩
      · rw [hb] at h1
        cases h1
      · exact ⟨e, he, h2, h3⟩
    · exact ancAll_spec n h.2 k (by omega) hb
theorem ancOk_spec {A : Anc} : ∀ (os : List Oper) (i : Nat), ancOk A os i = true → ∀ (j : Nat) (o : Oper), os[j]? = some o →
    (∀ k, anc A k (i + j) = true → k < i + j ∧ ∃ e ∈ o.after, Region.binds .any e = true ∧ (k = e.on ∨ anc A k e.on = true)) ∧ ∀ e ∈ o.after, Region.binds .any e = true → e.on < i + j
  | [], i, h, j, o, ho => by simp at ho
  | o' :: os, i, h, j, o, ho => by
    simp only [ancOk, Bool.and_eq_true, decide_eq_true_eq] at h
    obtain ⟨⟨⟨h0, h1⟩, h2⟩, h3⟩ := h
    cases j with
    | zero =>
      simp at ho
      subst ho
      refine ⟨fun k hk => ?_, fun e he hb => ?_⟩
      · have hlt : k < i := by
          rcases Nat.lt_or_ge k i with h | h
          · exact h
          · have := Nat.testBit_lt_two_pow (x := A.getD i 0) (i := k) (Nat.lt_of_lt_of_le h0 (Nat.pow_le_pow_right (by omega) h))
            simp only [anc, Nat.add_zero] at hk
            rw [hk] at this
            cases this
        obtain ⟨e, he, h4, h5⟩ := ancAll_spec i h1 k hlt (by simpa only [anc, Nat.add_zero] using hk)
        exact ⟨hlt, e, by simpa using he, h4, h5⟩
      · have := List.all_eq_true.1 h2 e (by simpa using he)
        simp [hb] at this
        exact this
    | succ j =>
      have := ancOk_spec os (i + 1) h3 j o (by simpa using ho)
      rw [show i + 1 + j = i + (j + 1) by omega] at this
      exact this

/-! The names that unordered ones write and read -/
def namesOf (ops : Array Oper) (o : Oper) : List Nat := o.dst.toList ++ readsOf ops o
def bits : List Nat → Nat
  | [] => 0
  | x :: xs => (1 <<< x) ||| bits xs
def bitD : Option Nat → Nat
  | some d => 1 <<< d
  | none => 0
def pairsOk (A : Anc) (j dj nj : Nat) : List (Nat × Nat) → Nat → Bool
  | [], _ => true
  | (di, ni) :: l, i => (decide (j ≤ i) || anc A i j || ((di &&& nj) == 0 && (dj &&& ni) == 0)) && pairsOk A j dj nj l (i + 1)
def namesL (ops : Array Oper) : List Oper → List (Nat × Nat)
  | [] => []
  | o :: os => (bitD o.dst, bits (namesOf ops o)) :: namesL ops os
def forceP {β : Type} : List (Nat × Nat) → (List (Nat × Nat) → β) → β
  | [], k => k []
  | (a, b) :: xs, k => seqN a fun a => seqN b fun b => forceP xs fun xs => k ((a, b) :: xs)
theorem forceP_eq {β : Type} : ∀ (l : List (Nat × Nat)) (k : List (Nat × Nat) → β), forceP l k = k l
  | [], k => rfl
  | (a, b) :: xs, k => by simp only [forceP, seqN_eq, forceP_eq xs]
def allPairs (A : Anc) (L : List (Nat × Nat)) : List (Nat × Nat) → Nat → Bool
  | [], _ => true
  | (dj, nj) :: l, j => pairsOk A j dj nj L 0 && allPairs A L l (j + 1)
/-- All that can be told of a region from its text alone. -/
def staticOk (ops : Array Oper) : Bool :=
  forceL (ancGo ops.toList []) fun A => ancOk A ops.toList 0 && forceP (namesL ops ops.toList) fun L => allPairs A L L 0

/-! The run in the text's order -/
def hintOf (hs : List (Nat × List Nat)) (i : Nat) : List Nat := (hs.lookup i).getD []
/-- What the i-th may not see. -/
def hidB (A : Anc) (i : Nat) : List (Nat × List Nat) → List Nat
  | [] => []
  | (j, l) :: L => if anc A j i then hidB A i L else l ++ hidB A i L
def hidH (A : Anc) (i : Nat) : List (Nat × List Nat) → List Nat
  | [] => []
  | (j, l) :: hs => if decide (i < j) && !anc A i j then l ++ hidH A i hs else hidH A i hs
def guardNow (ops : Array Oper) (tmv : Nat → SV) (o : Oper) : Option Bool :=
  match o.guard with
  | none => some true
  | some (j, want) => match ops[j]? with
    | some g => match g.dst with
      | some d => match tmv d with
        | .lit b => some (b == want)
        | .tup _ => some false
        | _ => none
      | none => none
    | none => none
def isSrc (ops : Array Oper) (i : Nat) : Bool := ops.any fun o => match o.guard with | some (j, _) => j == i | none => false
def padE (mem : List Blk) (E : Eff) : List Blk := match E.cnt with | 0 => applyE mem E ++ [.dead] | _ => applyE mem E
/-- The value, told further where another operation hangs on it. -/
def sayVal (src : Bool) (v : SV) (path : List Bool) (obs : List Prop) : Option (SV × List Bool × List Prop) :=
  if src then
    match v with
    | .lit p => some (.lit p, path, obs)
    | .d (.v (.bool b)) => match path with
      | p :: path => some (.lit p, path, (b = p) :: obs)
      | [] => none
    | _ => none
  else some (v, path, obs)
def drawStep (P : Program) (gl : List (Nat × List D)) (ops : Array Oper) (A : Anc) (hs : List (Nat × List Nat)) (i : Nat) (o : Oper) (x : X) (L : List (Nat × List Nat)) : Option (X × RC) :=
  let tmv : Nat → SV := fun t => if (readsOf ops o).contains t then getT x.tm t else .any
  match guardNow ops tmv o with
  | some false => some ({ x with tm := dstT x.tm o.dst (.tup []) }, ⟨o.dst, .tup [], x.mem.length, none, [], []⟩)
  | some true => forceL (hidB A i L ++ hidH A i hs) fun H =>
    match opG P gl tmv (fun k => if H.contains k then .dead else memF x.mem k) x.mem.length x.orc.head? o with
    | some E =>
      if okUpd x.mem.length E then
        match sayVal (isSrc ops i) E.val x.path (E.obs.reverse ++ x.obs) with
        | some (v, path, obs) => forceL (effTch E) fun tch => forceL (effHid x.mem.length E) fun hid =>
          some (⟨dstT x.tm o.dst v, padE x.mem E, path, if E.used then x.orc.tail else x.orc, obs⟩, ⟨o.dst, v, x.mem.length, some E, tch, hid⟩)
        | none => none
      else none
    | none => none
  | none => none
def addL (i : Nat) (r : RC) (L : List (Nat × List Nat)) : List (Nat × List Nat) := match r.hid with | [] => L | h :: t => (i, h :: t) :: L
def drawGo (P : Program) (gl : List (Nat × List D)) (ops : Array Oper) (A : Anc) (hs : List (Nat × List Nat)) : List Oper → Nat → X → List (Nat × List Nat) → Option (X × List RC)
  | [], _, x, L => some (x, [])
  | o :: os, i, x, L => match drawStep P gl ops A hs i o x L with
    | some (x', r) => match drawGo P gl ops A hs os (i + 1) x' (addL i r L) with
      | some (x'', rs) => some (x'', r :: rs)
      | none => none
    | none => none
/-- Those that do something to memory. -/
def doers : List RC → Nat → List (Nat × RC)
  | [], _ => []
  | r :: rs, i => match r.hid with | [] => doers rs (i + 1) | _ :: _ => (i, r) :: doers rs (i + 1)
def dynPair (A : Anc) (i j : Nat) (ri rj : RC) : Bool :=
  decide (j ≤ i) || anc A i j || (rj.tch.all (fun k => !(ri.hid.contains k)) && ri.tch.all (fun k => !(rj.hid.contains k)))
def dynOk (A : Anc) (hs : List (Nat × List Nat)) (L : List (Nat × RC)) : Bool :=
  L.all fun (j, rj) => (match rj.tch with | [] => true | _ :: _ => A.getD j 0 == 2 ^ j - 1 || rj.tch.all fun k => (hintOf hs j).contains k) && L.all fun (i, ri) => dynPair A i j ri rj
def drawSeq0 (P : Program) (gl : List (Nat × List D)) (ops : Array Oper) (x : X) : Option X :=
  let (hs, orc) := match x.orc with
    | .hint hs :: orc => (hs, orc)
    | orc => ([], orc)
  forceL (ancGo ops.toList []) fun A =>
  if P.follows .mixedOrders then
    match drawGo P gl ops A hs ops.toList 0 { x with orc := orc, obs := (staticOk ops = true) :: x.obs } [] with
    | some (x', rs) => if dynOk A hs (doers rs 0) then some x' else none
    | none => none
  else none

/-! What the run in the text's order says -/
section
variable {P : Program} {gl : List (Nat × List D)} {ops : Array Oper} {A : Anc} {hs : List (Nat × List Nat)}
theorem drawGo_tr : ∀ (os : List Oper) (i : Nat) (x x' : X) (L : List (Nat × List Nat)) (rl : List RC), drawGo P gl ops A hs os i x L = some (x', rl) →
    ∃ (xs : Nat → X) (Ls : Nat → List (Nat × List Nat)), rl.length = os.length ∧ xs i = x ∧ xs (i + os.length) = x' ∧ Ls i = L ∧
      ∀ (j : Nat) (o : Oper) (r : RC), os[j]? = some o → rl[j]? = some r → drawStep P gl ops A hs (i + j) o (xs (i + j)) (Ls (i + j)) = some (xs (i + j + 1), r) ∧ Ls (i + j + 1) = addL (i + j) r (Ls (i + j))
  | [], i, x, x', L, rl, h => by
    simp [drawGo] at h
    obtain ⟨rfl, rfl⟩ := h
    exact ⟨fun _ => x, fun _ => L, by simp, rfl, rfl, rfl, fun j o r ho => by simp at ho⟩
  | o :: os, i, x, x', L, rl, h => by
    simp only [drawGo] at h
    split at h
    · rename_i x1 r hs1
      split at h
      · rename_i x2 rs hg
        cases h
        obtain ⟨xs, Ls, h2, h3, h4, h6, h5⟩ := drawGo_tr os (i + 1) x1 x' _ rs hg
        refine ⟨fun j => if j = i then x else xs j, fun j => if j = i then L else Ls j, by simp [h2], by simp, ?_, by simp, ?_⟩
        · show (if i + (o :: os).length = i then x else xs (i + (o :: os).length)) = x'
          rw [if_neg (by simp), ← h4]
          congr 1
          simp
          omega
        · intro j o' r' ho hr
          cases j with
          | zero =>
            simp at ho hr
            subst ho
            subst hr
            show drawStep P gl ops A hs (i + 0) o (if i + 0 = i then x else xs (i + 0)) (if i + 0 = i then L else Ls (i + 0)) = some ((if i + 0 + 1 = i then x else xs (i + 0 + 1)), r) ∧ (if i + 0 + 1 = i then L else Ls (i + 0 + 1)) = addL (i + 0) r (if i + 0 = i then L else Ls (i + 0))
            rw [if_pos (Nat.add_zero i), if_pos (Nat.add_zero i), if_neg (by omega), if_neg (by omega), Nat.add_zero, h3, h6]
            exact ⟨hs1, rfl⟩
          | succ j =>
            simp at ho hr
            have := h5 j o' r' ho hr
            show drawStep P gl ops A hs (i + (j + 1)) o' (if i + (j + 1) = i then x else xs (i + (j + 1))) (if i + (j + 1) = i then L else Ls (i + (j + 1))) = some ((if i + (j + 1) + 1 = i then x else xs (i + (j + 1) + 1)), r') ∧ (if i + (j + 1) + 1 = i then L else Ls (i + (j + 1) + 1)) = addL (i + (j + 1)) r' (if i + (j + 1) = i then L else Ls (i + (j + 1)))
            rw [if_neg (by omega), if_neg (by omega), if_neg (by omega), if_neg (by omega), show i + (j + 1) = i + 1 + j by omega]
            exact this
      · cases h
    · cases h
theorem hidB_spec {i k : Nat} : ∀ (L : List (Nat × List Nat)), k ∉ hidB A i L → ∀ j l, (j, l) ∈ L → anc A j i = false → k ∉ l
  | [], h, j, l, hm, _ => by simp at hm
  | (j', l') :: L, h, j, l, hm, ha => by
    simp only [hidB] at h
    rcases List.mem_cons.1 hm with he | hm
    · cases he
      rw [if_neg (by simp [ha])] at h
      exact fun hk => h (List.mem_append_left _ hk)
    · split at h
      · exact hidB_spec L h j l hm ha
      · exact hidB_spec L (fun hk => h (List.mem_append_right _ hk)) j l hm ha
theorem hidH_spec {i k j : Nat} (hij : i < j) (hu : anc A i j = false) : ∀ (l : List (Nat × List Nat)), k ∉ hidH A i l → k ∉ hintOf l j
  | [], h => by simp [hintOf]
  | (j', l') :: l, h => by
    simp only [hidH] at h
    unfold hintOf
    simp only [List.lookup]
    split
    · rename_i he
      have he : j = j' := by simpa using he
      subst he
      rw [if_pos (by simp [hij, hu])] at h
      exact fun hk => h (List.mem_append_left _ (by simpa using hk))
    · split at h
      · exact hidH_spec hij hu l (fun hk => h (List.mem_append_right _ hk))
      · exact hidH_spec hij hu l h
theorem doers_mem : ∀ (rs : List RC) (i0 i : Nat) (r : RC), rs[i]? = some r → r.hid ≠ [] → (i0 + i, r) ∈ doers rs i0
  | [], i0, i, r, h, _ => by simp at h
  | r' :: rs, i0, i, r, h, hn => by
    simp only [doers]
    cases i with
    | zero =>
      simp at h
      subst h
      split
      · rename_i e
        exact absurd e hn
      · simp
    | succ i =>
      have := doers_mem rs (i0 + 1) i r (by simpa using h) hn
      rw [show i0 + 1 + i = i0 + (i + 1) by omega] at this
      split
      · exact this
      · exact List.mem_cons_of_mem _ this
/-! Bits -/
theorem bits_test : ∀ (l : List Nat) (x : Nat), x ∈ l → (bits l).testBit x = true
  | [], x, h => by simp at h
  | y :: l, x, h => by
    simp only [bits, Nat.testBit_or, Bool.or_eq_true]
    rcases List.mem_cons.1 h with rfl | h
    · left
      simp [Nat.testBit_shiftLeft]
    · exact .inr (bits_test l x h)
theorem bits_apart {d : Nat} {l : List Nat} (h : (1 <<< d) &&& bits l = 0) : d ∉ l := by
  intro hm
  have h1 := bits_test l d hm
  have h2 : ((1 <<< d) &&& bits l).testBit d = true := by
    rw [Nat.testBit_and, h1]
    simp [Nat.testBit_shiftLeft]
  rw [h] at h2
  simp at h2
theorem pairsOk_spec {j dj nj : Nat} : ∀ (l : List (Nat × Nat)) (i0 : Nat), pairsOk A j dj nj l i0 = true → ∀ i di ni, l[i]? = some (di, ni) → i0 + i < j → anc A (i0 + i) j = false → di &&& nj = 0 ∧ dj &&& ni = 0
  | [], i0, h, i, di, ni, hl, _, _ => by simp at hl
  | (d', n') :: l, i0, h, i, di, ni, hl, hij, hu => by
    simp only [pairsOk, Bool.and_eq_true, Bool.or_eq_true, decide_eq_true_eq, beq_iff_eq] at h
    cases i with
    | zero =>
      simp at hl
      obtain ⟨rfl, rfl⟩ := hl
      rcases h.1 with (h1 | h1) | h1
      · omega
      · simp only [Nat.add_zero] at hu
        rw [h1] at hu
        cases hu
      · exact h1
    | succ i =>
      have := pairsOk_spec l (i0 + 1) h.2 i di ni (by simpa using hl) (by omega) (by rwa [show i0 + 1 + i = i0 + (i + 1) by omega])
      exact this
theorem allPairs_spec {L : List (Nat × Nat)} : ∀ (l : List (Nat × Nat)) (j0 : Nat), allPairs A L l j0 = true → ∀ j dj nj, l[j]? = some (dj, nj) → pairsOk A (j0 + j) dj nj L 0 = true
  | [], j0, h, j, dj, nj, hl => by simp at hl
  | (d', n') :: l, j0, h, j, dj, nj, hl => by
    simp only [allPairs, Bool.and_eq_true] at h
    cases j with
    | zero =>
      simp at hl
      obtain ⟨rfl, rfl⟩ := hl
      exact h.1
    | succ j =>
      have := allPairs_spec l (j0 + 1) h.2 j dj nj (by simpa using hl)
      rwa [show j0 + 1 + j = j0 + (j + 1) by omega] at this
theorem namesL_get : ∀ (os : List Oper) (j : Nat) (o : Oper), os[j]? = some o → (namesL ops os)[j]? = some (bitD o.dst, bits (namesOf ops o))
  | [], j, o, h => by simp at h
  | o' :: os, j, o, h => by
    cases j with
    | zero =>
      simp at h
      subst h
      simp [namesL]
    | succ j => simpa [namesL] using namesL_get os j o (by simpa using h)
theorem static_names (h : staticOk ops = true) {i j : Nat} {oi oj : Oper} (hij : i < j) (hi : ops[i]? = some oi) (hj : ops[j]? = some oj) (hu : anc (ancGo ops.toList []) i j = false) :
    (∀ d, oi.dst = some d → d ∉ namesOf ops oj) ∧ (∀ d, oj.dst = some d → d ∉ namesOf ops oi) := by
  simp only [staticOk, forceL_eq, forceP_eq, Bool.and_eq_true] at h
  have h1 := allPairs_spec _ 0 h.2 j _ _ (namesL_get ops.toList j oj (by simpa using hj))
  have h2 := pairsOk_spec _ 0 h1 i _ _ (namesL_get ops.toList i oi (by simpa using hi)) (by omega) (by simpa using hu)
  refine ⟨fun d hd => bits_apart ?_, fun d hd => bits_apart ?_⟩
  · have := h2.1
    rw [hd] at this
    exact this
  · have := h2.2
    rw [hd] at this
    exact this
end
end Go.Proofs.Ytdffdnbkinpbiaa.Sx
