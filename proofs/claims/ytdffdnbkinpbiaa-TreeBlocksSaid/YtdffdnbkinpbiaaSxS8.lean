import Derived.Test.YtdffdnbkinpbiaaSxS7
set_option linter.unusedVariables false
set_option linter.unusedSimpArgs false
namespace Go.Proofs.Ytdffdnbkinpbiaa.Sx
open Go Go.RowKit

/-! '==' -/
def partV (P : Program) (t : TypeId) (cs : List Value) (off : Nat) : Option Value :=
  match aggT P t, szT P t with
  | some true, some s => some (.agg ((cs.drop off).take s).toArray)
  | some false, _ => cs[off]?
  | _, _ => none
def eqV (P : Program) : Nat → TypeId → Value → Value → Option Bool
  | 0, _, _, _ => none
  | d + 1, t, x, y =>
    match P.underlying t, x, y with
    | some .bool, .bool a, .bool b => some (a == b)
    | some (.int _), .int k a, .int k' b => if k = k' then some (a == b) else none
    | some .string, .string a, .string b => some (a == b)
    | some (.struct fs), .agg xs, .agg ys =>
      if P.stoodInHeld t then none
      else fs.toList.foldr (fun f acc => if f.name = "_" then acc else
        match partV P f.type xs.toList f.offset, partV P f.type ys.toList f.offset with
        | some a, some b => match eqV P d f.type a b, acc with
          | some r, some s => some (r && s)
          | _, _ => none
        | _, _ => none) (some true)
    | _, _, _ => none
theorem partV_ok {P : Program} {t : TypeId} {cs : Array Value} {off : Nat} {v : Value} (h : partV P t cs.toList off = some v) (W : World) : (part t cs off).run P W = .ok v W := by
  unfold partV at h
  cases ha : aggT P t with
  | none => simp [ha] at h
  | some ag =>
    cases ag with
    | true =>
      cases hs : szT P t with
      | none => simp [ha, hs] at h
      | some s =>
        simp [ha, hs] at h
        subst h
        simp only [part, Sem.run_bind, run_isAgg ha, Result.andThen_ok, if_true, run_sizeOf hs, Sem.run_pure]
        congr 2
        apply Array.toList_inj.1
        simp [List.take_drop]
    | false =>
      simp only [ha] at h
      have h' : cs[off]? = some v := by rw [← h]; simp
      simp only [part, Sem.run_bind, run_isAgg ha, Result.andThen_ok, Bool.false_eq_true, if_false, h', Sem.run_pure]
theorem eqV_ok {P : Program} (W : World) : ∀ (d : Nat) (t : TypeId) (x y : Value) (r : Bool), eqV P d t x y = some r → (Op.equalIn d t x y).run P W = .ok r W := by
  intro d
  induction d with
  | zero => intro t x y r h; simp [eqV] at h
  | succ d ih =>
    intro t x y r h
    unfold eqV at h
    split at h
    · rename_i hu
      cases h
      simp [Op.equalIn, run_underlying hu]
    · rename_i hu
      split at h
      · rename_i e
        subst e
        cases h
        simp [Op.equalIn, run_underlying hu]
      · cases h
    · rename_i hu
      cases h
      simp [Op.equalIn, run_underlying hu]
    · rename_i fs xs ys hu
      split at h
      · cases h
      · rename_i hst
        have hfo : P.fieldsOf t = fs := by simp [Program.fieldsOf, hu]
        rw [run_equalIn_struct (P := P) W d t xs ys (by rw [hfo]; exact hu) (by simpa using hst), hfo]
        generalize fs.toList = l at h
        induction l generalizing r with
        | nil =>
          simp at h
          subst h
          simp [Op.eqFields]
        | cons f l ihl =>
          simp only [List.foldr_cons] at h
          split at h
          · rename_i hn
            simp only [Op.eqFields, hn, ne_eq, not_true_eq_false, if_false]
            exact ihl r h
          · rename_i hn
            cases ha : partV P f.type xs.toList f.offset with
            | none => simp [ha] at h
            | some a =>
              cases hb : partV P f.type ys.toList f.offset with
              | none => simp [ha, hb] at h
              | some b =>
                simp only [ha, hb] at h
                split at h
                · rename_i r1 s1 h1 h2
                  cases h
                  simp only [Op.eqFields, ne_eq, hn, not_false_eq_true, if_true, Sem.run_bind, partV_ok ha W, partV_ok hb W, Result.andThen_ok, ih _ _ _ _ h1]
                  cases r1
                  · simp
                  · simpa using ihl s1 h2
                · cases h
    · cases h

def frzOf : SV → List Nat
  | .own k => [k]
  | _ => []
def sliceB (o : Option SV) (dflt : Int) : Option Int :=
  match o with
  | none => some dflt
  | some s => numOf s
def scx (P : Program) (s : Sem Value) : Option Eff := match pureRun P s with
  | some v => if one' v then some { val := .d (.v v) } else none
  | none => none
def bltx (P : Program) (M : Nat → Blk) (c : Nat) (ev : Operand → SV) (ty : TypeId) : Builtin → List Operand → List TypeId → Option Eff
  | .len, [x], [t] => match P.underlying t with
    | some (.slice _) => match readRow M (ev x) with
      | some xs => some { val := .d (.v (.int .i64 xs.length)) }
      | none => none
    | some .string => match scal (ev x) with
      | some (.string s) => some { val := .d (.v (.int .i64 s.size)) }
      | _ => none
    | _ => none
  | .append, [s, x], [t, t'] => if t = t' then appendx P M c t (ev s) (ev x) else none
  | .min, [x, y], ts => match scal (ev x), scal (ev y) with
    | some a, some b => scx P (Builtin.min_ ts.toArray ty #[a, b])
    | _, _ => none
  | .max, [x, y], ts => match scal (ev x), scal (ev y) with
    | some a, some b => scx P (Builtin.max_ ts.toArray ty #[a, b])
    | _, _ => none
  | _, _, _ => none
def opx (P : Program) (gl : List (Nat × List D)) (tmv : Nat → SV) (M : Nat → Blk) (c : Nat) (orc : Option Orc) (o : Oper) : Option Eff :=
  let ev := ofOpd tmv
  let sc (s : Sem Value) : Option Eff := match pureRun P s with
    | some v => if one' v then some { val := .d (.v v) } else none
    | none => none
  match o.op with
  | .move x => some { val := ev x }
  | .assign x => some { val := ev x }
  | .pick a x y => match ev a with
    | .lit true => some { val := ev x }
    | .lit false => some { val := ev y }
    | _ => none
  | .alloc t => match zeroCells P t with
    | some cells => some { val := .ptr c 0, chg := .nw (.box cells) }
    | none => none
  | .box _ x => match cellsOf (ev x) with
    | some cells => some { val := .ptr c 0, chg := .nw (.box cells) }
    | none => none
  | .build t parts => match P.underlying t, zeroCells P t with
    | some (.struct fs), some zc => match bfill (fun i => match fs[i]? with | some f => (szT P f.type).map (fun s => (f.offset, s)) | none => none) zc (parts.toList.map fun p => (p.1, ev p.2)) with
      | some cells => if fs.toList.all (fun f => (szT P f.type).isSome) then some { val := .agg cells } else none
      | none => none
    | some (.array _ e), some zc => match szT P e with
      | some s => match bfill (fun i => some (i * s, s)) zc (parts.toList.map fun p => (p.1, ev p.2)) with
        | some cells => some { val := .agg cells }
        | none => none
      | none => none
    | _, _ => none
  | .buildSlice t len parts => match elemT P t with
    | some e => match szT P e, zeroT P e with
      | some s, some z =>
        if len * s ≤ 2 ^ 24 ∧ z.cells.size = s ∧ z.cells.toList.all one' ∧ len ≤ 16777216 then
          match bfill (fun i => some (i * s, s)) ((List.replicate len (z.cells.toList.map ofCell)).flatten) (parts.toList.map fun p => (p.1, ev p.2)) with
          | some cells => match toDL M cells with
            | some (ds, ks) => if ds.length = len * s then some { val := .own c, frz := ks, chg := .nw (.row s e (chunk s len ds)) } else none
            | none => none
          | none => none
        else none
      | _, _ => none
    | none => none
  | .load t a => loadx P gl M orc t (ev a)
  | .store t a v => storex P M orc t (ev a) (ev v)
  | .binOp op t x y _ => match ev x, ev y with
    | .agg xs, .agg ys => match scalL xs, scalL ys with
      | some a, some b => if P.eqGuardType P.depth t then none else
        match eqV P 10000 t (.agg a.toArray) (.agg b.toArray), op with
        | some r, .eql => some { val := .d (.v (.bool r)) }
        | some r, .neq => some { val := .d (.v (.bool !r)) }
        | _, _ => none
      | _, _ => none
    | sx, sy => match scal sx, scal sy with
      | some a, some b => sc (do eqGuard op t x y a b; binOp op t a b)
      | _, _ => none
  | .unOp op _ x => match op, ev x with
    | .not, .lit b => some { val := .lit !b }
    | _, s => match scal s with
      | some v => sc (Op.unary op v)
      | none => none
  | .convert s d x => match scal (ev x) with
    | some v => sc (convert s d v)
    | none => none
  | .slice t x lo hi none => match elemT P t with
    | some e => match szT P e, readRow M (ev x), sliceB (lo.map ev) 0 with
      | some s, some xs, some l => match sliceB (hi.map ev) xs.length with
        | some h => some { val := .d (.row ((xs.take h.toNat).drop l.toNat)), frz := frzOf (ev x), obs := [0 ≤ l, l ≤ h, h ≤ (xs.length : Int), ∀ el ∈ xs, el.length = s] }
        | none => none
      | _, _, _ => none
    | none => none
  | .sliceToArrayPointer arr x => match P.underlying arr, readRow M (ev x) with
    | some (.array n e), some xs => match szT P e with
      | some s => some { val := .rptr s xs 0 0, frz := frzOf (ev x), obs := [n ≤ xs.length, xs ≠ []] }
      | none => none
    | _, _ => none
  | .makeSlice t l k => match elemT P t, ev l, ev k with
    | some e, .d (.v (.int kl n)), .d (.v (.int kc n')) => match szT P e, bytesT P e, zeroT P e with
      | some s, some by_, some z =>
        if z.cells.toList.all one' ∧ z.cells.size = s then
          match toDL M (z.cells.toList.map ofCell) with
          | some (ds, []) => some { val := .own c, chg := .nw (.row s e (List.replicate n.toNat ds)), obs := [n = n', 0 ≤ n, by_ * n.toNat ≤ 281474976710656, n ≤ 9223372036854775807] }
          | _ => none
        else none
      | _, _, _ => none
    | _, _, _ => none
  | .fieldAddr t x f => match fieldT P t f with
    | some fl => match szT P fl.type with
      | some s => if 0 < s then match ev x with
          | .ptr k off => some { val := .ptr k (off + fl.offset) }
          | .eptr k sz n off => some { val := .eptr k sz n (off + fl.offset) }
          | .rptr sz xs n off => some { val := .rptr sz xs n (off + fl.offset) }
          | _ => none
        else none
      | none => none
    | none => none
  | .field t x f => match fieldT P t f with
    | some fl => match aggT P fl.type, szT P fl.type, ev x with
      | some true, some s, .agg l => some { val := .agg ((l.drop fl.offset).take s) }
      | some false, some _, .agg l => match l[fl.offset]? with
        | some y => some { val := y }
        | none => none
      | _, _, _ => none
    | none => none
  | .indexAddr t x i => match P.underlying t, numOf (ev i) with
    | some (.slice e), some n => match szT P e, ev x with
      | some s, .own k => match M k with
        | .row sz _ els => if s = sz then some { val := .eptr k sz n.toNat 0, obs := [0 ≤ n, n < (els.length : Int)] } else none
        | .frz els => some { val := .rptr s els n.toNat 0, obs := [0 ≤ n, n < (els.length : Int)] }
        | _ => none
      | some s, .d (.row xs) => some { val := .rptr s xs n.toNat 0, obs := [0 ≤ n, n < (xs.length : Int)] }
      | _, _ => none
    | some (.array len e), some n => match szT P e, ev x with
      | some s, .ptr k off => some { val := .ptr k (off + n.toNat * s), obs := [0 ≤ n, n < (len : Int)] }
      | _, _ => none
    | _, _ => none
  | .index t x i => match P.underlying t, numOf (ev i), ev x with
    | some (.array len e), some n, .agg l => match aggT P e, szT P e with
      | some true, some s => some { val := .agg ((l.drop (n.toNat * s)).take s), obs := [0 ≤ n, n < (len : Int)] }
      | some false, some s => match l[n.toNat * s]? with
        | some y => some { val := y, obs := [0 ≤ n, n < (len : Int)] }
        | none => none
      | _, _ => none
    | _, _, _ => none
  | .extract x i => match ev x with
    | .tup l => match l[i]? with
      | some y => some { val := y }
      | none => none
    | _ => none
  | .nilCheck x => match ev x with
    | .ptr k off => some { val := .ptr k off }
    | .eptr k sz n off => some { val := .eptr k sz n off }
    | .rptr sz xs n off => some { val := .rptr sz xs n off }
    | .d (.v (.func (.func f) fs cs)) => some { val := .d (.v (.func (.func f) fs cs)) }
    | _ => none
  | .call k => match k.callee with
    | .builtin b => bltx P M c ev o.type b k.args.toList k.argTypes.toList
    | _ => none
  | _ => none

section
variable {P : Program} {gl : List (Nat × List D)} {W0 : World} {S0 F0 F : Nat → Prop} {ρ : Nat → Option Loc} {M : Nat → Blk} {W : World}
theorem ofOpd_ok {tmv : Nat → SV} {a : Act} (ht : ∀ t, Vr W F ρ (tmv t) (a.tmps.getD t undef)) (x : Operand) : Vr W F ρ (ofOpd tmv x) (a.eval x) := by
  cases x with
  | tmp t => exact ht t
  | const v => exact ofVal_ok v
  | global g =>
    simp only [ofOpd, Act.eval, Vr, Dr]
    exact ⟨trivial, rfl⟩
  | func f =>
    simp only [ofOpd, Act.eval, Vr, Dr]
    exact ⟨trivial, rfl⟩
theorem scal_ok {x : SV} {v u : Value} (he : scal x = some v) (hu : Vr W F ρ x u) : u = v := by
  cases x with
  | d y =>
    cases y with
    | v z =>
      simp [scal] at he
      subst he
      simp only [Vr, Dr] at hu
      exact hu.1
    | _ => simp [scal] at he
  | lit b =>
    simp [scal] at he
    subst he
    simpa only [Vr] using hu
  | _ => simp [scal] at he
theorem scalL_ok : ∀ {xs : List SV} {vs us : List Value}, scalL xs = some vs → VrL W F ρ xs us → us = vs
  | [], vs, us, he, hu => by
    simp [scalL] at he
    subst he
    simpa only [VrL] using hu
  | x :: xs, vs, us, he, hu => by
    simp only [VrL] at hu
    obtain ⟨a, b, rfl, h2, h3, h4⟩ := hu
    simp only [scalL] at he
    split at he
    · rename_i v ws h5 h6
      cases he
      rw [scal_ok h5 h2, scalL_ok h6 h4]
    · cases he
theorem numOf_ok {x : SV} {n : Int} {u : Value} (he : numOf x = some n) (hu : Vr W F ρ x u) : ∃ k, u = .int k n := by
  cases x with
  | d y =>
    cases y with
    | v z =>
      simp only [Vr, Dr] at hu
      obtain ⟨rfl, _⟩ := hu
      cases u <;> simp [numOf] at he
      subst he
      exact ⟨_, rfl⟩
    | _ => simp [numOf] at he
  | _ => simp [numOf] at he
end
end Go.Proofs.Ytdffdnbkinpbiaa.Sx
