import Derived.Test.YtdffdnbkinpbiaaSxS12
import Derived.Laws.BytesArg
import Derived.ChangeKeysEq
import Derived.Laws.CopyRow
import Derived.Laws.IdiomCopy
set_option linter.unusedVariables false
set_option linter.unusedSimpArgs false
namespace Go.Proofs.Ytdffdnbkinpbiaa.Sx
open Go Go.RowKit

/-! Operations more: shifts and divisions by what is not a literal, bytes to a string, a global array cut, arrays compared -/
def numEl : List D → Int
  | [.v (.int _ n)] => n
  | _ => 0
/-- The text of bytes. -/
def strOf (xs : List (List D)) : ByteArray := strOfNums (xs.map numEl)
def isByte (el : List D) : Prop := ∃ n, el = [.v (.int .u8 n)]
def lit? : Operand → Bool
  | .const _ => true
  | _ => false
def eqItemsV (P : Program) (d : Nat) (e : TypeId) (s : Nat) (xs ys : List Value) : List Nat → Option Bool
  | [] => some true
  | i :: is => match partV P e xs (i * s), partV P e ys (i * s) with
    | some a, some b => match eqV P d e a b, eqItemsV P d e s xs ys is with
      | some r, some q => some (r && q)
      | _, _ => none
    | _, _ => none
theorem eqItemsV_ok {P : Program} (W : World) (d : Nat) (e : TypeId) (s : Nat) (xs ys : List Value) : ∀ (is : List Nat) (r : Bool), eqItemsV P d e s xs ys is = some r → (Op.eqItems d e s xs.toArray ys.toArray is).run P W = .ok r W
  | [], r, h => by
    simp [eqItemsV] at h
    subst h
    simp [Op.eqItems]
  | i :: is, r, h => by
    simp only [eqItemsV] at h
    split at h
    · rename_i a b ha hb
      split at h
      · rename_i r1 q hr hq
        cases h
        have ih := eqItemsV_ok W d e s xs ys is q hq
        have e1 := partV_ok (P := P) (t := e) (cs := xs.toArray) (off := i * s) (v := a) (by simpa using ha) W
        have e2 := partV_ok (P := P) (t := e) (cs := ys.toArray) (off := i * s) (v := b) (by simpa using hb) W
        simp only [Op.eqItems, Sem.run_bind, e1, e2, Result.andThen_ok, eqV_ok W _ _ _ _ _ hr]
        cases r1
        · simp
        · simpa using ih
      · cases h
    · cases h
/-- copy of one-celled elements into a row of the walk's own. -/
def copyx (P : Program) (M : Nat → Blk) (t : TypeId) (d s : SV) : Option Eff :=
  match elemT P t, d, readRow M s with
  | some e, .own k, some xs => match M k, szT P e with
    | .row sz e' els, some sz' => if sz = 1 ∧ sz' = 1 then some { val := .d (.v (.int .i64 (Nat.min xs.length els.length))), chg := .upd k (.row sz e' (xs.take (Nat.min xs.length els.length) ++ els.drop (Nat.min xs.length els.length))), obs := [∀ el ∈ xs, el.length = 1] } else none
    | _, _ => none
  | _, _, _ => none
/-- What is known besides 'opx'. -/
def opxX (P : Program) (gl : List (Nat × List D)) (tmv : Nat → SV) (M : Nat → Blk) (o : Oper) : Option Eff :=
  let ev := ofOpd tmv
  match o.op with
  | .binOp op t x y _ =>
    if lit? y then none else
    match op, ev x, ev y with
    | .shl, .d (.v (.int k a)), .d (.v (.int _ b)) => some { val := .d (.v (.int k (k.wrap (a * 2 ^ (min b.toNat k.bits))))), obs := [0 ≤ b] }
    | .shr, .d (.v (.int k a)), .d (.v (.int _ b)) => some { val := .d (.v (.int k (a.fdiv (2 ^ (min b.toNat k.bits))))), obs := [0 ≤ b] }
    | .quo, .d (.v (.int k a)), .d (.v (.int k' b)) => if k = k' then some { val := .d (.v (.int k (k.wrap (a.tdiv b)))), obs := [b ≠ 0] } else none
    | .rem, .d (.v (.int k a)), .d (.v (.int k' b)) => if k = k' then some { val := .d (.v (.int k (a.tmod b))), obs := [b ≠ 0] } else none
    | op, .agg xs, .agg ys => match P.underlying t with
      | some (.array n e) => match scalL xs, scalL ys, szT P e with
        | some a, some b, some s => if P.eqGuardType P.depth t then none else
          match eqItemsV P 9999 e s a b (List.range n), op with
          | some r, .eql => some { val := .d (.v (.bool r)) }
          | some r, .neq => some { val := .d (.v (.bool !r)) }
          | _, _ => none
        | _, _, _ => none
      | _ => none
    | _, _, _ => none
  | .convert s d x => match P.underlying s, P.underlying d with
    | some (.slice e), some .string => match P.underlying e, readRow M (ev x) with
      | some (.int .u8), some xs => some { val := .d (.v (.string (strOf xs))), obs := [∀ el ∈ xs, isByte el] }
      | _, _ => none
    | _, _ => none
  | .slice t x none none none => match P.underlying t, ev x with
    | some (.array n e), .d (.v (.pointer (some ⟨g, 0, none⟩))) => match gl.lookup g, szT P e with
      | some cells, some 1 => if cells.length = n then some { val := .d (.row (cells.map fun c => [c])) } else none
      | _, _ => none
    | _, _ => none
  | .call k => match k.callee, k.args.toList, k.argTypes.toList with
    | .builtin .copy, [d, s], [t, _] => copyx P M t (ev d) (ev s)
    | _, _, _ => none
  | _ => none
section
variable {P : Program} {gl : List (Nat × List D)} {W0 : World} {S0 F0 F : Nat → Prop} {ρ : Nat → Option Loc} {M : Nat → Blk} {W : World}
theorem DrLL.take1 : ∀ (x : List (List D)) (u : List Value) (n : Nat), DrLL W F 1 x u → DrLL W F 1 (x.take n) (u.take n)
  | [], u, n, h => by
    simp only [DrLL] at h
    subst h
    simp [DrLL]
  | x :: xs, u, 0, h => by simp [DrLL]
  | x :: xs, u, n + 1, h => by
    simp only [DrLL] at h
    obtain ⟨a, b, rfl, h1, h2, h3⟩ := h
    have hl := DrL.length _ _ h2
    have ha : a.length = 1 := by omega
    have ih := DrLL.take1 xs b n h3
    simp only [List.take_succ_cons, DrLL]
    refine ⟨a, b.take n, ?_, h1, h2, ih⟩
    rw [List.take_append, ha, List.take_of_length_le (by omega)]
    simp
theorem DrLL.drop1 : ∀ (x : List (List D)) (u : List Value) (n : Nat), DrLL W F 1 x u → DrLL W F 1 (x.drop n) (u.drop n)
  | [], u, n, h => by
    simp only [DrLL] at h
    subst h
    simp [DrLL]
  | x :: xs, u, 0, h => by simpa using h
  | x :: xs, u, n + 1, h => by
    simp only [DrLL] at h
    obtain ⟨a, b, rfl, h1, h2, h3⟩ := h
    have hl := DrL.length _ _ h2
    have ha : a.length = 1 := by omega
    have ih := DrLL.drop1 xs b n h3
    simp only [List.drop_succ_cons]
    have e : (a ++ b).drop (n + 1) = b.drop n := by
      rw [List.drop_append, List.drop_eq_nil_of_le (as := a) (by omega), ha]
      simp
    rw [e]
    exact ih
theorem copy_ok {t t' ty : TypeId} {d s : SV} {u x : Value} {c : Nat} {E : Eff} (he : copyx P M t d s = some E) (ho : ∀ p ∈ E.obs, p) (h : Inv gl W0 S0 F0 F ρ M W) (hu : Vr W F ρ d u) (hx : Vr W F ρ s x) :
    ∃ v W', (Builtin.copy_ #[t, t'] ty #[u, x]).run P W = .ok v W' ∧ Runs gl W0 S0 F0 F ρ M W c E v W' F ρ := by
  unfold copyx at he
  split at he
  · rename_i e k xs hel hr
    have hun := elemT_ok hel
    split at he
    · rename_i sz e' els sz' hM hs
      split at he
      · rename_i h1
        obtain ⟨rfl, rfl⟩ := h1
        cases he
        have o1 := ho (∀ el ∈ xs, el.length = 1) (by simp)
        obtain ⟨A, cap, vs, szs, hxe, q1, q2, q3, q4⟩ := readRow_ok h hr hx
        have q2' := DrLL.resize _ _ q2 o1
        have hvl : vs.length = xs.length := by have := q2'.length; omega
        have hb := h.blk k
        rw [hM] at hb
        obtain ⟨l, ws, b1, b2, b3, b4⟩ := hb
        have hwl : ws.length = els.length := by have := b3.length; omega
        simp only [Vr] at hu
        obtain ⟨l', r1, rfl, _⟩ := hu
        rw [b1] at r1
        cases r1
        obtain ⟨A', cap', c1, c2, c3⟩ := row_cells b2
        have hs1 : (P.info? e).map (·.size) = some 1 := hs
        rcases Nat.eq_zero_or_pos (Nat.min xs.length els.length) with hn | hn
        · refine ⟨goInt 0, W, ?_, ?_⟩
          · rw [c1, hxe]
            exact run_copy_none W t t' ty e A' A _ _ _ _ hun hs1 hn
          · have hsame : Inv gl W0 S0 F0 F ρ (put M [] k (.row 1 e' (xs.take (Nat.min xs.length els.length) ++ els.drop (Nat.min xs.length els.length)))) W := by
              rw [hn]
              refine h.congr fun j => ?_
              unfold put
              by_cases hj : j = k
              · subst hj
                simp [hM]
              · simp [hj]
            refine ⟨hsame.congr fun j => by simp [effM, put, frzM], fun _ h => h, fun _ _ h => h, fun _ _ => rfl, fun _ _ => rfl, ?_, fun _ => rfl, fun bs h => by cases h⟩
            simp only [Vr, Dr, hn]
            exact ⟨rfl, rfl⟩
        · have hep : 0 < els.length := Nat.lt_of_lt_of_le hn (Nat.min_le_right _ _)
          have hxp : 0 < xs.length := Nat.lt_of_lt_of_le hn (Nat.min_le_left _ _)
          obtain ⟨g, d1, d2, d3⟩ := c3 hep
          subst d1
          have hg := b4 g d2
          subst hg
          cases A with
          | none =>
            have := q3 rfl
            subst this
            simp at hxp
          | some ad =>
            have hcl : (vs.take (Nat.min xs.length els.length)).length = Nat.min xs.length els.length := by
              rw [List.length_take, hvl]
              exact Nat.min_eq_left (Nat.min_le_left _ _)
            obtain ⟨cur, r1, r2, r3⟩ := own_set b2 d2 0 (vs.take (Nat.min xs.length els.length)) (by rw [hcl, Nat.zero_add, Nat.mul_one]; exact Nat.min_le_right _ _)
            have hreal : real ρ k (M k) = some l.g := by rw [hM]; simp [real, b1, d2]
            have hsame : ∀ b, F b → (W.setRow l.g (splice cur.toList 0 (vs.take (Nat.min xs.length els.length))).toArray).heap[b]? = W.heap[b]? := fun b hb => setRow_other W l.g b _ (fun e => (h.own k l.g hreal).1 (e ▸ hb))
            have hone : ∀ v ∈ vs.take (Nat.min xs.length els.length), v.oneCell' = true := fun v hv => q2'.one _ _ v (List.mem_of_mem_take hv)
            refine ⟨goInt (vs.take (Nat.min xs.length els.length)).length, W.setRow l.g (splice cur.toList 0 (vs.take (Nat.min xs.length els.length))).toArray, ?_, ?_⟩
            · rw [c1, hxe]
              have := run_copy_row (P := P) W t t' ty e l.g 0 els.length cap' ad xs.length cap cur e' (vs.take (Nat.min xs.length els.length)) hun hs1 r1 hcl
                (fun j v hj => q4 ad rfl j v (by
                  rw [List.getElem?_take] at hj
                  split at hj
                  · exact hj
                  · cases hj)) (by omega) hone
              rw [this]
              simp [splice]
            · have hnext := h.next k (.row 1 e' (xs.take (Nat.min xs.length els.length) ++ els.drop (Nat.min xs.length els.length))) l (some l.g) [] (W.setRow l.g (splice cur.toList 0 (vs.take (Nat.min xs.length els.length))).toArray) (.inr b1) rfl rfl rfl (by simp)
                  (fun c _ hc => setRow_other W l.g c _ (fun e => hc (by rw [e]))) (fun g hg => ⟨k, .inl rfl, by rw [hreal]; simpa using hg⟩)
                  (by
                    rw [ext_self b1]
                    have hlen : (xs.take (Nat.min xs.length els.length) ++ els.drop (Nat.min xs.length els.length)).length = els.length := by
                      have := Nat.min_le_left xs.length els.length
                      have := Nat.min_le_right xs.length els.length
                      simp only [List.length_append, List.length_take, List.length_drop]
                      rw [show min (Nat.min xs.length els.length) xs.length = Nat.min xs.length els.length from Nat.min_eq_left (Nat.min_le_left _ _)]
                      exact Nat.add_sub_of_le (Nat.min_le_right _ _)
                    refine ⟨l, _, b1, by rw [hlen]; exact r3, ?_, b4⟩
                    have hsp : splice ws 0 (vs.take (Nat.min xs.length els.length)) = vs.take (Nat.min xs.length els.length) ++ ws.drop (Nat.min xs.length els.length) := by
                      simp [splice, hcl]
                    rw [hsp]
                    exact (DrLL.append _ _ _ _ (DrLL.take1 _ _ _ q2') (DrLL.drop1 _ _ _ b3)).mono (fun _ h => h) hsame _)
                  (fun g hg => .inl ⟨k, .inl rfl, by rw [ext_self b1] at hg; rw [hM]; simpa [real] using hg⟩)
              rw [ext_self b1] at hnext
              refine ⟨hnext.congr fun j => by simp [effM, put, frzM], fun _ h => h, fun _ _ h => h, fun _ _ => rfl, hsame, ?_, fun _ => rfl, fun bs h => by cases h⟩
              simp only [Vr, Dr, hcl]
              exact ⟨rfl, rfl⟩
      · cases he
    · cases he
  · cases he
theorem bytes_vs : ∀ (xs : List (List D)) (vs : List Value) (sz : Nat), DrLL W F sz xs vs → (∀ el ∈ xs, isByte el) → vs = (xs.map numEl).map (Value.int .u8)
  | [], vs, sz, h, _ => by
    simp only [DrLL] at h
    simpa using h
  | x :: xs, vs, sz, h, hb => by
    simp only [DrLL] at h
    obtain ⟨a, b, rfl, h2, h3, h4⟩ := h
    obtain ⟨n, rfl⟩ := hb x (by simp)
    simp only [DrL, Dr] at h3
    obtain ⟨u, t, rfl, ⟨rfl, _⟩, rfl⟩ := h3
    have ih := bytes_vs xs b sz h4 fun el hel => hb el (by simp [hel])
    simp [numEl, ih]
theorem ones_of {cells : List D} {vs : List Value} (h : DrL W F cells vs) : DrLL W F 1 (cells.map fun c => [c]) vs := by
  induction cells generalizing vs with
  | nil =>
    simp only [DrL] at h
    subst h
    simp [DrLL]
  | cons c cells ih =>
    simp only [DrL] at h
    obtain ⟨u, t, rfl, h2, h3⟩ := h
    simp only [List.map_cons, DrLL]
    exact ⟨[u], t, rfl, rfl, by simp only [DrL]; exact ⟨u, [], rfl, h2, rfl⟩, ih h3⟩
theorem intv {k : IntKind} {n : Int} {u : Value} (h : Vr W F ρ (.d (.v (.int k n))) u) : u = .int k n := by
  simp only [Vr, Dr] at h
  exact h.1
theorem opxX_ok {tmv : Nat → SV} {c : Nat} {o : Oper} {E : Eff} {a : Act} (he : opxX P gl tmv M o = some E) (ho : ∀ p ∈ E.obs, p) (h : Inv gl W0 S0 F0 F ρ M W)
    (ht : ∀ t, Vr W F ρ (tmv t) (a.tmps.getD t undef)) : OpRuns P gl W0 S0 F0 F ρ M W c E ((execOp a.eval o).run P W) := by
  have ev := ofOpd_ok ht
  obtain ⟨dst, op, ty, pos, after, guard⟩ := o
  cases op with
  | binOp op t x y yt =>
    simp only [opxX] at he
    split at he
    · cases he
    have hx := ev x
    have hy := ev y
    split at he
    · rename_i k m k' b e1 e2
      cases he
      have o1 := ho (0 ≤ b) (by simp)
      rw [e1] at hx
      rw [e2] at hy
      refine OpRuns.mk (v := .int k (k.wrap (m * 2 ^ (min b.toNat k.bits)))) (W' := W) ?_ (Runs.pure h rfl rfl (by simp only [Vr, Dr]; exact ⟨trivial, rfl⟩))
      rw [intv hx, intv hy]
      simp only [eqGuard_shl, Sem.run_bind, Sem.run_pure, Result.andThen_ok, binOp, Op.shift, if_neg (Int.not_lt.2 o1)]
    · rename_i k m k' b e1 e2
      cases he
      have o1 := ho (0 ≤ b) (by simp)
      rw [e1] at hx
      rw [e2] at hy
      refine OpRuns.mk (v := .int k (m.fdiv (2 ^ (min b.toNat k.bits)))) (W' := W) ?_ (Runs.pure h rfl rfl (by simp only [Vr, Dr]; exact ⟨trivial, rfl⟩))
      rw [intv hx, intv hy]
      simp only [eqGuard_shr, Sem.run_bind, Sem.run_pure, Result.andThen_ok, binOp, Op.shift, if_neg (Int.not_lt.2 o1)]
    · rename_i k m k' b e1 e2
      split at he
      · rename_i hk
        subst hk
        cases he
        have o1 := ho (b ≠ 0) (by simp)
        rw [e1] at hx
        rw [e2] at hy
        refine OpRuns.mk (v := .int k (k.wrap (m.tdiv b))) (W' := W) ?_ (Runs.pure h rfl rfl (by simp only [Vr, Dr]; exact ⟨trivial, rfl⟩))
        rw [intv hx, intv hy]
        simp [eqGuard_quo, binOp, Op.intDiv, o1]
      · cases he
    · rename_i k m k' b e1 e2
      split at he
      · rename_i hk
        subst hk
        cases he
        have o1 := ho (b ≠ 0) (by simp)
        rw [e1] at hx
        rw [e2] at hy
        refine OpRuns.mk (v := .int k (m.tmod b)) (W' := W) ?_ (Runs.pure h rfl rfl (by simp only [Vr, Dr]; exact ⟨trivial, rfl⟩))
        rw [intv hx, intv hy]
        simp [eqGuard_rem, binOp, Op.intDiv, o1]
      · cases he
    · rename_i _ op _ _ _ xs ys e1 e2
      split at he
      · rename_i n e hun
        split at he
        · rename_i av bv s h1 h2 hs
          split at he
          · cases he
          · rename_i hg
            rw [e1] at hx
            rw [e2] at hy
            simp only [Vr] at hx hy
            obtain ⟨us, hu, hus⟩ := hx
            obtain ⟨ws, hw, hws⟩ := hy
            have q1 := scalL_ok h1 hus
            have q2 := scalL_ok h2 hws
            subst q1
            subst q2
            have hgd := run_eqGuard_agg (P := P) W op t x y us.toArray ws.toArray (by simpa using hg)
            obtain ⟨i, hi, hsz⟩ : ∃ i, P.info? e = some i ∧ i.size = s := by
              unfold szT at hs
              cases hq : P.info? e with
              | none => simp [hq] at hs
              | some i => exact ⟨i, rfl, by simpa [hq] using hs⟩
            have hc : P.cellsOf e = s := by simp [Program.cellsOf, hi, hsz]
            have hrun : ∀ r, eqItemsV P 9999 e s us ws (List.range n) = some r → (Op.equalIn 10000 t (.agg us.toArray) (.agg ws.toArray)).run P W = .ok r W := fun r hr => by
              rw [run_equalIn_array W 9999 us.toArray ws.toArray hun hi, hc]
              exact eqItemsV_ok W 9999 e s us ws _ r hr
            cases hq : eqItemsV P 9999 e s us ws (List.range n) with
            | none => simp [hq] at he
            | some r =>
              have hr := hrun r hq
              cases op with
              | eql =>
                simp only [hq, Option.some.injEq] at he
                subst he
                refine OpRuns.mk (v := .bool r) (W' := W) ?_ (Runs.pure h rfl rfl (by simp only [Vr, Dr]; exact ⟨trivial, rfl⟩))
                rw [hu, hw]
                simp only [Sem.run_bind, hgd, Result.andThen_ok, run_eql_struct, hr]
              | neq =>
                simp only [hq, Option.some.injEq] at he
                subst he
                refine OpRuns.mk (v := .bool !r) (W' := W) ?_ (Runs.pure h rfl rfl (by simp only [Vr, Dr]; exact ⟨trivial, rfl⟩))
                rw [hu, hw]
                simp only [Sem.run_bind, hgd, Result.andThen_ok, run_neq_struct, hr]
              | _ => simp [hq] at he
        · cases he
      · cases he
    · cases he
  | convert s d x =>
    simp only [opxX] at he
    split at he
    · rename_i e hs hd
      split at he
      · rename_i xs hel hr
        cases he
        have o1 := ho (∀ el ∈ xs, isByte el) (by simp)
        obtain ⟨A, cap, vs, sz, hu, q1, q2, q3, q4⟩ := readRow_ok h hr (ev x)
        have hvs := bytes_vs xs vs sz q2 o1
        refine OpRuns.mk (v := .string (strOf xs)) (W' := W) ?_ (Runs.pure h rfl rfl (by simp only [Vr, Dr]; exact ⟨trivial, rfl⟩))
        rw [hu, run_convert_bytes_string W s d e A xs.length cap hs hel hd]
        cases A with
        | none =>
          have := q3 rfl
          subst this
          simp [Conv.bytesToString, strOf, strOfNums]
          rfl
        | some ad =>
          have hl := run_loadCells_list (P := P) W ad vs (fun j v hj => q4 ad rfl j v hj)
          have hlen : vs.length = xs.length := by rw [hvs]; simp
          rw [hlen, hvs] at hl
          rw [run_bytesToString W ad _ cap _ hl, foldl_push_bytes]
          simp [strOf, strOfNums, ByteArray.empty, ByteArray.emptyWithCapacity]
          rfl
      · cases he
    · cases he
  | slice t x lo hi mx =>
    simp only [opxX] at he
    split at he
    · rename_i hop
      cases hop
    · rename_i hop
      cases hop
    · rename_i t' x' hop
      cases hop
      split at he
      · rename_i n e g hun hx
        split at he
        · rename_i cells hlk hs
          split at he
          · rename_i hlen
            cases he
            have hu := ev x
            rw [hx] at hu
            simp only [Vr, Dr] at hu
            obtain ⟨hF, vs, hvs, hcell⟩ := h.gl _ (lookup_mem hlk)
            refine OpRuns.mk (v := .slice (some ⟨g, 0, none⟩) n n) (W' := W) ?_ (Runs.pure h rfl rfl ?_)
            · rw [hu.1]
              have hsz := run_sizeOf (P := P) (W := W) hs
              simp only [Instr.sliceAt, Sem.run_bind, run_underlying hun, Result.andThen_ok, Instr.sureAddr, Sem.run_pure, Instr.sliceBounds, hsz, Option.map_none, Nat.sub_zero, Nat.zero_mul, add_zero, ite_self]
            · simp only [Vr, Dr]
              refine ⟨some ⟨g, 0, none⟩, n, vs, 1, by simp [hlen], by simp [hlen], ones_of hvs, fun _ => ⟨_, rfl, hF, fun j y hy => ?_⟩⟩
              rw [add_new]
              exact hcell j y hy
          · cases he
        · cases he
      · cases he
    · rename_i hop
      cases hop
    · cases he
  | call k =>
    obtain ⟨callee, args, argTypes⟩ := k
    simp only [opxX] at he
    split at he
    · rename_i d s t t' h1 h2
      have e1 : args = #[d, s] := by
        have : args.toList.toArray = [d, s].toArray := by rw [h1]
        simpa using this
      have e2 : argTypes = #[t, t'] := by
        have : argTypes.toList.toArray = [t, t'].toArray := by rw [h2]
        simpa using this
      subst e1
      subst e2
      obtain ⟨v, W', q1, q2⟩ := copy_ok (c := c) (ty := ty) (t' := t') he ho h (ev d) (ev s)
      refine ⟨v, W', F, ρ, .inl ?_, q2⟩
      simp [execOp, resolve, invoke, builtin, q1]
    · cases he
  | _ => simp [opxX] at he
/-- All operations. -/
def opy (P : Program) (gl : List (Nat × List D)) (tmv : Nat → SV) (M : Nat → Blk) (c : Nat) (orc : Option Orc) (o : Oper) : Option Eff :=
  match opxX P gl tmv M o with
  | some E => some E
  | none => opx P gl tmv M c orc o
theorem opy_ok {tmv : Nat → SV} {c : Nat} {orc : Option Orc} {o : Oper} {E : Eff} {a : Act} (he : opy P gl tmv M c orc o = some E) (ho : ∀ p ∈ E.obs, p) (h : Inv gl W0 S0 F0 F ρ M W) (hc : ρ c = none)
    (ht : ∀ t, Vr W F ρ (tmv t) (a.tmps.getD t undef)) : OpRuns P gl W0 S0 F0 F ρ M W c E ((execOp a.eval o).run P W) := by
  unfold opy at he
  split at he
  · rename_i E' hE
    cases he
    exact opxX_ok hE ho h ht
  · exact opx_ok he ho h hc ht
end
end Go.Proofs.Ytdffdnbkinpbiaa.Sx
