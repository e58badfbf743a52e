import Derived.Test.YtdffdnbkinpbiaaSxS14p
set_option linter.unusedVariables false
set_option linter.unusedSimpArgs false
namespace Go.Proofs.Ytdffdnbkinpbiaa.Sx
open Go Go.RowKit

/-! ### Regions -/
structure X where
  tm : List SV
  mem : List Blk
  path : List Bool
  orc : List Orc
  obs : List Prop
def dstT (tm : List SV) (d : Option Tmp) (v : SV) : List SV :=
  match d with
  | some d => tm.set d v
  | none => tm
/-- Is an operation wanted: what is known of its guard. -/
def guardx (ops : Array Oper) (o : Oper) (x : X) : Option (Bool × X) :=
  match o.guard with
  | none => some (true, x)
  | some (j, want) => match ops[j]? with
    | some g => match g.dst with
      | some d => match getT x.tm d with
        | .lit b => some (b == want, x)
        | .d (.v (.bool b)) => match x.path with
          | p :: ps => some (p == want, { x with tm := x.tm.set d (.lit p), path := ps, obs := (b = p) :: x.obs })
          | [] => none
        | .tup _ => some (false, x)
        | _ => none
      | none => none
    | none => none
def okUpd (n : Nat) (E : Eff) : Bool :=
  match E.chg with
  | .upd k _ => decide (k < n)
  | _ => true
/-- One operation, calls that are handed pointers not among them. -/
def opStep0 (P : Program) (gl : List (Nat × List D)) (o : Oper) (x : X) : Option X :=
  match opG P gl (getT x.tm) (memF x.mem) x.mem.length x.orc.head? o with
  | some E => if okUpd x.mem.length E then some { tm := dstT x.tm o.dst E.val, mem := applyE x.mem E, path := x.path, orc := if E.used then x.orc.tail else x.orc, obs := E.obs.reverse ++ x.obs } else none
  | none => none
/-- Does an operation ask what it can't know by itself? -/
def asks (P : Program) (tmv : Nat → SV) (o : Oper) : Bool :=
  match o.op with
  | .load _ a => match ofOpd tmv a with
    | .rptr .. => true
    | .eptr .. => true
    | _ => false
  | .store t a _ => match ofOpd tmv a with
    | .eptr .. => true
    | _ => false
  | .call k => match k.callee with
    | .value _ => true
    | _ => false
  | _ => false
/-- Rows of the walk's own told by equal terms. -/
def sayAll : List Orc → List Blk → List Prop → Option (List Orc × List Blk × List Prop)
  | .said k els' :: os, mem, obs => match mem[k]? with
    | some (.row sz e els) => sayAll os (mem.set k (.row sz e els')) ((els = els') :: obs)
    | _ => none
  | os, mem, obs => some (os, mem, obs)
def presay (P : Program) (o : Oper) (x : X) : Option X :=
  if asks P (getT x.tm) o then match sayAll x.orc x.mem x.obs with
    | some (os, mem, obs) => some { x with orc := os, mem := mem, obs := obs }
    | none => none
  else some x
def toADP (M : Nat → Blk) (ids : List Nat) : SV → Option (AD × List Nat)
  | .ptr k 0 => match idxIn k ids 0 with
    | some i => some (.ptr i, [])
    | none => none
  | x => toAD M x
def toADPL (M : Nat → Blk) (ids : List Nat) : List SV → Option (List AD × List Nat)
  | [] => some ([], [])
  | x :: xs => match toADP M ids x, toADPL M ids xs with
    | some (d, k), some (ds, ks) => some (d :: ds, k ++ ks)
    | _, _ => none
def isDead : Blk → Bool
  | .dead => true
  | _ => false
def setL (mem : List Blk) : List Nat → List Blk → List Blk
  | i :: is, b :: bs => setL (mem.set i b) is bs
  | _, _ => mem
/-- A call that is handed pointers: how it is told, if the next word is for one. -/
def callPtr (P : Program) (gl : List (Nat × List D)) (o : Oper) (x : X) : Option (Option X) :=
  match o.op, x.orc with
  | .call k, .call (i :: ids) ms res ms' :: orc => match k.callee with
    | .value fo => some <| match callee? (ofOpd (getT x.tm) fo) with
      | some f => if callable P f && nodup (i :: ids) && (i :: ids).all (fun j => decide (j < x.mem.length)) && decide (ms.length = ids.length + 1) && decide (ms.length ≤ ms'.length) && !ms.any isDead then
          match toADPL (memF x.mem) (i :: ids) (k.args.toList.map (ofOpd (getT x.tm))) with
          | some (args, ks) =>
            let mem := frzL x.mem ks
            let f' := lendF (i :: ids) mem.length
            some { tm := dstT x.tm o.dst (res.ren f'), mem := setL mem (i :: ids) (ms'.map (Blk.ren f')) ++ (ms'.drop (ids.length + 1)).map (Blk.ren f'), path := x.path, orc := orc, obs := AC P gl f args ms res ms' :: ((i :: ids).map (memF mem) = ms.map (Blk.ren f')) :: x.obs }
          | none => none
        else none
      | none => none
    | _ => none
  | _, _ => none
/-- One operation. -/
def opStep (P : Program) (gl : List (Nat × List D)) (o : Oper) (x : X) : Option X :=
  match presay P o x with
  | some x1 => match callPtr P gl o x1 with
    | some r => r
    | none => opStep0 P gl o x1
  | none => none
def opSeq (P : Program) (gl : List (Nat × List D)) (ops : Array Oper) : List Nat → X → Option X
  | [], x => some x
  | i :: is, x => match ops[i]? with
    | some o => match guardx ops o x with
      | some (true, x1) => match opStep P gl o x1 with
        | some x2 => opSeq P gl ops is x2
        | none => none
      | some (false, x1) => opSeq P gl ops is { x1 with tm := dstT x1.tm o.dst (.tup []) }
      | none => none
    | none => none

structure Rel (gl : List (Nat × List D)) (W0 : World) (S0 F0 : Nat → Prop) (An : Nat → Option Loc) (tm : List SV) (mem : List Blk) (a : Act) (W : World) (F : Nat → Prop) (ρ : Nat → Option Loc) : Prop where
  inv : Inv gl W0 S0 F0 F ρ (memF mem) W
  fresh : ∀ k, mem.length ≤ k → ρ k = none
  anch : ∀ k l, An k = some l → ρ k = some l
  tmp : ∀ t, Vr W F ρ (getT tm t) (a.tmps.getD t undef)
  size : a.tmps.size = tm.length
  defers : a.defers = []
section
variable {P : Program} {gl : List (Nat × List D)} {W0 : World} {An : Nat → Option Loc} {S0 F0 F : Nat → Prop} {ρ : Nat → Option Loc} {W : World} {tm : List SV} {mem : List Blk} {a : Act}
theorem getT_set (d : Nat) (v : SV) (t : Nat) : getT (tm.set d v) t = if t = d ∧ d < tm.length then v else getT tm t := by
  unfold getT
  simp only [List.getD_eq_getElem?_getD, List.getElem?_set]
  by_cases h : d = t
  · subst h
    by_cases hl : d < tm.length
    · simp [hl]
    · simp [hl, List.getElem?_eq_none (Nat.le_of_not_lt hl)]
  · simp [h, Ne.symm h]
theorem Rel.put {W' : World} {F' : Nat → Prop} {ρ' : Nat → Option Loc} {mem' : List Blk} (h : Rel gl W0 S0 F0 An tm mem a W F ρ) (hi : Inv gl W0 S0 F0 F' ρ' (memF mem') W') (hf : ∀ k, mem'.length ≤ k → ρ' k = none)
    (hF : ∀ b, F b → F' b) (hW : ∀ b, F b → W'.heap[b]? = W.heap[b]?) (hρ : ∀ k l, ρ k = some l → ρ' k = some l) (d : Option Tmp) (v : SV) (u : Value) (hv : Vr W' F' ρ' v u) :
    Rel gl W0 S0 F0 An (dstT tm d v) mem' (a.put d u) W' F' ρ' := by
  refine ⟨hi, hf, fun k l hk => hρ k l (h.anch k l hk), ?_, ?_, ?_⟩
  · intro t
    have hold := (h.tmp t).mono hF hW hρ
    cases d with
    | none => exact hold
    | some d =>
      simp only [dstT, Act.put]
      rw [getT_set]
      by_cases e : t = d ∧ d < tm.length
      · rw [if_pos e]
        obtain ⟨rfl, hl⟩ := e
        have : t < a.tmps.size := by rw [h.size]; exact hl
        simp [Array.getD_eq_getD_getElem?, this]
        exact hv
      · rw [if_neg e]
        by_cases e2 : d = t
        · subst e2
          have hl : ¬ d < a.tmps.size := by
            rw [h.size]
            intro hl
            exact e ⟨rfl, hl⟩
          have : a.tmps.setIfInBounds d u = a.tmps := by
            apply Array.ext_getElem?
            intro i
            rw [Array.getElem?_setIfInBounds]
            split
            · rename_i e3
              subst e3
              simp [hl]
            · rfl
          rw [this]
          exact hold
        · have : (a.tmps.setIfInBounds d u).getD t undef = a.tmps.getD t undef := by
            simp [Array.getD_eq_getD_getElem?, Array.getElem?_setIfInBounds, e2]
          rw [this]
          exact hold
  · cases d with
    | none => exact h.size
    | some d => simp [dstT, Act.put, h.size]
  · cases d with
    | none => exact h.defers
    | some d => exact h.defers
theorem Rel.lit (h : Rel gl W0 S0 F0 An tm mem a W F ρ) {d : Nat} {b p : Bool} (hd : getT tm d = .d (.v (.bool b))) (hb : b = p) : Rel gl W0 S0 F0 An (tm.set d (.lit p)) mem a W F ρ := by
  refine ⟨h.inv, h.fresh, h.anch, fun t => ?_, by simp [h.size], h.defers⟩
  rw [getT_set]
  split
  · rename_i e
    obtain ⟨rfl, _⟩ := e
    have := h.tmp t
    rw [hd] at this
    simp only [Vr, Dr] at this ⊢
    rw [this.1, hb]
  · exact h.tmp t
theorem yielded_ok (h : Rel gl W0 S0 F0 An tm mem a W F ρ) {ops : Array Oper} {j d : Nat} {g : Oper} (hg : ops[j]? = some g) (hd : g.dst = some d) {b : Bool} (hv : getT tm d = .lit b ∨ getT tm d = .d (.v (.bool b))) :
    yielded ops a.tmps j = some b := by
  have hb : a.tmps.getD d undef = .bool b := by
    have := h.tmp d
    rcases hv with hv | hv
    · rw [hv] at this
      simpa only [Vr] using this
    · rw [hv] at this
      simp only [Vr, Dr] at this
      exact this.1
  have hb' : a.tmps[d]? = some (.bool b) := by
    rw [Array.getD_eq_getD_getElem?] at hb
    cases he : a.tmps[d]? with
    | none => simp [he, undef] at hb
    | some z => simp [he] at hb; rw [hb]
  simp [yielded, hg, hd, hb']
theorem yielded_no (h : Rel gl W0 S0 F0 An tm mem a W F ρ) {ops : Array Oper} {j d : Nat} {g : Oper} (hg : ops[j]? = some g) (hd : g.dst = some d) {l : List SV} (hv : getT tm d = .tup l) :
    yielded ops a.tmps j = none := by
  have hb := h.tmp d
  rw [hv] at hb
  simp only [Vr] at hb
  obtain ⟨vs, hb, _⟩ := hb
  rw [Array.getD_eq_getD_getElem?] at hb
  cases he : a.tmps[d]? with
  | none => simp [yielded, hg, hd, he]
  | some z =>
    simp [he] at hb
    subst hb
    simp [yielded, hg, hd, he]
theorem guard_ok {ops : Array Oper} {o : Oper} {x x1 : X} {w : Bool} (hg : guardx ops o x = some (w, x1)) (ho : ∀ p ∈ x1.obs, p) (h : Rel gl W0 S0 F0 An x.tm x.mem a W F ρ) :
    Region.wanted o (yielded ops a.tmps) = w ∧ Rel gl W0 S0 F0 An x1.tm x1.mem a W F ρ ∧ (∀ p ∈ x.obs, p ∈ x1.obs) := by
  unfold guardx at hg
  cases hgu : o.guard with
  | none =>
    simp [hgu] at hg
    obtain ⟨rfl, rfl⟩ := hg
    exact ⟨by simp [Region.wanted, hgu], h, fun _ h => h⟩
  | some q =>
    obtain ⟨j, want⟩ := q
    simp only [hgu] at hg
    cases hj : ops[j]? with
    | none => simp [hj] at hg
    | some g =>
      cases hd : g.dst with
      | none => simp [hj, hd] at hg
      | some d =>
        simp only [hj, hd] at hg
        split at hg
        · rename_i b hv
          cases hg
          exact ⟨by simp [Region.wanted, hgu, yielded_ok h hj hd (.inl hv)], h, fun _ h => h⟩
        · rename_i b hv
          split at hg
          · rename_i p ps hp
            cases hg
            have hbp : b = p := ho (b = p) (by simp)
            refine ⟨?_, h.lit hv hbp, fun q hq => by simp [hq]⟩
            simp [Region.wanted, hgu, yielded_ok h hj hd (.inr hv), hbp]
          · cases hg
        · rename_i l hv
          cases hg
          exact ⟨by simp [Region.wanted, hgu, yielded_no h hj hd hv], h, fun _ h => h⟩
        · cases hg
/-- What one operation comes to. -/
theorem opStep0_ok {o : Oper} {x x' : X} (he : opStep0 P gl o x = some x') (ho : ∀ p ∈ x'.obs, p) (h : Rel gl W0 S0 F0 An x.tm x.mem a W F ρ) {K : Act → World → Prop} {Q : Exit → Act → World → Prop}
    (hK : ∀ v W' F' ρ', Rel gl W0 S0 F0 An x'.tm x'.mem (a.put o.dst v) W' F' ρ' → K (a.put o.dst v) W') : o.wp P a W K Q := by
  unfold opStep0 at he
  cases hE : opG P gl (getT x.tm) (memF x.mem) x.mem.length x.orc.head? o with
  | none => simp [hE] at he
  | some E =>
    simp only [hE] at he
    split at he
    · rename_i hup
      cases he
      refine opG_ok hE (fun p hp => ho p (by simp [hp])) h.inv (fun k hk _ => h.fresh k hk) h.tmp fun v W' F' ρ' hR => ?_
      refine hK v W' F' ρ' (h.put (hR.inv.congr fun j => memF_applyE (fun k b hc => ?_) j) (fun k hk => ?_) hR.hF hR.hW hR.hρ o.dst E.val v hR.val)
      · rw [okUpd, hc] at hup
        simpa using hup
      · rw [applyE_length] at hk
        rw [hR.old k (by omega)]
        exact h.fresh k (by omega)
    · cases he

theorem opStep0_obs {o : Oper} {x x' : X} (he : opStep0 P gl o x = some x') : ∀ p ∈ x.obs, p ∈ x'.obs := by
  unfold opStep0 at he
  intro p hp
  split at he
  · split at he
    · cases he
      simp [hp]
    · cases he
  · cases he
theorem sayAll_obs : ∀ (os : List Orc) (mem : List Blk) (obs : List Prop) (r : List Orc × List Blk × List Prop), sayAll os mem obs = some r → ∀ p ∈ obs, p ∈ r.2.2
  | [], mem, obs, r, h, p, hp => by
    simp [sayAll] at h
    subst h
    exact hp
  | .said k els' :: os, mem, obs, r, h, p, hp => by
    simp only [sayAll] at h
    split at h
    · exact sayAll_obs os _ _ r h p (by simp [hp])
    · cases h
  | .elem _ :: os, mem, obs, r, h, p, hp => by simp [sayAll] at h; subst h; exact hp
  | .span _ :: os, mem, obs, r, h, p, hp => by simp [sayAll] at h; subst h; exact hp
  | .call .. :: os, mem, obs, r, h, p, hp => by simp [sayAll] at h; subst h; exact hp
  | .loop .. :: os, mem, obs, r, h, p, hp => by simp [sayAll] at h; subst h; exact hp
  | .hint _ :: os, mem, obs, r, h, p, hp => by simp [sayAll] at h; subst h; exact hp
theorem set_self {mem : List Blk} {k : Nat} {b : Blk} (h : mem[k]? = some b) : mem.set k b = mem := by
  apply List.ext_getElem?
  intro i
  rw [List.getElem?_set]
  split
  · rename_i e
    subst e
    split
    · exact h.symm
    · rename_i hl
      rw [List.getElem?_eq_none (Nat.le_of_not_lt hl)] at h
      cases h
  · rfl
theorem sayAll_ok : ∀ (os : List Orc) (mem : List Blk) (obs : List Prop) (r : List Orc × List Blk × List Prop), sayAll os mem obs = some r → (∀ p ∈ r.2.2, p) → r.2.1 = mem
  | [], mem, obs, r, h, ho => by
    simp [sayAll] at h
    subst h
    rfl
  | .said k els' :: os, mem, obs, r, h, ho => by
    simp only [sayAll] at h
    split at h
    · rename_i sz e els hk
      have h1 := sayAll_ok os _ _ r h ho
      have h2 : els = els' := ho _ (sayAll_obs os _ _ r h _ (by simp))
      subst h2
      rw [h1, set_self hk]
    · cases h
  | .elem _ :: os, mem, obs, r, h, ho => by simp [sayAll] at h; subst h; rfl
  | .span _ :: os, mem, obs, r, h, ho => by simp [sayAll] at h; subst h; rfl
  | .call .. :: os, mem, obs, r, h, ho => by simp [sayAll] at h; subst h; rfl
  | .loop .. :: os, mem, obs, r, h, ho => by simp [sayAll] at h; subst h; rfl
  | .hint _ :: os, mem, obs, r, h, ho => by simp [sayAll] at h; subst h; rfl
theorem presay_ok {o : Oper} {x x1 : X} (h : presay P o x = some x1) (ho : ∀ p ∈ x1.obs, p) : x1.tm = x.tm ∧ x1.mem = x.mem ∧ ∀ p ∈ x.obs, p ∈ x1.obs := by
  unfold presay at h
  split at h
  · split at h
    · rename_i os mem obs hs
      cases h
      exact ⟨rfl, sayAll_ok _ _ _ _ hs ho, sayAll_obs _ _ _ _ hs⟩
    · cases h
  · cases h
    exact ⟨rfl, rfl, fun _ h => h⟩
theorem presay_obs {o : Oper} {x x1 : X} (h : presay P o x = some x1) : ∀ p ∈ x.obs, p ∈ x1.obs := by
  unfold presay at h
  split at h
  · split at h
    · rename_i os mem obs hs
      cases h
      exact sayAll_obs _ _ _ _ hs
    · cases h
  · cases h
    exact fun _ h => h
theorem nodup_ok : ∀ (l : List Nat), nodup l = true → l.Nodup
  | [], _ => List.nodup_nil
  | x :: xs, h => by
    simp only [nodup, Bool.and_eq_true, Bool.not_eq_true', List.contains_eq_mem, decide_eq_false_iff_not] at h
    exact List.nodup_cons.2 ⟨h.1, nodup_ok xs h.2⟩
theorem setL_length : ∀ (is : List Nat) (bs mem : List Blk), (setL mem is bs).length = mem.length
  | [], bs, mem => by cases bs <;> rfl
  | i :: is, [], mem => rfl
  | i :: is, b :: bs, mem => by simp only [setL]; rw [setL_length is bs]; simp
theorem setL_other : ∀ (is : List Nat) (bs mem : List Blk) (j : Nat), j ∉ is → memF (setL mem is bs) j = memF mem j
  | [], bs, mem, j, _ => by cases bs <;> rfl
  | i :: is, [], mem, j, _ => rfl
  | i :: is, b :: bs, mem, j, h => by
    simp only [List.mem_cons, not_or] at h
    simp only [setL]
    rw [setL_other is bs _ j h.2]
    unfold memF
    simp only [List.getD_eq_getElem?_getD, List.getElem?_set, Ne.symm h.1, if_false]
theorem setL_at : ∀ (is : List Nat) (bs mem : List Blk) (i j : Nat), is.Nodup → is[i]? = some j → j < mem.length → i < bs.length → memF (setL mem is bs) j = memF bs i
  | [], bs, mem, i, j, _, h, _, _ => by simp at h
  | k :: is, [], mem, i, j, _, _, _, h => by simp at h
  | k :: is, b :: bs, mem, 0, j, nd, h, hj, _ => by
    simp at h
    subst h
    simp only [setL]
    rw [setL_other is bs _ k (List.nodup_cons.1 nd).1]
    simp [memF, hj]
  | k :: is, b :: bs, mem, i + 1, j, nd, h, hj, hi => by
    simp only [setL]
    rw [setL_at is bs _ i j (List.nodup_cons.1 nd).2 (by simpa using h) (by simpa using hj) (by simpa using hi)]
    simp [memF]
theorem toADP_ok {ids ks : List Nat} {M : Nat → Blk} {c : Nat} (h : Inv gl W0 S0 F0 F ρ (frzM M ks) W) (hlt : ∀ k ∈ ids, k < c) (x : SV) (u : Value) (d : AD) (k : List Nat) (he : toADP M ids x = some (d, k)) (hk : ∀ j ∈ k, j ∈ ks) (hv : Vr W F ρ x u) : ADr W F (fun i => ρ (lendF ids c i)) d u := by
  have other : toAD M x = some (d, k) → ADr W F (fun i => ρ (lendF ids c i)) d u := fun he => toAD_ok h x u d k he hk hv
  cases x with
  | ptr j off =>
    cases off with
    | zero =>
      simp only [toADP] at he
      split at he
      · rename_i i hi
        cases he
        obtain ⟨_, h2⟩ := idxIn_some' ids j 0 i hi
        simp only [Nat.sub_zero] at h2
        obtain ⟨h3, h4⟩ := List.getElem?_eq_some_iff.1 h2
        simp only [Vr] at hv
        obtain ⟨l, q1, q2⟩ := hv
        simp only [ADr]
        exact ⟨l, by rw [lendF_lt h3, h4]; exact q1, q2⟩
      · cases he
    | succ n => exact other he
  | _ => exact other he
theorem toADPL_ok {ids ks : List Nat} {M : Nat → Blk} {c : Nat} (h : Inv gl W0 S0 F0 F ρ (frzM M ks) W) (hlt : ∀ k ∈ ids, k < c) : ∀ (xs : List SV) (us : List Value) (ds : List AD) (k : List Nat), toADPL M ids xs = some (ds, k) → (∀ j ∈ k, j ∈ ks) → VrT W F ρ xs us → ADrL W F (fun i => ρ (lendF ids c i)) ds us
  | [], us, ds, k, he, hk, hv => by
    simp [toADPL] at he
    obtain ⟨rfl, rfl⟩ := he
    simpa only [VrT, ADrL] using hv
  | x :: xs, us, ds, k, he, hk, hv => by
    simp only [VrT] at hv
    obtain ⟨a, b, rfl, h2, h3⟩ := hv
    simp only [toADPL] at he
    split at he
    · rename_i d k1 ds2 k2 h5 h6
      cases he
      simp only [ADrL]
      exact ⟨a, b, rfl, toADP_ok h hlt x a d k1 h5 (fun j hj => hk j (List.mem_append_left _ hj)) h2, toADPL_ok h hlt xs b ds2 k2 h6 (fun j hj => hk j (List.mem_append_right _ hj)) h3⟩
    · cases he
theorem callPtr_obs {o : Oper} {x x' : X} (he : callPtr P gl o x = some (some x')) : ∀ p ∈ x.obs, p ∈ x'.obs := by
  unfold callPtr at he
  split at he
  · split at he
    · simp only [Option.some.injEq] at he
      split at he
      · split at he
        · split at he
          · cases he
            intro p hp
            simp [hp]
          · cases he
        · cases he
      · cases he
    · cases he
  · cases he
theorem callPtr_ok {o : Oper} {x x' : X} (he : callPtr P gl o x = some (some x')) (ho : ∀ p ∈ x'.obs, p) (h : Rel gl W0 S0 F0 An x.tm x.mem a W F ρ) {K : Act → World → Prop} {Q : Exit → Act → World → Prop}
    (hK : ∀ v W' F' ρ', Rel gl W0 S0 F0 An x'.tm x'.mem (a.put o.dst v) W' F' ρ' → K (a.put o.dst v) W') : o.wp P a W K Q := by
  unfold callPtr at he
  split at he
  · rename_i k i ids ms res ms' orc hop horc
    split at he
    · rename_i fo hfo
      simp only [Option.some.injEq] at he
      split at he
      · rename_i f hf
        split at he
        · rename_i hc
          simp only [Bool.and_eq_true, List.all_eq_true, decide_eq_true_eq, Bool.not_eq_true'] at hc
          obtain ⟨⟨⟨⟨⟨hcall, hnd⟩, hlt⟩, hlen⟩, hle⟩, hdead⟩ := hc
          split at he
          · rename_i args ks hargs
            cases he
            have nd := nodup_ok _ hnd
            have ev := ofOpd_ok h.tmp
            have hfun := callee_ok hf (ev fo)
            have hac : AC P gl f args ms res ms' := ho _ (by simp)
            have hmem : (i :: ids).map (memF (frzL x.mem ks)) = ms.map (Blk.ren (lendF (i :: ids) (frzL x.mem ks).length)) := ho _ (by simp)
            obtain ⟨F1, f1, f2⟩ := h.inv.frzM ks
            have f3 : Inv gl W0 S0 F0 F1 ρ (memF (frzL x.mem ks)) W := f2.congr fun j => memF_frzL ks x.mem j
            have hcl : (frzL x.mem ks).length = x.mem.length := frzL_length ks x.mem
            have hfresh : ∀ k, (frzL x.mem ks).length ≤ k → ρ k = none := fun k hk => h.fresh k (by omega)
            have hlt' : ∀ k ∈ i :: ids, k < (frzL x.mem ks).length := fun k hk => by rw [hcl]; exact hlt k hk
            have hvals : VrT W F1 ρ (k.args.toList.map (ofOpd (getT x.tm))) (k.args.map a.eval).toList := by
              rw [Array.toList_map]
              generalize k.args.toList = l
              induction l with
              | nil => simp [VrT]
              | cons y l ih =>
                simp only [List.map_cons, VrT]
                exact ⟨_, _, rfl, (ev y).mono f1 (fun _ _ => rfl) (fun _ _ h => h), ih⟩
            have hds := toADPL_ok (c := (frzL x.mem ks).length) f2 hlt' _ _ args ks hargs (fun j hj => hj) hvals
            have hlend := f3.lend (c := (frzL x.mem ks).length) hfresh nd (by simpa using hlen) hmem
            have hcalls := hac W _ F1 _ _ hlend (fun k hk => by
              rw [lendF_ge (by simp only [List.length_cons]; omega)]
              exact hfresh _ (by omega)) hds
            rw [Array.toArray_toList] at hcalls
            have hsome : ∀ k ∈ i :: ids, ∃ l, ρ k = some l := by
              intro k hk
              refine (f3.blk k).some fun hd => ?_
              obtain ⟨n, hn, hnk⟩ := List.getElem_of_mem hk
              have e1 : ((i :: ids).map (memF (frzL x.mem ks)))[n]? = (ms.map (Blk.ren (lendF (i :: ids) (frzL x.mem ks).length)))[n]? := by rw [hmem]
              have hn' : n < ms.length := by rw [hlen]; simpa using hn
              rw [List.getElem?_map, List.getElem?_map, List.getElem?_eq_getElem hn, List.getElem?_eq_getElem hn', hnk] at e1
              simp only [Option.map_some, Option.some.injEq] at e1
              rw [hd] at e1
              have hm : ms.any isDead = true := by
                rw [List.any_eq_true]
                refine ⟨ms[n], List.getElem_mem hn', ?_⟩
                cases hb : ms[n] <;> simp [hb, Blk.ren] at e1 <;> rfl
              rw [hm] at hdead
              cases hdead
            simp only [Oper.wp, run_call hop hfo hfun hcall, Oper.upon]
            refine hcalls.mono ?_
            rintro e W' ⟨v, F', ρ', rfl, q1, q2, q3, q4⟩
            obtain ⟨j1, j2, j3, j4⟩ := f3.back hfresh hlt' nd hsome q1 q2 q3 (by simp only [List.length_cons]; omega)
            refine hK v W' F' _ (h.put ?_ ?_ (fun b hb => q1.Fsub b (f1 b hb)) (fun b hb => j3 b (f1 b hb)) j2 o.dst (res.ren (lendF (i :: ids) (frzL x.mem ks).length)) v ?_)
            · refine j1.congr fun j => ?_
              unfold backM
              cases hj : idxIn j (i :: ids) 0 with
              | some n =>
                obtain ⟨_, h2⟩ := idxIn_some' (i :: ids) j 0 n hj
                simp only [Nat.sub_zero] at h2
                have hjl := hlt' j (List.mem_of_getElem? h2)
                have hn := (List.getElem?_eq_some_iff.1 h2).1
                have e1 : memF (setL (frzL x.mem ks) (i :: ids) (ms'.map (Blk.ren (lendF (i :: ids) (frzL x.mem ks).length))) ++ (ms'.drop (ids.length + 1)).map (Blk.ren (lendF (i :: ids) (frzL x.mem ks).length))) j = memF (setL (frzL x.mem ks) (i :: ids) (ms'.map (Blk.ren (lendF (i :: ids) (frzL x.mem ks).length)))) j := by
                  unfold memF
                  simp only [List.getD_eq_getElem?_getD]
                  rw [List.getElem?_append_left (by rw [setL_length]; exact hjl)]
                rw [e1, setL_at (i :: ids) _ _ n j nd h2 hjl (by simp only [List.length_map, List.length_cons] at hn ⊢; omega)]
                have hn2 : n < ms'.length := by simp only [List.length_cons] at hn; omega
                simp [memF, hn2]
              | none =>
                have hnin := idxIn_none' (i :: ids) j 0 hj
                simp only [List.length_cons]
                rcases Nat.lt_or_ge j (frzL x.mem ks).length with hjl | hjl
                · have e1 : memF (setL (frzL x.mem ks) (i :: ids) (ms'.map (Blk.ren (lendF (i :: ids) (frzL x.mem ks).length))) ++ (ms'.drop (ids.length + 1)).map (Blk.ren (lendF (i :: ids) (frzL x.mem ks).length))) j = memF (setL (frzL x.mem ks) (i :: ids) (ms'.map (Blk.ren (lendF (i :: ids) (frzL x.mem ks).length)))) j := by
                    unfold memF
                    simp only [List.getD_eq_getElem?_getD]
                    rw [List.getElem?_append_left (by rw [setL_length]; exact hjl)]
                  rw [if_neg (by omega), e1, setL_other _ _ _ _ hnin]
                · have e1 : memF (setL (frzL x.mem ks) (i :: ids) (ms'.map (Blk.ren (lendF (i :: ids) (frzL x.mem ks).length))) ++ (ms'.drop (ids.length + 1)).map (Blk.ren (lendF (i :: ids) (frzL x.mem ks).length))) j = memF ((ms'.drop (ids.length + 1)).map (Blk.ren (lendF (i :: ids) (frzL x.mem ks).length))) (j - (frzL x.mem ks).length) := by
                    unfold memF
                    simp only [List.getD_eq_getElem?_getD]
                    rw [List.getElem?_append_right (by rw [setL_length]; exact hjl), setL_length]
                  rw [e1]
                  by_cases hr : j < (frzL x.mem ks).length + (ms'.length - (ids.length + 1))
                  · rw [if_pos ⟨hjl, hr⟩]
                    have hn2 : ids.length + 1 + (j - (frzL x.mem ks).length) < ms'.length := by omega
                    simp [memF, hn2]
                  · rw [if_neg (by omega)]
                    have e2 : memF (frzL x.mem ks) j = .dead := by simp [memF, List.getElem?_eq_none hjl]
                    rw [e2]
                    simp [memF, List.getElem?_eq_none (show ms'.length ≤ ids.length + 1 + (j - (frzL x.mem ks).length) by omega)]
            · intro j hj
              rw [List.length_append, setL_length] at hj
              simp only [List.length_map, List.length_drop] at hj
              unfold backρ
              rw [if_neg (by simp only [List.length_cons]; omega)]
              exact hfresh j (by omega)
            · refine (Vr.ren res v).2 ?_
              rw [funext j4]
              exact q4
          · cases he
        · cases he
      · cases he
    · cases he
  · cases he
theorem opStep_ok {o : Oper} {x x' : X} (he : opStep P gl o x = some x') (ho : ∀ p ∈ x'.obs, p) (h : Rel gl W0 S0 F0 An x.tm x.mem a W F ρ) {K : Act → World → Prop} {Q : Exit → Act → World → Prop}
    (hK : ∀ v W' F' ρ', Rel gl W0 S0 F0 An x'.tm x'.mem (a.put o.dst v) W' F' ρ' → K (a.put o.dst v) W') : o.wp P a W K Q := by
  unfold opStep at he
  split at he
  · rename_i x1 hs
    split at he
    · rename_i r hc
      subst he
      obtain ⟨e1, e2, _⟩ := presay_ok hs (fun p hp => ho p (callPtr_obs hc p hp))
      exact callPtr_ok hc ho (by rw [e1, e2]; exact h) hK
    · obtain ⟨e1, e2, _⟩ := presay_ok hs (fun p hp => ho p (opStep0_obs he p hp))
      exact opStep0_ok he ho (by rw [e1, e2]; exact h) hK
  · cases he
theorem opStep_obs {o : Oper} {x x' : X} (he : opStep P gl o x = some x') : ∀ p ∈ x.obs, p ∈ x'.obs := by
  unfold opStep at he
  split at he
  · rename_i x1 hs
    split at he
    · rename_i r hc
      subst he
      exact fun p hp => callPtr_obs hc p (presay_obs hs p hp)
    · exact fun p hp => opStep0_obs he p (presay_obs hs p hp)
  · cases he
theorem guard_obs {ops : Array Oper} {o : Oper} {x x1 : X} {w : Bool} (hg : guardx ops o x = some (w, x1)) : ∀ p ∈ x.obs, p ∈ x1.obs := by
  intro p hp
  unfold guardx at hg
  split at hg
  · cases hg
    exact hp
  · split at hg
    · split at hg
      · split at hg
        · cases hg
          exact hp
        · split at hg
          · cases hg
            simp [hp]
          · cases hg
        · cases hg
          exact hp
        · cases hg
      · cases hg
    · cases hg
theorem opSeq_obs {ops : Array Oper} : ∀ (l : List Nat) (x x' : X), opSeq P gl ops l x = some x' → ∀ p ∈ x.obs, p ∈ x'.obs
  | [], x, x', h, p, hp => by
    simp [opSeq] at h
    subst h
    exact hp
  | i :: is, x, x', h, p, hp => by
    simp only [opSeq] at h
    split at h
    · split at h
      · rename_i x1 hg
        split at h
        · rename_i x2 hs
          exact opSeq_obs is x2 x' h p (opStep_obs hs p (guard_obs hg p hp))
        · cases h
      · rename_i x1 hg
        exact opSeq_obs is _ x' h p (guard_obs hg p hp)
      · cases h
    · cases h
/-- Operations in their order. -/
theorem opSeq_ok {ops : Array Oper} {Q : Exit → Act → World → Prop} : ∀ (l : List Nat) (x x' : X), opSeq P gl ops l x = some x' → (∀ p ∈ x'.obs, p) → ∀ (a : Act) (W : World) (F : Nat → Prop) (ρ : Nat → Option Loc), Rel gl W0 S0 F0 An x.tm x.mem a W F ρ →
    (∀ a' W' F' ρ', Rel gl W0 S0 F0 An x'.tm x'.mem a' W' F' ρ' → Q .normal a' W') → wpOps P ops Q l a W
  | [], x, x', h, ho, a, W, F, ρ, hr, hQ => by
    simp [opSeq] at h
    subst h
    simp only [wpOps]
    exact hQ a W F ρ hr
  | i :: is, x, x', h, ho, a, W, F, ρ, hr, hQ => by
    simp only [opSeq] at h
    simp only [wpOps]
    split at h
    · rename_i o hi
      simp only [hi]
      split at h
      · rename_i x1 hg
        split at h
        · rename_i x2 hs
          have o2 : ∀ p ∈ x2.obs, p := fun p hp => ho p (opSeq_obs is x2 x' h p hp)
          have o1 : ∀ p ∈ x1.obs, p := fun p hp => o2 p (opStep_obs hs p hp)
          obtain ⟨g1, g2, _⟩ := guard_ok hg o1 hr
          rw [if_pos g1]
          exact .inl (opStep_ok hs o2 g2 fun v W' F' ρ' hrel => opSeq_ok is x2 x' h ho _ W' F' ρ' hrel hQ)
        · cases h
      · rename_i x1 hg
        have o1 : ∀ p ∈ x1.obs, p := fun p hp => ho p (opSeq_obs is _ x' h p hp)
        obtain ⟨g1, g2, _⟩ := guard_ok hg o1 hr
        rw [if_neg (by rw [g1]; simp)]
        exact opSeq_ok is _ x' h ho _ W F ρ (g2.put g2.inv g2.fresh (fun _ h => h) (fun _ _ => rfl) (fun _ _ h => h) o.dst (.tup []) undef (by simp only [Vr, VrT]; exact ⟨[], rfl, rfl⟩)) hQ
      · cases h
    · cases h
end
end Go.Proofs.Ytdffdnbkinpbiaa.Sx
