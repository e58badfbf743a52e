import Derived.Test.YtdffdnbkinpbiaaSxS15f
set_option linter.unusedVariables false
set_option linter.unusedSimpArgs false
namespace Go.Proofs.Ytdffdnbkinpbiaa.Sx
open Go Go.RowKit

theorem put_getD (a : Act) (d : Option Tmp) (u : Value) (t : Nat) : (a.put d u).tmps.getD t undef = if d = some t ∧ t < a.tmps.size then u else a.tmps.getD t undef := by
  cases d with
  | none => simp [Act.put]
  | some d =>
    simp only [Act.put, Array.getD_eq_getD_getElem?, Array.getElem?_setIfInBounds]
    by_cases h : d = t
    · subst h
      by_cases hl : d < a.tmps.size <;> simp [hl]
    · simp [h]
theorem stT_eq (N t : Nat) (r : RC) (v : SV) : stT N t r v = if r.dst = some t ∧ t < N then r.val else v := by
  unfold stT
  cases hd : r.dst with
  | none => simp
  | some d =>
    simp only [Option.some.injEq]
    by_cases hc : t = d ∧ d < N
    · rw [if_pos hc, if_pos ⟨hc.1.symm, by rw [hc.1]; exact hc.2⟩]
    · rw [if_neg hc, if_neg (fun hh => hc ⟨hh.1.symm, by rw [hh.1]; exact hh.2⟩)]
theorem put_size (a : Act) (d : Option Tmp) (u : Value) : (a.put d u).tmps.size = a.tmps.size := by cases d <;> simp [Act.put]
theorem put_defers (a : Act) (d : Option Tmp) (u : Value) : (a.put d u).defers = a.defers := by cases d <;> simp [Act.put]
section
variable {P : Program} {gl : List (Nat × List D)} {ops : Array Oper} {A : Anc} {hs : List (Nat × List Nat)} {W0 : World} {An : Nat → Option Loc} {S0 F0 F : Nat → Prop} {ρ : Nat → Option Loc} {W : World} {a : Act}
theorem Inv.draw {M : Nat → Blk} (h : Inv gl W0 S0 F0 F ρ M W) (n : Nat) : Inv gl W0 S0 F0 F ρ M { W with drawn := n } := by
  refine ⟨h.os, h.tape, h.output, h.size, h.keep, h.Fsub, h.Fnew, h.Flt, fun k => BlkOk.mono (W := W) (W' := { W with drawn := n }) (fun _ h => h) (fun _ _ => rfl) (fun _ _ h => h) (h.blk k) fun _ _ => rfl, h.apart, h.own, fun x hx => ?_⟩
  obtain ⟨h1, vs, h2, h3⟩ := h.gl x hx
  exact ⟨h1, vs, DrL.mono (W := W) (W' := { W with drawn := n }) (fun _ h => h) (fun _ _ => rfl) _ _ h2, h3⟩
theorem guardNow_ok {tmv : Nat → SV} {o : Oper} {w : Bool} (hg : guardNow ops tmv o = some w) (ht : ∀ t, Vr W F ρ (tmv t) (a.tmps.getD t undef)) : Region.wanted o (yielded ops a.tmps) = w := by
  unfold guardNow at hg
  cases hgu : o.guard with
  | none =>
    simp [hgu] at hg
    subst hg
    simp [Region.wanted, hgu]
  | some q =>
    obtain ⟨j, want⟩ := q
    simp only [hgu] at hg
    cases hj : ops[j]? with
    | none => simp [hj] at hg
    | some g =>
      cases hd : g.dst with
      | none => simp [hj, hd] at hg
      | some d =>
        simp only [hj, hd] at hg
        split at hg
        · rename_i b hv
          cases hg
          have hb : a.tmps.getD d undef = .bool b := by
            have := ht d
            rw [hv] at this
            simpa only [Vr] using this
          have hb' : a.tmps[d]? = some (.bool b) := by
            rw [Array.getD_eq_getD_getElem?] at hb
            cases he : a.tmps[d]? with
            | none => simp [he, undef] at hb
            | some z => simp [he] at hb; rw [hb]
          simp [Region.wanted, hgu, yielded, hj, hd, hb']
        · rename_i l hv
          cases hg
          have hb := ht d
          rw [hv] at hb
          simp only [Vr] at hb
          obtain ⟨vs, hb, _⟩ := hb
          rw [Array.getD_eq_getD_getElem?] at hb
          cases he : a.tmps[d]? with
          | none => simp [Region.wanted, hgu, yielded, hj, hd, he]
          | some z =>
            simp [he] at hb
            subst hb
            simp [Region.wanted, hgu, yielded, hj, hd, he]
        · cases hg
structure RelD (gl : List (Nat × List D)) (W0 : World) (S0 F0 : Nat → Prop) (An : Nat → Option Loc) (x0 : X) (rs : List RC) (Dn : Nat → Bool) (a : Act) (W : World) (F : Nat → Prop) (ρ : Nat → Option Loc) : Prop where
  inv : Inv gl W0 S0 F0 F ρ (fun k => sel (stM k) Dn (memF x0.mem k) rs 0) W
  fresh : ∀ k, x0.mem.length ≤ k → (∀ (j : Nat) (r : RC), rs[j]? = some r → Dn j = true → ¬ (r.c ≤ k ∧ k < r.c + r.n)) → ρ k = none
  anch : ∀ k l, An k = some l → ρ k = some l
  tmp : ∀ t, Vr W F ρ (sel (stT x0.tm.length t) Dn (getT x0.tm t) rs 0) (a.tmps.getD t undef)
  size : a.tmps.size = x0.tm.length
  defers : a.defers = []
variable {xs : Nat → X} {Ls : Nat → List (Nat × List Nat)} {rs : List RC}
/-- One operation that is ready. -/
theorem ready_ok (R : Run P gl ops A hs xs Ls rs) (hobs : ∀ p ∈ (xs ops.size).obs, p) {Dn Dn' : Nat → Bool} {i : Nat} {o : Oper} (hi : ops[i]? = some o) (hDi : Dn i = false) (hcl : ∀ j, Dn j = true → ∀ k, anc A k j = true → Dn k = true)
    (hrdy : ∀ k, anc A k i = true → Dn k = true) (hD' : ∀ j, Dn' j = (decide (j = i) || Dn j)) (h : RelD gl W0 S0 F0 An (xs 0) rs Dn a W F ρ) {K : Act → World → Prop} {Q : Exit → Act → World → Prop}
    (hK : ∀ v W' F' ρ', RelD gl W0 S0 F0 An (xs 0) rs Dn' (a.put o.dst v) W' F' ρ' → K (a.put o.dst v) W') : wpOp P ops Q i K a W := by
  have hin : i < ops.size := (Array.getElem?_eq_some_iff.1 hi).1
  obtain ⟨o', r, ho', hr, S⟩ := R.at_ hin
  have : o' = o := by rw [hi] at ho'; exact (Option.some.inj ho').symm
  subst this
  have hop : ∀ j (rj : RC), rs[j]? = some rj → ∃ oj, ops[j]? = some oj ∧ j < ops.size := fun j rj hj => by
    have : j < rs.length := (List.getElem?_eq_some_iff.1 hj).1
    rw [R.len] at this
    exact ⟨ops[j], by simp [this], this⟩
  have hup : ∀ j, i < j → Dn j = true → anc A i j = false := fun j _ hj => by
    cases hu : anc A i j with
    | false => rfl
    | true => rw [hcl j hj i hu] at hDi; cases hDi
  have hdn : ∀ j, j < i → Dn j = false → anc A j i = false := fun j _ hj => by
    cases hu : anc A j i with
    | false => rfl
    | true => rw [hrdy j hu] at hj; cases hj
  have htm : ∀ t ∈ readsOf ops o', getT (xs i).tm t = sel (stT (xs 0).tm.length t) Dn (getT (xs 0).tm t) rs 0 := by
    intro t ht
    rw [R.tmCut (by omega)]
    refine sel_agree rs 0 _ fun j rj hj => ?_
    rw [Nat.zero_add]
    obtain ⟨oj, hoj, hjn⟩ := hop j rj hj
    have hd := (R.step j oj rj hoj hj).dst
    rcases Nat.lt_trichotomy j i with hji | hji | hji
    · cases hDj : Dn j with
      | true => exact .inl (by simp [hji])
      | false =>
        right
        refine stT_id fun he => ?_
        exact (R.apart hji hoj hi hj hr (hdn j hji hDj)).1 t (by rw [← hd, he]) (List.mem_append_right _ ht)
    · subst hji
      exact .inl (by simp [hDi])
    · cases hDj : Dn j with
      | false => exact .inl (by simp; omega)
      | true =>
        right
        refine stT_id fun he => ?_
        exact (R.apart hji hi hoj hr hj (hup j hji hDj)).2.1 t (by rw [← hd, he]) (List.mem_append_right _ ht)
  have hmem : ∀ k, memR A hs i (Ls i) (memF (xs i).mem) k = .dead ∨ memR A hs i (Ls i) (memF (xs i).mem) k = sel (stM k) Dn (memF (xs 0).mem k) rs 0 := by
    intro k
    unfold memR
    split
    · exact .inl rfl
    · rename_i hm
      simp only [List.contains_eq_mem, decide_eq_true_eq, List.mem_append, not_or] at hm
      obtain ⟨m1, m2⟩ := hm
      by_cases hk : k < (xs i).mem.length
      · right
        rw [R.memCut (by omega)]
        refine sel_agree rs 0 _ fun j rj hj => ?_
        rw [Nat.zero_add]
        obtain ⟨oj, hoj, hjn⟩ := hop j rj hj
        have hc := (R.step j oj rj hoj hj).c
        have hfine := (R.step j oj rj hoj hj).fine
        rcases Nat.lt_trichotomy j i with hji | hji | hji
        · cases hDj : Dn j with
          | true => exact .inl (by simp [hji])
          | false =>
            right
            refine stM_id hfine ?_
            cases hrt : rj.touches k with
            | false => rfl
            | true =>
              simp only [RC.touches, List.contains_eq_mem, decide_eq_true_eq] at hrt
              have hne : rj.hid ≠ [] := fun e => by rw [e] at hrt; simp at hrt
              exact absurd hrt (hidB_spec _ m1 j rj.hid (R.hid j i rj hj hne hji (by omega)) (hdn j hji hDj))
        · subst hji
          exact .inl (by simp [hDi])
        · cases hDj : Dn j with
          | false => exact .inl (by simp; omega)
          | true =>
            right
            refine stM_id hfine ?_
            have hu := hup j hji hDj
            have h1 := hidH_spec hji hu hs m2
            have h2 := (R.apart hji hi hoj hr hj hu).2.2.1 k
            have h3 : (xs i).mem.length ≤ rj.c := by rw [hc]; exact R.memLe j i (by omega) (by omega)
            have f1 := hfine.tch
            have f2 := hfine.hid
            simp only [RC.touches, List.contains_eq_mem, decide_eq_false_iff_not]
            intro hk
            cases he : rj.eff with
            | none => rw [he] at f2; rw [f2] at hk; simp at hk
            | some E =>
              rw [he] at f1 f2
              rw [f2] at hk
              simp only [effHid, List.mem_append, List.mem_range'_1] at hk
              rcases hk with hk | hk
              · exact h1 (h2 (by rw [f1]; exact hk))
              · omega
      · left
        simp [memF, List.getElem?_eq_none (Nat.le_of_not_lt hk)]
  have htv : ∀ t, Vr W F ρ (tmR ops o' (getT (xs i).tm) t) (a.tmps.getD t undef) := by
    intro t
    unfold tmR
    split
    · rename_i hc
      rw [htm t (by simpa using hc)]
      exact h.tmp t
    · simp only [Vr]
  have hri : rs[i - 0]? = some r := hr
  have hselM : ∀ k, sel (stM k) Dn' (memF (xs 0).mem k) rs 0 = stM k r (sel (stM k) Dn (memF (xs 0).mem k) rs 0) := fun k => by
    refine sel_insert hDi hD' rs 0 _ (by omega) hri fun j rj hj hji hDj => ?_
    rw [Nat.zero_add] at hji hDj
    obtain ⟨oj, hoj, hjn⟩ := hop j rj hj
    have h1 := (R.apart hji hi hoj hr hj (hup j hji hDj)).2.2.2 k
    cases h2 : rj.touches k with
    | false => exact .inl (stM_id (R.step j oj rj hoj hj).fine h2)
    | true =>
      right
      refine stM_id S.fine ?_
      cases h3 : r.touches k with
      | false => rfl
      | true => exact (h1 h3 h2).elim
  have hselT : ∀ t, sel (stT (xs 0).tm.length t) Dn' (getT (xs 0).tm t) rs 0 = stT (xs 0).tm.length t r (sel (stT (xs 0).tm.length t) Dn (getT (xs 0).tm t) rs 0) := fun t => by
    refine sel_insert hDi hD' rs 0 _ (by omega) hri fun j rj hj hji hDj => ?_
    rw [Nat.zero_add] at hji hDj
    obtain ⟨oj, hoj, hjn⟩ := hop j rj hj
    have h1 := (R.apart hji hi hoj hr hj (hup j hji hDj)).1
    have hd := (R.step j oj rj hoj hj).dst
    by_cases h2 : rj.dst = some t
    · right
      refine stT_id fun h3 => ?_
      rw [S.dst] at h3
      exact h1 t h3 (List.mem_append_left _ (by rw [← hd, h2]; simp))
    · exact .inl (stT_id h2)
  have hDiT : Dn' i = true := by rw [hD']; simp
  have hsub : ∀ j, Dn j = true → Dn' j = true := fun j hj => by rw [hD', hj]; simp
  have hobs' : ∀ p ∈ (xs (i + 1)).obs, p := fun p hp => hobs p (R.obsAll _ _ (by omega) (Nat.le_refl _) p hp)
  unfold wpOp
  simp only [hi]
  rcases S.run with ⟨he, hv, hg⟩ | ⟨E, orc, he, hg, hE, ho, hv⟩
  · rw [if_neg (by rw [guardNow_ok hg htv]; simp)]
    refine hK undef W F ρ ⟨h.inv.congr fun k => ?_, fun k hk hn => ?_, h.anch, fun t => ?_, ?_, ?_⟩
    · rw [hselM, stM]
      rw [he]
    · exact h.fresh k hk fun j rj hj hd => hn j rj hj (hsub j hd)
    · rw [hselT, put_getD, h.size, stT_eq, S.dst]
      by_cases hc : o'.dst = some t ∧ t < (xs 0).tm.length
      · rw [if_pos hc, if_pos hc, hv]
        simp only [Vr, VrT]
        exact ⟨[], rfl, rfl⟩
      · rw [if_neg hc, if_neg hc]
        exact h.tmp t
    · rw [put_size]; exact h.size
    · rw [put_defers]; exact h.defers
  · rw [if_pos (guardNow_ok hg htv)]
    left
    have hE' := opG_mono (M' := fun k => sel (stM k) Dn (memF (xs 0).mem k) rs 0) hmem hE
    have hn : r.n = max 1 E.cnt := by simp only [RC.n, he]
    refine opG_ok hE' (fun p hp => hobs' p (ho p hp)) h.inv (fun k hk hk2 => ?_) htv fun v W' F' ρ' hR => hK v W' F' ρ' ⟨hR.inv.congr fun k => ?_, fun k hk hnr => ?_, fun k l hk => hR.hρ k l (h.anch k l hk), fun t => ?_, ?_, ?_⟩
    · refine h.fresh k (Nat.le_trans (R.memLe i 0 (by omega) (by omega)) hk) fun j rj hj hDj hc => ?_
      obtain ⟨oj, hoj, hjn⟩ := hop j rj hj
      have Sj := R.step j oj rj hoj hj
      rcases Nat.lt_trichotomy j i with hji | hji | hji
      · have := R.memLe i (j + 1) (by omega) (by omega)
        rw [Sj.len, ← Sj.c] at this
        omega
      · subst hji
        rw [hDi] at hDj
        cases hDj
      · have := R.memLe j (i + 1) (by omega) (by omega)
        rw [S.len, hn, ← Sj.c] at this
        omega
    · rw [hselM]
      simp only [stM, he]
      rw [S.c]
      exact effM_pt rfl
    · have hnk := hnr i r hr hDiT
      rw [hR.old k (by rw [S.c, hn] at hnk; omega)]
      exact h.fresh k hk fun j rj hj hd => hnr j rj hj (hsub j hd)
    · rw [hselT, put_getD, h.size, stT_eq, S.dst]
      have hold := (h.tmp t).mono hR.hF hR.hW hR.hρ
      by_cases hc : o'.dst = some t ∧ t < (xs 0).tm.length
      · rw [if_pos hc, if_pos hc]
        rcases hv with hv | ⟨b, p, h1, h2, h3⟩
        · rw [hv]
          exact hR.val
        · have hval := hR.val
          rw [h1] at hval
          rw [h2]
          simp only [Vr, Dr] at hval ⊢
          rw [hval.1, hobs' _ h3]
      · rw [if_neg hc, if_neg hc]
        exact hold
    · rw [put_size]; exact h.size
    · rw [put_defers]; exact h.defers
theorem done_ok (R : Run P gl ops A hs xs Ls rs) {Dn : Nat → Bool} (hall : ∀ j, j < ops.size → Dn j = true) (h : RelD gl W0 S0 F0 An (xs 0) rs Dn a W F ρ) : Rel gl W0 S0 F0 An (xs ops.size).tm (xs ops.size).mem a W F ρ := by
  have hag : ∀ {α : Type} (st : RC → α → α) (v : α), sel st Dn v rs 0 = sel st (fun j => decide (j < ops.size)) v rs 0 := fun st v => by
    refine sel_agree rs 0 v fun j r hj => .inl ?_
    have : j < rs.length := (List.getElem?_eq_some_iff.1 hj).1
    rw [R.len] at this
    rw [Nat.zero_add, hall j this]
    simp [this]
  refine ⟨h.inv.congr fun k => ?_, fun k hk => ?_, h.anch, fun t => ?_, ?_, h.defers⟩
  · rw [R.memCut (Nat.le_refl _), hag]
  · refine h.fresh k (Nat.le_trans (R.memLe _ 0 (by omega) (Nat.le_refl _)) hk) fun j r hj _ hc => ?_
    have hjn : j < rs.length := (List.getElem?_eq_some_iff.1 hj).1
    rw [R.len] at hjn
    have S := R.step j ops[j] r (by simp [hjn]) hj
    have := R.memLe ops.size (j + 1) (by omega) (Nat.le_refl _)
    rw [S.len, ← S.c] at this
    omega
  · have := h.tmp t
    rwa [hag, ← R.tmCut (Nat.le_refl _)] at this
  · rw [h.size, R.tmLen _ (Nat.le_refl _)]
theorem any_ok (R : Run P gl ops A hs xs Ls rs) (hobs : ∀ p ∈ (xs ops.size).obs, p) {Q : Exit → Act → World → Prop} (hQ : ∀ a' W' F' ρ', Rel gl W0 S0 F0 An (xs ops.size).tm (xs ops.size).mem a' W' F' ρ' → Q .normal a' W') :
    ∀ (fuel : Nat) (listed : Array Bool) (a : Act) (W : World) (F : Nat → Prop) (ρ : Nat → Option Loc), listed.size = ops.size → listed.toList.count false ≤ fuel → (∀ j, listed.getD j false = true → ∀ k, anc A k j = true → listed.getD k false = true) →
      RelD gl W0 S0 F0 An (xs 0) rs (fun j => listed.getD j false) a W F ρ → wpAny P .any ops Q fuel listed a W := by
  have hfin : ∀ (listed : Array Bool), listed.size = ops.size → Region.ready .any ops listed = [] → ∀ j, j < ops.size → listed.getD j false = true := by
    intro listed hsz hr j
    induction j using Nat.strongRecOn with
    | _ j ih =>
      intro hj
      cases hl : listed.getD j false with
      | true => rfl
      | false =>
        have : j ∈ Region.ready .any ops listed := by
          rw [mem_ready]
          refine ⟨?_, ops[j], by simp [hj], fun e he hb => ?_⟩
          · have : j < listed.size := by omega
            simp [this] at hl ⊢
            exact hl
          · have := (R.ancs j ops[j] (by simp [hj])).2 e he hb
            exact ih e.on this (by omega)
        rw [hr] at this
        cases this
  intro fuel
  induction fuel with
  | zero =>
    intro listed a W F ρ hsz hc hcl h
    have hall : ∀ j, j < ops.size → listed.getD j false = true := by
      intro j hj
      have : j < listed.size := by omega
      have h0 : false ∉ listed.toList := List.count_eq_zero.1 (Nat.le_zero.1 hc)
      cases hl : listed[j] with
      | true => simp [this, hl]
      | false => exact (h0 (by rw [← hl]; simp)).elim
    refine ⟨?_, hQ _ _ _ _ (done_ok R hall h)⟩
    cases hr : Region.ready .any ops listed with
    | nil => rfl
    | cons i l =>
      have : i ∈ Region.ready .any ops listed := by rw [hr]; simp
      obtain ⟨h1, o, ho, _⟩ := mem_ready.1 this
      have hi : i < ops.size := (Array.getElem?_eq_some_iff.1 ho).1
      have h2 := hall i hi
      have : i < listed.size := by omega
      simp [this] at h1 h2
      rw [h1] at h2
      cases h2
  | succ fuel ih =>
    intro listed a W F ρ hsz hc hcl h
    refine ⟨fun hr => hQ _ _ _ _ (done_ok R (hfin listed hsz hr) h), fun i hi => ?_⟩
    obtain ⟨h1, o, ho, hedge⟩ := mem_ready.1 hi
    have hin : i < ops.size := (Array.getElem?_eq_some_iff.1 ho).1
    have hil : i < listed.size := by omega
    have hDi : listed.getD i false = false := by
      simp [hil] at h1 ⊢
      exact h1
    have hrdy : ∀ k, anc A k i = true → listed.getD k false = true := fun k hk => by
      obtain ⟨_, e, he, hb, h2⟩ := (R.ancs i o ho).1 k hk
      have h3 := hedge e he hb
      rcases h2 with h2 | h2
      · rw [h2]; exact h3
      · exact hcl _ h3 k h2
    have hset : ∀ j, (listed.setIfInBounds i true).getD j false = (decide (j = i) || listed.getD j false) := fun j => by
      by_cases hj : j = i
      · subst hj
        simp [hil]
      · rw [getD_set_ne false (Ne.symm hj)]
        simp [hj]
    refine ready_ok R hobs ho hDi hcl hrdy hset h fun v W' F' ρ' hR => ih _ _ _ _ _ (by simp [hsz]) ?_ ?_ hR
    · have hll : i < listed.toList.length := by simpa using hil
      have hl : listed.toList[i] = false := by
        simp [hil] at hDi
        simpa using hDi
      have hpos : 0 < listed.toList.count false := List.count_pos_iff.2 (by rw [← hl]; exact List.getElem_mem hll)
      rw [Array.toList_setIfInBounds, List.count_set hll, hl]
      simp
      simp at hc hpos
      omega
    · intro j hj k hk
      rw [hset] at hj ⊢
      simp only [Bool.or_eq_true, decide_eq_true_eq] at hj ⊢
      rcases hj with rfl | hj
      · exact .inr (hrdy k hk)
      · exact .inr (hcl j hj k hk)
/-- The region that draws its order. -/
theorem drawSeq0_ok {id : Nat} {x x' : X} (he : drawSeq0 P gl ops x = some x') (ho : ∀ p ∈ x'.obs, p) (h : Rel gl W0 S0 F0 An x.tm x.mem a W F ρ) {Q : Exit → Act → World → Prop}
    (hQ : ∀ a' W' F' ρ', Rel gl W0 S0 F0 An x'.tm x'.mem a' W' F' ρ' → Q .normal a' W') : (Code.region id ops true).wp P Q a W := by
  obtain ⟨hm, A, hs, xs, Ls, rs, R, h1, h2, _, h3⟩ := drawSeq0_run he ho
  subst h3
  have hno : ∀ j, (Array.replicate ops.size false).getD j false = false := fun j => by
    simp [Array.getElem?_replicate]
    split <;> simp
  have hz : ∀ {α : Type} (st : RC → α → α) (l : List RC) (i : Nat) (v : α), sel st (fun j => (Array.replicate ops.size false).getD j false) v l i = v := by
    intro α st l
    induction l with
    | nil => intro i v; rfl
    | cons r l ih =>
      intro i v
      simp only [sel]
      rw [ih]
      have := hno i
      split
      · rename_i h
        rw [this] at h
        cases h
      · rfl
  refine wp_region_any hm (any_ok R ho hQ ops.size _ _ _ F ρ (by simp) ?_ (fun j hj => ?_) ⟨?_, fun k hk _ => ?_, h.anch, fun t => ?_, ?_, h.defers⟩)
  · exact Nat.le_trans List.count_le_length (by simp)
  · rw [hno] at hj
    cases hj
  · refine (h.inv.draw _).congr fun k => ?_
    rw [hz, h2]
  · rw [h2] at hk
    exact h.fresh k hk
  · rw [hz, h1]
    exact Vr.mono (W := W) (W' := { W with drawn := W.drawn + 1 }) (fun _ h => h) (fun _ _ => rfl) (fun _ _ h => h) _ _ (h.tmp t)
  · rw [h1]
    exact h.size
end
/-- The region, rows told again ahead of it. -/
def drawSeq (P : Program) (gl : List (Nat × List D)) (ops : Array Oper) (x : X) : Option X :=
  match sayAll x.orc x.mem x.obs with
  | some (orc, mem, obs) => drawSeq0 P gl ops { x with orc := orc, mem := mem, obs := obs }
  | none => none
section
variable {P : Program} {gl : List (Nat × List D)} {W0 : World} {An : Nat → Option Loc} {S0 F0 F : Nat → Prop} {ρ : Nat → Option Loc} {W : World} {a : Act} {ops : Array Oper}
theorem drawSeq_obs {x x' : X} (h : drawSeq P gl ops x = some x') : ∀ p ∈ x.obs, p ∈ x'.obs := by
  unfold drawSeq at h
  split at h
  · rename_i orc mem obs hs
    exact fun p hp => drawSeq0_obs h p (sayAll_obs _ _ _ _ hs p hp)
  · cases h
theorem drawSeq_ok {id : Nat} {x x' : X} (he : drawSeq P gl ops x = some x') (ho : ∀ p ∈ x'.obs, p) (h : Rel gl W0 S0 F0 An x.tm x.mem a W F ρ) {Q : Exit → Act → World → Prop}
    (hQ : ∀ a' W' F' ρ', Rel gl W0 S0 F0 An x'.tm x'.mem a' W' F' ρ' → Q .normal a' W') : (Code.region id ops true).wp P Q a W := by
  unfold drawSeq at he
  split at he
  · rename_i orc mem obs hs
    have e := sayAll_ok _ _ _ _ hs (fun p hp => ho p (drawSeq0_obs he p hp))
    simp only at e
    subst e
    exact drawSeq0_ok he ho h hQ
  · cases he
end
end Go.Proofs.Ytdffdnbkinpbiaa.Sx
