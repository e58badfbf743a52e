import Derived.Test.YtdffdnbkinpbiaaSxS15e
set_option linter.unusedVariables false
set_option linter.unusedSimpArgs false
namespace Go.Proofs.Ytdffdnbkinpbiaa.Sx
open Go Go.RowKit

def tmR (ops : Array Oper) (o : Oper) (tm : Nat → SV) : Nat → SV := fun t => if (readsOf ops o).contains t then tm t else .any
def memR (A : Anc) (hs : List (Nat × List Nat)) (i : Nat) (L : List (Nat × List Nat)) (M : Nat → Blk) : Nat → Blk := fun k => if (hidB A i L ++ hidH A i hs).contains k then .dead else M k
structure StepR (P : Program) (gl : List (Nat × List D)) (ops : Array Oper) (A : Anc) (hs : List (Nat × List Nat)) (i : Nat) (o : Oper) (x : X) (rs : List (Nat × List Nat)) (x' : X) (r : RC) : Prop where
  fine : r.Fine
  dst : r.dst = o.dst
  c : r.c = x.mem.length
  tm : x'.tm = dstT x.tm o.dst r.val
  len : x'.mem.length = x.mem.length + r.n
  mem : ∀ k, memF x'.mem k = stM k r (memF x.mem k)
  obs : ∀ p ∈ x.obs, p ∈ x'.obs
  run : (r.eff = none ∧ r.val = .tup [] ∧ guardNow ops (tmR ops o (getT x.tm)) o = some false) ∨
    ∃ E orc, r.eff = some E ∧ guardNow ops (tmR ops o (getT x.tm)) o = some true ∧ opG P gl (tmR ops o (getT x.tm)) (memR A hs i rs (memF x.mem)) x.mem.length orc o = some E ∧ (∀ p ∈ E.obs, p ∈ x'.obs) ∧
      (r.val = E.val ∨ ∃ b p, E.val = .d (.v (.bool b)) ∧ r.val = .lit p ∧ (b = p) ∈ x'.obs)
section
variable {P : Program} {gl : List (Nat × List D)} {ops : Array Oper} {A : Anc} {hs : List (Nat × List Nat)}
theorem memF_pad (mem : List Blk) (k : Nat) : memF (mem ++ [.dead]) k = memF mem k := by
  rw [memF_snoc]
  split
  · rename_i h
    subst h
    simp [memF]
  · rfl
theorem padE_mem {mem : List Blk} {E : Eff} (k : Nat) : memF (padE mem E) k = memF (applyE mem E) k := by
  unfold padE
  split
  · exact memF_pad _ k
  · rfl
theorem padE_len {mem : List Blk} {E : Eff} : (padE mem E).length = mem.length + max 1 E.cnt := by
  unfold padE
  split
  · rename_i h
    rw [List.length_append, applyE_length, h]
    rfl
  · rename_i n h
    rw [applyE_length]
    have : E.cnt ≠ 0 := h
    omega
theorem sayVal_ok {src : Bool} {v v' : SV} {path path' : List Bool} {obs obs' : List Prop} (h : sayVal src v path obs = some (v', path', obs')) :
    (∀ p ∈ obs, p ∈ obs') ∧ (v' = v ∨ ∃ b p, v = .d (.v (.bool b)) ∧ v' = .lit p ∧ (b = p) ∈ obs') := by
  unfold sayVal at h
  split at h
  · split at h
    · cases h
      exact ⟨fun _ h => h, .inl rfl⟩
    · split at h
      · cases h
        exact ⟨fun p hp => by simp [hp], .inr ⟨_, _, rfl, rfl, by simp⟩⟩
      · cases h
    · cases h
  · cases h
    exact ⟨fun _ h => h, .inl rfl⟩
theorem drawStep_ok {i : Nat} {o : Oper} {x x' : X} {rs : List (Nat × List Nat)} {r : RC} (h : drawStep P gl ops A hs i o x rs = some (x', r)) : StepR P gl ops A hs i o x rs x' r := by
  simp only [drawStep, forceL_eq] at h
  split at h
  · rename_i hg
    cases h
    exact ⟨⟨rfl, rfl⟩, rfl, rfl, rfl, rfl, fun k => rfl, fun _ h => h, .inl ⟨rfl, rfl, hg⟩⟩
  · rename_i hg
    split at h
    · rename_i E hE
      split at h
      · rename_i hup
        split at h
        · rename_i v path obs hv
          cases h
          obtain ⟨h1, h2⟩ := sayVal_ok hv
          refine ⟨⟨rfl, rfl⟩, rfl, rfl, rfl, ?_, fun k => ?_, fun p hp => h1 p (by simp [hp]), .inr ⟨E, _, rfl, hg, hE, fun p hp => h1 p (by simp [hp]), h2⟩⟩
          · simp only [RC.n]
            exact padE_len
          · rw [padE_mem, memF_applyE (fun k b hc => ?_) k]
            · simp only [stM]
              exact effM_pt rfl
            · rw [okUpd, hc] at hup
              simpa using hup
        · cases h
      · cases h
    · cases h
  · cases h

/-- The run in the text's order, as a whole. -/
structure Run (P : Program) (gl : List (Nat × List D)) (ops : Array Oper) (A : Anc) (hs : List (Nat × List Nat)) (xs : Nat → X) (Ls : Nat → List (Nat × List Nat)) (rs : List RC) : Prop where
  len : rs.length = ops.size
  ancs : ∀ (j : Nat) (o : Oper), ops[j]? = some o → (∀ k, anc A k j = true → k < j ∧ ∃ e ∈ o.after, Region.binds .any e = true ∧ (k = e.on ∨ anc A k e.on = true)) ∧ ∀ e ∈ o.after, Region.binds .any e = true → e.on < j
  step : ∀ (i : Nat) (o : Oper) (r : RC), ops[i]? = some o → rs[i]? = some r → StepR P gl ops A hs i o (xs i) (Ls i) (xs (i + 1)) r
  names : ∀ (i j : Nat) (oi oj : Oper), i < j → ops[i]? = some oi → ops[j]? = some oj → anc A i j = false → (∀ d, oi.dst = some d → d ∉ namesOf ops oj) ∧ (∀ d, oj.dst = some d → d ∉ namesOf ops oi)
  hid : ∀ (i j : Nat) (r : RC), rs[i]? = some r → r.hid ≠ [] → i < j → j ≤ ops.size → (i, r.hid) ∈ Ls j
  dyn : dynOk A hs (doers rs 0) = true
theorem drawSeq0_run {x x' : X} (h : drawSeq0 P gl ops x = some x') (ho : ∀ p ∈ x'.obs, p) : P.follows .mixedOrders = true ∧ ∃ A hs xs Ls rs, Run P gl ops A hs xs Ls rs ∧ (xs 0).tm = x.tm ∧ (xs 0).mem = x.mem ∧ (xs 0).obs = (staticOk ops = true) :: x.obs ∧ xs ops.size = x' := by
  unfold drawSeq0 at h
  split at h
  rename_i hs orc hor
  simp only [forceL_eq] at h
  split at h
  · rename_i hc
    split at h
    · rename_i x1 rs hg
      split at h
      · rename_i hdyn
        cases h
        obtain ⟨xs, Ls, h2, h3, h4, h6, h5⟩ := drawGo_tr _ _ _ _ _ _ hg
        simp only [Nat.zero_add, Array.length_toList] at h2 h4 h5
        have stp : ∀ (i : Nat) (o : Oper) (r : RC), ops[i]? = some o → rs[i]? = some r → StepR P gl ops (ancGo ops.toList []) hs i o (xs i) (Ls i) (xs (i + 1)) r ∧ Ls (i + 1) = addL i r (Ls i) := fun i o r ho hr => by
          have := h5 i o r (by simpa using ho) hr
          exact ⟨drawStep_ok this.1, this.2⟩
        have hop : ∀ i, i < ops.size → ∃ o r, ops[i]? = some o ∧ rs[i]? = some r := fun i hi => by
          have : i < rs.length := by omega
          exact ⟨ops[i], rs[i], by simp [hi], by simp [this]⟩
        have obsAll : ∀ n j, j + n = ops.size → ∀ p ∈ (xs j).obs, p ∈ x'.obs := by
          intro n
          induction n with
          | zero =>
            intro j hj p hp
            have : j = ops.size := by omega
            subst this
            rwa [h4] at hp
          | succ n ih =>
            intro j hj p hp
            obtain ⟨o, r, q1, q2⟩ := hop j (by omega)
            exact ih (j + 1) (by omega) p ((stp j o r q1 q2).1.obs p hp)
        have hst : staticOk ops = true := ho _ (obsAll ops.size 0 (by omega) _ (by rw [h3]; simp))
        have hanc : ancOk (ancGo ops.toList []) ops.toList 0 = true := by
          have := hst
          simp only [staticOk, forceL_eq, Bool.and_eq_true] at this
          exact this.1
        refine ⟨hc, ancGo ops.toList [], hs, xs, Ls, rs, ⟨h2, fun j o ho => ?_, fun i o r ho hr => (stp i o r ho hr).1, fun i j oi oj hij hoi hoj hu => static_names hst hij hoi hoj hu, fun i j r hr hn hij hj => ?_, hdyn⟩, by rw [h3], by rw [h3], by rw [h3], h4⟩
        · have := ancOk_spec ops.toList 0 hanc j o (by simpa using ho)
          simpa using this
        · have key : ∀ n, i + 1 + n ≤ ops.size → (i, r.hid) ∈ Ls (i + 1 + n) := by
            intro n
            induction n with
            | zero =>
              intro hle
              obtain ⟨o, r', q1, q2⟩ := hop i (by omega)
              rw [hr] at q2
              cases q2
              rw [Nat.add_zero, (stp i o r q1 hr).2]
              unfold addL
              split
              · rename_i e
                exact absurd e hn
              · rename_i h t e
                rw [e]
                simp
            | succ n ih =>
              intro hle
              obtain ⟨o, r', q1, q2⟩ := hop (i + 1 + n) (by omega)
              rw [show i + 1 + (n + 1) = i + 1 + n + 1 by omega, (stp _ o r' q1 q2).2]
              unfold addL
              split
              · exact ih (by omega)
              · exact List.mem_cons_of_mem _ (ih (by omega))
          have := key (j - (i + 1)) (by omega)
          rwa [show i + 1 + (j - (i + 1)) = j by omega] at this
      · cases h
    · cases h
  · cases h
theorem drawSeq0_obs {x x' : X} (h : drawSeq0 P gl ops x = some x') : ∀ p ∈ x.obs, p ∈ x'.obs := by
  unfold drawSeq0 at h
  split at h
  rename_i hs orc hor
  simp only [forceL_eq] at h
  split at h
  · split at h
    · rename_i x1 rs hg
      split at h
      · cases h
        obtain ⟨xs, Ls, h2, h3, h4, h6, h5⟩ := drawGo_tr _ _ _ _ _ _ hg
        simp only [Nat.zero_add, Array.length_toList] at h2 h4 h5
        have obsAll : ∀ n j, j + n = ops.size → ∀ p ∈ (xs j).obs, p ∈ x'.obs := by
          intro n
          induction n with
          | zero =>
            intro j hj p hp
            have : j = ops.size := by omega
            subst this
            rwa [h4] at hp
          | succ n ih =>
            intro j hj p hp
            have hjr : j < rs.length := by omega
            have hjo : j < ops.size := by omega
            exact ih (j + 1) (by omega) p ((drawStep_ok (h5 j ops[j] rs[j] (by simp [hjo]) (by simp [hjr])).1).obs p hp)
        exact fun p hp => obsAll ops.size 0 (by omega) p (by rw [h3]; simp [hp])
      · cases h
    · cases h
  · cases h
namespace Run
variable {xs : Nat → X} {Ls : Nat → List (Nat × List Nat)} {rs : List RC} (R : Run P gl ops A hs xs Ls rs)
include R
theorem at_ {i : Nat} (h : i < ops.size) : ∃ o r, ops[i]? = some o ∧ rs[i]? = some r ∧ StepR P gl ops A hs i o (xs i) (Ls i) (xs (i + 1)) r := by
  have h' : i < rs.length := by rw [R.len]; exact h
  exact ⟨ops[i], rs[i], by simp [h], by simp [h'], R.step i _ _ (by simp [h]) (by simp [h'])⟩
theorem tmLen : ∀ i, i ≤ ops.size → (xs i).tm.length = (xs 0).tm.length
  | 0, _ => rfl
  | i + 1, h => by
    obtain ⟨o, r, _, _, hs⟩ := R.at_ (i := i) (by omega)
    rw [← tmLen i (by omega), hs.tm]
    unfold dstT
    split <;> simp
theorem memLe : ∀ j i, i ≤ j → j ≤ ops.size → (xs i).mem.length ≤ (xs j).mem.length
  | 0, i, h, _ => by
    have : i = 0 := by omega
    subst this
    exact Nat.le_refl _
  | j + 1, i, h, hj => by
    by_cases e : i = j + 1
    · subst e
      exact Nat.le_refl _
    · obtain ⟨o, r, _, _, hs⟩ := R.at_ (i := j) (by omega)
      have := memLe j i (by omega) (by omega)
      rw [hs.len]
      omega
theorem obsAll : ∀ j i, i ≤ j → j ≤ ops.size → ∀ p ∈ (xs i).obs, p ∈ (xs j).obs
  | 0, i, h, _, p, hp => by
    have : i = 0 := by omega
    subst this
    exact hp
  | j + 1, i, h, hj, p, hp => by
    by_cases e : i = j + 1
    · subst e
      exact hp
    · obtain ⟨o, r, _, _, hs⟩ := R.at_ (i := j) (by omega)
      exact hs.obs p (obsAll j i (by omega) (by omega) p hp)
theorem cut {α : Type} {st : RC → α → α} {v : Nat → α} (hstep : ∀ i o r, i < ops.size → rs[i]? = some r → ops[i]? = some o → v (i + 1) = st r (v i)) : ∀ m, m ≤ ops.size → v m = sel st (fun j => decide (j < m)) (v 0) rs 0
  | 0, _ => by
    have : ∀ (rs : List RC) (i : Nat) (u : α), sel st (fun j => decide (j < 0)) u rs i = u := by
      intro rs
      induction rs with
      | nil => intro i u; rfl
      | cons r rs ih => intro i u; simp only [sel]; rw [ih]; simp
    rw [this]
  | m + 1, h => by
    obtain ⟨o, r, ho, hr, hs⟩ := R.at_ (i := m) (by omega)
    rw [hstep m o r (by omega) hr ho, cut hstep m (by omega)]
    refine (sel_insert (D := fun j => decide (j < m)) (i0 := m) (by simp) (fun j => ?_) rs 0 _ (by omega) (by simpa using hr) fun j r hr hj hd => ?_).symm
    · by_cases h1 : j = m
      · subst h1
        simp
      · simp [h1]
        omega
    · simp at hd
      omega
theorem tmCut {m : Nat} (h : m ≤ ops.size) (t : Nat) : getT (xs m).tm t = sel (stT (xs 0).tm.length t) (fun j => decide (j < m)) (getT (xs 0).tm t) rs 0 := by
  refine R.cut (v := fun m => getT (xs m).tm t) (fun i o r hi hr ho => ?_) m h
  have hs := R.step i o r ho hr
  show getT (xs (i + 1)).tm t = _
  rw [hs.tm]
  unfold dstT stT
  rw [hs.dst]
  cases ho : o.dst with
  | none => rfl
  | some d =>
    simp only
    rw [getT_set, R.tmLen i (by omega)]
theorem memCut {m : Nat} (h : m ≤ ops.size) (k : Nat) : memF (xs m).mem k = sel (stM k) (fun j => decide (j < m)) (memF (xs 0).mem k) rs 0 :=
  R.cut (v := fun m => memF (xs m).mem k) (fun i o r hi hr ho => (R.step i o r ho hr).mem k) m h
/-- Two that neither waits for the other. -/
theorem apart {i j : Nat} {oi oj : Oper} {ri rj : RC} (hij : i < j) (hoi : ops[i]? = some oi) (hoj : ops[j]? = some oj) (hri : rs[i]? = some ri) (hrj : rs[j]? = some rj) (hu : anc A i j = false) :
    (∀ d, oi.dst = some d → d ∉ namesOf ops oj) ∧ (∀ d, oj.dst = some d → d ∉ namesOf ops oi) ∧ (∀ k ∈ rj.tch, k ∈ hintOf hs j) ∧ (∀ k, ri.touches k = true → rj.touches k = true → False) := by
  have hn := R.names i j oi oj hij hoi hoj hu
  have si := R.step i oi ri hoi hri
  have sj := R.step j oj rj hoj hrj
  have hdyn := R.dyn
  simp only [dynOk, List.all_eq_true, Bool.and_eq_true] at hdyn
  have hsub : ∀ (r : RC), r.Fine → ∀ k ∈ r.tch, k ∈ r.hid := fun r hf k hk => by
    rw [hf.tch] at hk
    rw [hf.hid]
    cases he : r.eff with
    | none => rw [he] at hk; simp at hk
    | some E =>
      rw [he] at hk
      exact List.mem_append_left _ hk
  refine ⟨hn.1, hn.2, fun k hk => ?_, fun k hi hj => ?_⟩
  · have hne : rj.hid ≠ [] := fun e => by
      have := hsub rj sj.fine k hk
      rw [e] at this
      simp at this
    have h1 := (hdyn _ (doers_mem rs 0 j rj hrj hne)).1
    simp only [Nat.zero_add] at h1
    split at h1
    · rename_i e
      rw [e] at hk
      simp at hk
    · simp only [Bool.or_eq_true, beq_iff_eq, List.all_eq_true, List.contains_eq_mem, decide_eq_true_eq] at h1
      rcases h1 with h1 | h1
      · have : anc A i j = true := by
          unfold anc
          rw [h1, Nat.testBit_two_pow_sub_one]
          simp [hij]
        rw [hu] at this
        cases this
      · exact h1 k hk
  · simp only [RC.touches, List.contains_eq_mem, decide_eq_true_eq] at hi hj
    have hnei : ri.hid ≠ [] := fun e => by rw [e] at hi; simp at hi
    have hnej : rj.hid ≠ [] := fun e => by rw [e] at hj; simp at hj
    have h1 := (hdyn _ (doers_mem rs 0 j rj hrj hnej)).2 _ (doers_mem rs 0 i ri hri hnei)
    simp only [Nat.zero_add, dynPair, hu, Bool.or_false, Bool.or_eq_true, decide_eq_true_eq, Bool.and_eq_true, List.all_eq_true, Bool.not_eq_true', List.contains_eq_mem, decide_eq_false_iff_not] at h1
    rcases h1 with h1 | ⟨h1, h2⟩
    · omega
    · have hjn : j < ops.size := (Array.getElem?_eq_some_iff.1 hoj).1
      have hle : ri.c + ri.n ≤ rj.c := by
        rw [si.c, ← si.len, sj.c]
        exact R.memLe j (i + 1) (by omega) (by omega)
      by_cases t1 : k ∈ rj.tch
      · exact h1 k t1 hi
      · by_cases t2 : k ∈ ri.tch
        · exact h2 k t2 hj
        · have rng : ∀ (r : RC), r.Fine → k ∈ r.hid → k ∉ r.tch → r.c ≤ k ∧ k < r.c + r.n := fun r hf hk ht => by
            have h3 := hf.hid
            have h4 := hf.tch
            unfold RC.n
            cases he : r.eff with
            | none => rw [he] at h3; rw [h3] at hk; simp at hk
            | some E =>
              rw [he] at h3 h4
              rw [h3] at hk
              rw [h4] at ht
              simp only [effHid, List.mem_append, List.mem_range'_1] at hk
              rcases hk with hk | hk
              · exact absurd hk ht
              · simp only
                omega
          have a1 := rng ri si.fine hi t2
          have a2 := rng rj sj.fine hj t1
          omega
end Run
end
end Go.Proofs.Ytdffdnbkinpbiaa.Sx
