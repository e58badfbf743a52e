import Derived.Test.YtdffdnbkinpbiaaDoorAwSend
set_option linter.unusedVariables false
set_option linter.unusedSimpArgs false
namespace Go.Proofs.YtdffdnbkinpbiaaDoor
open Go Go.RowKit Sx

/-! What all ports tell, in one line each -/
def ageOf (t : Tree) : Int := bif !isRoot t then bif decide (t.rootPort ≥ 0) then bif decide (t.rootPort < ((rowP t.ports).length : Int)) then older (portAt t.ports t.rootPort).age.val else 0 else 0 else 0
theorem telling14_age (t : Tree) (i : Int) : (telling14 t i).2 = ageOf t := by
  unfold telling14 ageOf
  cases !isRoot t <;> cases decide (t.rootPort ≥ 0) <;> cases decide (t.rootPort < ((rowP t.ports).length : Int)) <;> rfl
theorem telling14_x (t : Tree) (i : Int) : (telling14 t i).1 = ⟨false, t.change, (portAt t.ports i).ack, t.root, t.cost, t.own, (portAt t.ports i).id, field (ageOf t), field t.now.maxAge, field t.now.hello, field t.now.delay⟩ := by
  unfold telling14 ageOf
  cases !isRoot t <;> cases decide (t.rootPort ≥ 0) <;> cases decide (t.rootPort < ((rowP t.ports).length : Int)) <;> rfl
/-- Does a port tell now? -/
def tells (t : Tree) (p : Port) : Bool := designated p t.own && !(p.state == 0) && !p.hold.on && !decide (ageOf t ≥ t.now.maxAge)
def sentP (p : Port) : Port := { p with ack := false, pending := false, hold := tstart 0 }
def sendP (t : Tree) (p : Port) : Port :=
  bif !designated p t.own then p else bif p.state == 0 then p else bif p.hold.on then { p with pending := true } else bif decide (ageOf t ≥ t.now.maxAge) then p else sentP p
def outsOf (t : Tree) : List Port → Nat → List Out
  | [], _ => []
  | p :: ps, i => bif tells t p then out14 t i (telling14 t i).1 :: outsOf t ps (i + 1) else outsOf t ps (i + 1)
theorem sendP_keeps (t : Tree) (p : Port) : (sendP t p).id = p.id ∧ (sendP t p).state = p.state ∧ (sendP t p).cost = p.cost ∧ (sendP t p).held = p.held ∧ (sendP t p).age = p.age ∧ (sendP t p).delay = p.delay := by
  unfold sendP sentP
  cases !designated p t.own <;> cases p.state == 0 <;> cases p.hold.on <;> cases decide (ageOf t ≥ t.now.maxAge) <;> simp
theorem sendP_designated (t : Tree) (p : Port) (own : Int) : designated (sendP t p) own = designated p own := by
  obtain ⟨h1, h2, h3, h4, h5, h6⟩ := sendP_keeps t p
  unfold designated
  rw [h1, h4]
/-- Halfway through. -/
def mid (t : Tree) (i : Nat) : Tree := { t with ports := half t.ports (t.ports.map (sendP t)) i }
theorem mid_len (t : Tree) (i : Nat) : (mid t i).ports.length = t.ports.length := half_length (by simp)
theorem portAt_eq {l : List Port} {i : Int} {p : Port} (h0 : 0 ≤ i) (h : l[i.toNat]? = some p) : portAt l i = p := by simp [portAt, h]
theorem mid_at (t : Tree) (i : Nat) (k : Nat) (p : Port) (hp : t.ports[k]? = some p) : (mid t i).ports[k]? = some (if k < i then sendP t p else p) := by
  have hk : k < t.ports.length := (List.getElem?_eq_some_iff.1 hp).1
  unfold mid half
  by_cases h : k < i
  · rw [if_pos h, List.getElem?_append_left (by simp; omega), List.getElem?_take, if_pos h, List.getElem?_map, hp]
    rfl
  · rw [if_neg h, List.getElem?_append_right (by simp; omega), List.getElem?_drop]
    rw [← hp]
    congr 1
    simp
    omega
theorem mid_age (t : Tree) (i : Nat) : ageOf (mid t i) = ageOf t := by
  have e1 : isRoot (mid t i) = isRoot t := rfl
  have e2 : (rowP (mid t i).ports).length = (rowP t.ports).length := by simp [rowP, mid_len]
  have e3 : (mid t i).rootPort = t.rootPort := rfl
  unfold ageOf
  rw [e1, e2, e3]
  cases h1 : !isRoot t
  · rfl
  · cases h2 : decide (t.rootPort ≥ 0)
    · rfl
    · cases h3 : decide (t.rootPort < ((rowP t.ports).length : Int))
      · rfl
      · simp only [cond_true]
        congr 1
        simp [rowP] at h2 h3
        obtain ⟨p, hp⟩ := some_at (l := t.ports) (i := t.rootPort.toNat) (by omega)
        rw [portAt_eq (by omega) (mid_at t i _ p hp), portAt_eq (by omega) hp]
        split
        · rw [(sendP_keeps t p).2.2.2.2.1]
        · rfl
theorem portAt_nat' {l : List Port} {i : Nat} {p : Port} (h : l[i]? = some p) : portAt l (i : Int) = p := by simp [portAt, h]
theorem mid_telling (t : Tree) (i : Nat) (p : Port) (hp : t.ports[i]? = some p) : (telling14 (mid t i) i).1 = (telling14 t i).1 := by
  have h := mid_at t i i p hp
  rw [if_neg (Nat.lt_irrefl i)] at h
  rw [telling14_x, telling14_x, mid_age, portAt_nat' h, portAt_nat' hp]
  rfl
theorem mid_next (t : Tree) (i : Nat) (p : Port) (hp : t.ports[i]? = some p) (q : Port) (hq : q = sendP t p) : ({ mid t i with ports := (mid t i).ports.set i q } : Tree) = mid t (i + 1) := by
  subst hq
  unfold mid
  simp only
  congr 1
  exact half_set (by simp) (by simp [hp])
theorem set_same {l : List Port} {i : Nat} {p : Port} (h : l[i]? = some p) : l.set i p = l := by
  apply List.ext_getElem?
  intro j
  rw [List.getElem?_set]
  split
  · rename_i e
    subst e
    split
    · exact h.symm
    · rename_i hl
      rw [List.getElem?_eq_none (Nat.le_of_not_lt hl)] at h
      cases h
  · rfl
/-- One port tells, halfway. -/
theorem mid_step (t : Tree) (i : Nat) (p : Port) (hp : t.ports[i]? = some p) (l : List Out) :
    allStep i p (mid t i, l) = .next (mid t (i + 1), l ++ (bif tells t p then [out14 t i (telling14 t i).1] else [])) := by
  have hi : i < t.ports.length := (List.getElem?_eq_some_iff.1 hp).1
  have h := mid_at t i i p hp
  rw [if_neg (Nat.lt_irrefl i)] at h
  have hat := portAt_nat' h
  have same : mid t (i + 1) = mid t i → sendP t p = p → True := fun _ _ => trivial
  have nochange : sendP t p = p → mid t (i + 1) = mid t i := by
    intro e
    rw [← mid_next t i p hp p e.symm]
    show ({ mid t i with ports := (mid t i).ports.set i p } : Tree) = mid t i
    rw [set_same h]
  have own : (mid t i).own = t.own := rfl
  unfold allStep allR
  simp only
  rw [own]
  cases h1 : designated p t.own
  · have : sendP t p = p := by simp [sendP, h1]
    rw [nochange this]
    simp [tells, h1]
  · cases h2 : p.state == 0
    · simp only [Bool.not_true, cond_false]
      have hlt : decide ((i : Int) < 0) = false := neg_f i
      have hge : decide ((i : Int) ≥ ((rowP (mid t i).ports).length : Int)) = false := by
        simp [rowP, mid_len]
        omega
      unfold sendConfig
      simp only [hlt, hge, cond_false, hat]
      cases h3 : p.hold.on
      · simp only [cond_false]
        rw [telling14_age, mid_age]
        have e4 : (mid t i).now = t.now := rfl
        rw [e4]
        cases h4 : decide (ageOf t ≥ t.now.maxAge)
        · have hs : sendP t p = sentP p := by simp [sendP, h1, h2, h3, h4]
          have ht : tells t p = true := by simp [tells, h1, h2, h3, h4]
          simp only [cond_false, ht, cond_true, List.set_set, Int.toNat_natCast]
          have e := mid_next t i p hp (sentP p) hs.symm
          rw [← e]
          congr 3
          unfold out14
          simp only
          have e5 := mid_telling t i p hp
          congr 1
          rw [e5]
          rfl
        · have hs : sendP t p = p := by simp [sendP, h1, h2, h3, h4]
          have ht : tells t p = false := by simp [tells, h1, h2, h3, h4]
          simp only [cond_true, ht, cond_false]
          rw [nochange hs]
      · have hs : sendP t p = { p with pending := true } := by simp [sendP, h1, h2, h3]
        have ht : tells t p = false := by simp [tells, h1, h2, h3]
        simp only [cond_true, ht, cond_false, Int.toNat_natCast]
        rw [← mid_next t i p hp _ hs.symm]
    · have : sendP t p = p := by simp [sendP, h1, h2]
      rw [nochange this]
      simp [tells, h1, h2]
theorem sendAll_from (t : Tree) : ∀ (ps : List Port) (i : Nat) (l : List Out), t.ports.drop i = ps → rng allStep (fun s => s) ps i (mid t i, l) = (mid t t.ports.length, l ++ outsOf t ps i)
  | [], i, l, hd => by
    have : t.ports.length ≤ i := by
      have := congrArg List.length hd
      simp at this
      omega
    simp only [rng, outsOf, List.append_nil]
    congr 1
    unfold mid half
    congr 1
    rw [List.take_of_length_le (by simpa using this), List.drop_eq_nil_of_le this, List.take_of_length_le (by simp), List.drop_length]
  | p :: ps, i, l, hd => by
    have hp : t.ports[i]? = some p := by
      have := congrArg (·[0]?) hd
      simpa [List.getElem?_drop] using this
    have hd' : t.ports.drop (i + 1) = ps := by
      have := congrArg (List.drop 1) hd
      simpa [List.drop_drop] using this
    simp only [rng, mid_step t i p hp, outsOf]
    rw [sendAll_from t ps (i + 1) _ hd']
    cases tells t p <;> simp
/-- What all ports do. -/
theorem sendAll_eq (t : Tree) : sendAll t = ({ t with ports := t.ports.map (sendP t) }, outsOf t t.ports 0) := by
  unfold sendAll
  have h := sendAll_from t t.ports 0 [] rfl
  have e : mid t 0 = t := by
    unfold mid
    rw [half_zero]
  rw [e] at h
  rw [h]
  have e2 : mid t t.ports.length = { t with ports := t.ports.map (sendP t) } := by
    unfold mid
    rw [half_all (by simp)]
  rw [e2]
  simp
theorem outsOf_mem (t : Tree) : ∀ (ps : List Port) (i : Nat) (o : Out), o ∈ outsOf t ps i → ∃ k p, ps[k]? = some p ∧ tells t p = true ∧ o = out14 t (i + k : Nat) (telling14 t (i + k : Nat)).1
  | [], i, o, h => by simp [outsOf] at h
  | p :: ps, i, o, h => by
    simp only [outsOf] at h
    cases ht : tells t p with
    | true =>
      rw [ht] at h
      simp only [cond_true, List.mem_cons] at h
      rcases h with rfl | h
      · exact ⟨0, p, by simp, ht, rfl⟩
      · obtain ⟨k, q, h1, h2, h3⟩ := outsOf_mem t ps (i + 1) o h
        exact ⟨k + 1, q, by simpa using h1, h2, by rw [h3, show i + 1 + k = i + (k + 1) by omega]⟩
    | false =>
      rw [ht] at h
      simp only [cond_false] at h
      obtain ⟨k, q, h1, h2, h3⟩ := outsOf_mem t ps (i + 1) o h
      exact ⟨k + 1, q, by simpa using h1, h2, by rw [h3, show i + 1 + k = i + (k + 1) by omega]⟩
theorem outsOf_none (t : Tree) : ∀ (ps : List Port) (i : Nat), (∀ p ∈ ps, tells t p = false) → outsOf t ps i = []
  | [], i, _ => rfl
  | p :: ps, i, h => by
    simp only [outsOf, h p (by simp), cond_false]
    exact outsOf_none t ps (i + 1) fun q hq => h q (by simp [hq])
theorem sent_age (t : Tree) : ageOf (sendAll t).1 = ageOf t := by
  rw [sendAll_eq]
  have := mid_age t t.ports.length
  have e2 : mid t t.ports.length = { t with ports := t.ports.map (sendP t) } := by
    unfold mid
    rw [half_all (by simp)]
  rwa [e2] at this
/-- Told again at once: nothing. -/
theorem sendAll_twice (t : Tree) : (sendAll (sendAll t).1).2 = [] := by
  have ha := sent_age t
  rw [sendAll_eq (sendAll t).1]
  simp only
  refine outsOf_none _ _ _ fun q hq => ?_
  have e : (sendAll t).1 = { t with ports := t.ports.map (sendP t) } := by rw [sendAll_eq]
  have ho : (sendAll t).1.own = t.own := by rw [e]
  have hn : (sendAll t).1.now = t.now := by rw [e]
  rw [e] at hq
  simp only [List.mem_map] at hq
  obtain ⟨p, hp, rfl⟩ := hq
  unfold tells
  rw [ho, hn, ha, sendP_designated, (sendP_keeps t p).2.1]
  cases h1 : designated p t.own
  · simp
  · cases h2 : p.state == 0
    · cases h4 : decide (ageOf t ≥ t.now.maxAge)
      · have : (sendP t p).hold.on = true := by
          unfold sendP sentP tstart
          cases h3 : p.hold.on <;> simp [h1, h2, h3, h4]
        simp [this]
      · simp
    · simp
/-- Who told owes it then. -/
theorem sendAll_owes (t : Tree) (o : Out) (h : o ∈ (sendAll t).2) : ∃ p, 0 ≤ o.port ∧ (sendAll (sendAll t).1).1.ports[o.port.toNat]? = some p ∧ p.pending = true ∧ p.hold.on = true := by
  have e : (sendAll t).1 = { t with ports := t.ports.map (sendP t) } := by rw [sendAll_eq]
  rw [sendAll_eq t] at h
  obtain ⟨k, p, h1, h2, rfl⟩ := outsOf_mem t _ _ o h
  have hport : (out14 t (0 + k : Nat) (telling14 t (0 + k : Nat)).1).port = ((0 + k : Nat) : Int) := rfl
  rw [hport]
  simp only [tells, Bool.and_eq_true, Bool.not_eq_true'] at h2
  obtain ⟨⟨⟨q1, q2⟩, q3⟩, q4⟩ := h2
  have hs : sendP t p = sentP p := by simp [sendP, q1, q2, q3, q4]
  have hu : (sendAll t).1.ports[k]? = some (sentP p) := by
    rw [e]
    simp [h1, hs]
  have ho : (sendAll t).1.own = t.own := by rw [e]
  refine ⟨sendP (sendAll t).1 (sentP p), by omega, ?_, ?_, ?_⟩
  · rw [sendAll_eq (sendAll t).1]
    simp [hu]
  · have hd : designated (sentP p) t.own = true := q1
    have hst : ((sentP p).state == 0) = false := q2
    have hh : (sentP p).hold.on = true := rfl
    simp [sendP, ho, hd, hst, hh]
  · have hd : designated (sentP p) t.own = true := q1
    have hst : ((sentP p).state == 0) = false := q2
    have hh : (sentP p).hold.on = true := rfl
    simp [sendP, ho, hd, hst, hh]
theorem sendAll_telling (t : Tree) : telling (sendAll t).1 = telling t := by
  rw [sendAll_eq]
  rfl
end Go.Proofs.YtdffdnbkinpbiaaDoor
