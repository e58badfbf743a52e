import Derived.Test.YtdffdnbkinpbiaaSxS16
import Derived.LoopN
import Derived.ScopeJumps
set_option linter.unusedVariables false
set_option linter.unusedSimpArgs false
namespace Go.Proofs.Ytdffdnbkinpbiaa.Sx
open Go Go.RowKit

/-! ### Code -/
inductive Ex where
  | normal
  | exit (id : Nat)
  | ret
  | goto (l : Nat)
def Ex.to : Ex → Exit
  | .normal => .normal
  | .exit id => .exit id
  | .ret => .ret
  | .goto l => .goto l
def Ex.isGoto : Ex → Bool
  | .goto _ => true
  | _ => false
/-- From this state the code comes to that one, by that way. -/
def AL (P : Program) (gl : List (Nat × List D)) (m : Nat) (c : Code) (pre : St) (e : Ex) (post : St) : Prop :=
  ∀ (W0 : World) (S0 F0 : Nat → Prop) (An : Nat → Option Loc), (∀ k l, An k = some l → k < m) → ∀ (a : Act) (W : World) (F : Nat → Prop) (ρ : Nat → Option Loc), Rel gl W0 S0 F0 An pre.tm pre.mem a W F ρ →
    ∀ Q : Exit → Act → World → Prop, (∀ a' W' F' ρ', Rel gl W0 S0 F0 An post.tm post.mem a' W' F' ρ' → Q e.to a' W') → c.wp P Q a W
/-- A loop, told from outside: how the state ahead of it is told, by what way it is left, and the state then. -/
structure LoopR where
  eds : List Ed
  says : List Say := []
  ex : Ex
  post : St
def condx (c : Operand) (x : X) : Option (Bool × X) :=
  match c with
  | .tmp t => match getT x.tm t with
    | .lit b => some (b, x)
    | .d (.v (.bool b)) => match x.path with
      | p :: ps => some (p, { x with tm := x.tm.set t (.lit p), path := ps, obs := (b = p) :: x.obs })
      | [] => none
    | _ => none
  | .const (.bool b) => some (b, x)
  | _ => none
def exec (P : Program) (gl : List (Nat × List D)) (m : Nat) : Code → X → List LoopR → Option (Ex × X × List LoopR)
  | .skip, x, ls => some (.normal, x, ls)
  | .label _, x, ls => some (.normal, x, ls)
  | .region _ ops false, x, ls => match opSeq P gl ops (List.range ops.size) x with
    | some x' => some (.normal, x', ls)
    | none => none
  | .region _ ops true, x, ls => match drawSeq P gl ops x with
    | some x' => some (.normal, x', ls)
    | none => none
  | .seq a b, x, ls => match exec P gl m a x ls with
    | some (.normal, x1, l1) => exec P gl m b x1 l1
    | r => r
  | .cond c a b, x, ls => match condx c x with
    | some (true, x1) => exec P gl m a x1 ls
    | some (false, x1) => exec P gl m b x1 ls
    | none => none
  | .block id body, x, ls => match exec P gl m body x ls with
    | some (.exit id', x1, l1) => if id' = id then some (.normal, x1, l1) else some (.exit id', x1, l1)
    | r => r
  | .loop body, x, ls => match ls with
    | l :: ls => match told m ⟨x.tm, x.mem⟩ l.eds l.says with
      | some (pre, o) => some (l.ex, { x with tm := l.post.tm, mem := l.post.mem, obs := AL P gl m (.loop body) pre l.ex l.post :: (o.reverse ++ x.obs) }, ls)
      | none => none
    | [] => none
  | .exit id, x, ls => some (.exit id, x, ls)
  | .ret, x, ls => some (.ret, x, ls)
  | .goto l, x, ls => some (.goto l, x, ls)
  | .scope body, x, ls => match exec P gl m body x ls with
    | some (.goto l, x1, l1) => match l1, findLabel body l with
      | r :: ls2, some rest => if r.ex.isGoto then none else match told m ⟨x1.tm, x1.mem⟩ r.eds r.says with
        | some (pre, o) => some (r.ex, { x1 with tm := r.post.tm, mem := r.post.mem, obs := AL P gl m rest pre r.ex r.post :: (o.reverse ++ x1.obs) }, ls2)
        | none => none
      | _, _ => none
    | r => r
  | _, _, _ => none
section
variable {P : Program} {gl : List (Nat × List D)} {W0 : World} {An : Nat → Option Loc} {S0 F0 F : Nat → Prop} {ρ : Nat → Option Loc} {W : World} {a : Act}
theorem cond_ok {c : Operand} {x x1 : X} {b : Bool} (hc : condx c x = some (b, x1)) (ho : ∀ p ∈ x1.obs, p) (h : Rel gl W0 S0 F0 An x.tm x.mem a W F ρ) :
    a.eval c = .bool b ∧ Rel gl W0 S0 F0 An x1.tm x1.mem a W F ρ := by
  unfold condx at hc
  split at hc
  · rename_i t
    split at hc
    · rename_i b' hb
      cases hc
      have := h.tmp t
      rw [hb] at this
      simp only [Vr] at this
      exact ⟨this, h⟩
    · rename_i b' hb
      split at hc
      · rename_i p ps hp
        cases hc
        have hbp : b' = b := ho (b' = b) (by simp)
        have := h.tmp t
        rw [hb] at this
        simp only [Vr, Dr] at this
        exact ⟨by rw [← hbp]; exact this.1, h.lit hb hbp⟩
      · cases hc
    · cases hc
  · cases hc
    exact ⟨rfl, h⟩
  · cases hc
theorem cond_obs {c : Operand} {x x1 : X} {b : Bool} (hc : condx c x = some (b, x1)) : ∀ p ∈ x.obs, p ∈ x1.obs := by
  intro p hp
  unfold condx at hc
  split at hc
  · split at hc
    · cases hc
      exact hp
    · split at hc
      · cases hc
        simp [hp]
      · cases hc
    · cases hc
  · cases hc
    exact hp
  · cases hc
theorem exec_obs {m : Nat} : ∀ (c : Code) (x : X) (ls : List LoopR) (e : Ex) (x' : X) (ls' : List LoopR), exec P gl m c x ls = some (e, x', ls') → ∀ p ∈ x.obs, p ∈ x'.obs := by
  intro c
  induction c with
  | skip =>
    intro x ls e x' ls' h
    simp [exec] at h
    obtain ⟨_, rfl, _⟩ := h
    exact fun _ h => h
  | label l =>
    intro x ls e x' ls' h
    simp [exec] at h
    obtain ⟨_, rfl, _⟩ := h
    exact fun _ h => h
  | region id ops dr =>
    intro x ls e x' ls' h
    cases dr with
    | true =>
      simp only [exec] at h
      split at h
      · rename_i x1 hs
        cases h
        exact drawSeq_obs hs
      · cases h
    | false =>
      simp only [exec] at h
      split at h
      · rename_i x1 hs
        cases h
        exact opSeq_obs _ _ _ hs
      · cases h
  | seq a b iha ihb =>
    intro x ls e x' ls' h p hp
    simp only [exec] at h
    split at h
    · rename_i x1 l1 hs
      exact ihb _ _ _ _ _ h p (iha _ _ _ _ _ hs p hp)
    · exact iha _ _ _ _ _ h p hp
  | cond c a b iha ihb =>
    intro x ls e x' ls' h p hp
    simp only [exec] at h
    split at h
    · rename_i x1 hc
      exact iha _ _ _ _ _ h p (cond_obs hc p hp)
    · rename_i x1 hc
      exact ihb _ _ _ _ _ h p (cond_obs hc p hp)
    · cases h
  | block id body ih =>
    intro x ls e x' ls' h p hp
    simp only [exec] at h
    split at h
    · rename_i id' x1 l1 hs
      split at h <;> (cases h; exact ih _ _ _ _ _ hs p hp)
    · exact ih _ _ _ _ _ h p hp
  | loop body ih =>
    intro x ls e x' ls' h p hp
    simp only [exec] at h
    split at h
    · split at h
      · cases h
        simp [hp]
      · cases h
    · cases h
  | exit id =>
    intro x ls e x' ls' h
    simp [exec] at h
    obtain ⟨_, rfl, _⟩ := h
    exact fun _ h => h
  | ret =>
    intro x ls e x' ls' h
    simp [exec] at h
    obtain ⟨_, rfl, _⟩ := h
    exact fun _ h => h
  | goto l =>
    intro x ls e x' ls' h
    simp [exec] at h
    obtain ⟨_, rfl, _⟩ := h
    exact fun _ h => h
  | scope body ih =>
    intro x ls e x' ls' h p hp
    simp only [exec] at h
    split at h
    · rename_i l x1 l1 hs
      split at h
      · split at h
        · cases h
        · split at h
          · cases h
            have := ih _ _ _ _ _ hs p hp
            simp [this]
          · cases h
      · cases h
    · exact ih _ _ _ _ _ h p hp
  | _ => intro x ls e x' ls' h; simp [exec] at h
theorem exec_ok {m : Nat} (hAn : ∀ k l, An k = some l → k < m) : ∀ (c : Code) (x : X) (ls : List LoopR) (e : Ex) (x' : X) (ls' : List LoopR), exec P gl m c x ls = some (e, x', ls') → (∀ p ∈ x'.obs, p) →
    ∀ (a : Act) (W : World) (F : Nat → Prop) (ρ : Nat → Option Loc), Rel gl W0 S0 F0 An x.tm x.mem a W F ρ →
    ∀ Q : Exit → Act → World → Prop, (∀ a' W' F' ρ', Rel gl W0 S0 F0 An x'.tm x'.mem a' W' F' ρ' → Q e.to a' W') → c.wp P Q a W := by
  intro c
  induction c with
  | skip =>
    intro x ls e x' ls' h ho a W F ρ hr Q hQ
    simp [exec] at h
    obtain ⟨rfl, rfl, _⟩ := h
    exact wp_skip (hQ _ _ _ _ hr)
  | label l =>
    intro x ls e x' ls' h ho a W F ρ hr Q hQ
    simp [exec] at h
    obtain ⟨rfl, rfl, _⟩ := h
    exact wp_label (hQ _ _ _ _ hr)
  | region id ops dr =>
    intro x ls e x' ls' h ho a W F ρ hr Q hQ
    cases dr with
    | true =>
      simp only [exec] at h
      split at h
      · rename_i x1 hs
        cases h
        exact drawSeq_ok hs ho hr hQ
      · cases h
    | false =>
      simp only [exec] at h
      split at h
      · rename_i x1 hs
        cases h
        exact wp_region (opSeq_ok _ _ _ hs ho a W F ρ hr hQ)
      · cases h
  | seq c1 c2 ih1 ih2 =>
    intro x ls e x' ls' h ho a W F ρ hr Q hQ
    simp only [exec] at h
    refine wp_seq ?_
    split at h
    · rename_i x1 l1 hs
      exact ih1 _ _ _ _ _ hs (fun p hp => ho p (exec_obs _ _ _ _ _ _ h p hp)) a W F ρ hr _ fun a' W' F' ρ' hr' => ih2 _ _ _ _ _ h ho a' W' F' ρ' hr' Q hQ
    · rename_i hne
      refine ih1 _ _ _ _ _ h ho a W F ρ hr _ fun a' W' F' ρ' hr' => ?_
      cases e with
      | normal => exact absurd h (hne _ _)
      | exit id => exact hQ a' W' F' ρ' hr'
      | ret => exact hQ a' W' F' ρ' hr'
      | goto l => exact hQ a' W' F' ρ' hr'
  | cond c c1 c2 ih1 ih2 =>
    intro x ls e x' ls' h ho a W F ρ hr Q hQ
    simp only [exec] at h
    split at h
    · rename_i x1 hc
      obtain ⟨h1, h2⟩ := cond_ok hc (fun p hp => ho p (exec_obs _ _ _ _ _ _ h p hp)) hr
      exact wp_cond_true h1 (ih1 _ _ _ _ _ h ho a W F ρ h2 Q hQ)
    · rename_i x1 hc
      obtain ⟨h1, h2⟩ := cond_ok hc (fun p hp => ho p (exec_obs _ _ _ _ _ _ h p hp)) hr
      exact wp_cond_false h1 (ih2 _ _ _ _ _ h ho a W F ρ h2 Q hQ)
    · cases h
  | block id body ih =>
    intro x ls e x' ls' h ho a W F ρ hr Q hQ
    simp only [exec] at h
    refine wp_block ?_
    split at h
    · rename_i id' x1 l1 hs
      split at h
      · rename_i hid
        cases h
        refine ih _ _ _ _ _ hs ho a W F ρ hr _ fun a' W' F' ρ' hr' => ?_
        simp only [Ex.to, Exit.inBlock, hid, if_true]
        exact hQ a' W' F' ρ' hr'
      · rename_i hid
        cases h
        refine ih _ _ _ _ _ hs ho a W F ρ hr _ fun a' W' F' ρ' hr' => ?_
        simp only [Ex.to, Exit.inBlock, hid, if_false]
        exact hQ a' W' F' ρ' hr'
    · rename_i hne
      refine ih _ _ _ _ _ h ho a W F ρ hr _ fun a' W' F' ρ' hr' => ?_
      cases e with
      | normal => exact hQ a' W' F' ρ' hr'
      | exit id => exact absurd h (hne _ _ _)
      | ret => exact hQ a' W' F' ρ' hr'
      | goto l => exact hQ a' W' F' ρ' hr'
  | loop body ih =>
    intro x ls e x' ls' h ho a W F ρ hr Q hQ
    simp only [exec] at h
    split at h
    · rename_i l ls1
      split at h
      · rename_i pre o hp
        cases h
        have hal : AL P gl m (.loop body) pre l.ex l.post := ho _ (by simp)
        obtain ⟨F', ρ', hr'⟩ := told_ok hAn hp (fun q hq => ho q (by simp [hq])) hr
        exact hal W0 S0 F0 An hAn a W F' ρ' hr' Q hQ
      · cases h
    · cases h
  | exit id =>
    intro x ls e x' ls' h ho a W F ρ hr Q hQ
    simp [exec] at h
    obtain ⟨rfl, rfl, _⟩ := h
    exact wp_exit (hQ _ _ _ _ hr)
  | ret =>
    intro x ls e x' ls' h ho a W F ρ hr Q hQ
    simp [exec] at h
    obtain ⟨rfl, rfl, _⟩ := h
    exact wp_ret (hQ _ _ _ _ hr)
  | goto l =>
    intro x ls e x' ls' h ho a W F ρ hr Q hQ
    simp [exec] at h
    obtain ⟨rfl, rfl, _⟩ := h
    exact wp_goto (hQ _ _ _ _ hr)
  | scope body ih =>
    intro x ls e x' ls' h ho a W F ρ hr Q hQ
    simp only [exec] at h
    split at h
    · rename_i l x1 l1 hs
      split at h
      · rename_i r ls2 rest hfl
        split at h
        · cases h
        · rename_i hng
          split at h
          · rename_i pre o hp
            cases h
            have o1 : ∀ p ∈ x1.obs, p := fun p hp => ho p (by simp [hp])
            have hal : AL P gl m rest pre r.ex r.post := ho _ (by simp)
            refine wp_scope_jumps l (fun a' W' => ∃ F' ρ', Rel gl W0 S0 F0 An x1.tm x1.mem a' W' F' ρ') (fun _ _ => 0) hfl ?_ ?_
            · exact ih _ _ _ _ _ hs o1 a W F ρ hr _ fun a' W' F' ρ' hr' => ⟨rfl, F', ρ', hr'⟩
            · rintro a' W' ⟨F', ρ', hr'⟩
              obtain ⟨F2, ρ2, hr2⟩ := told_ok hAn hp (fun q hq => ho q (by simp [hq])) hr'
              refine hal W0 S0 F0 An hAn a' W' F2 ρ2 hr2 _ fun a3 W3 F3 ρ3 hr3 => ?_
              have hq := hQ a3 W3 F3 ρ3 hr3
              cases hex : r.ex with
              | goto l' => rw [hex] at hng; simp [Ex.isGoto] at hng
              | normal => rw [hex] at hq; exact hq
              | exit id => rw [hex] at hq; exact hq
              | ret => rw [hex] at hq; exact hq
          · cases h
      · cases h
    · rename_i hne
      refine wp_scope_straight (ih _ _ _ _ _ h ho a W F ρ hr _ fun a' W' F' ρ' hr' => ?_)
      have hq := hQ a' W' F' ρ' hr'
      cases e with
      | goto l => exact absurd h (hne _ _ _)
      | normal => exact hq
      | exit id => exact hq
      | ret => exact hq
  | _ => intro x ls e x' ls' h; simp [exec] at h
/-! Loops -/
theorem al_loop {m n : Nat} {body : Code} {e : Ex} {post : St} (S : Nat → St) (he : e ≠ .normal) (hS : ∀ i, i < n → AL P gl m body (S i) .normal (S (i + 1))) (hE : AL P gl m body (S n) e post) : AL P gl m (.loop body) (S 0) e post := by
  intro W0 S0 F0 An hAn a W F ρ hr Q hQ
  have key : ∀ k i, i + k = n → ∀ a W F ρ, Rel gl W0 S0 F0 An (S i).tm (S i).mem a W F ρ → Code.rounds P body Q (k + 1) a W := by
    intro k
    induction k with
    | zero =>
      intro i hi a W F ρ hr
      have : i = n := by omega
      subst this
      refine hE W0 S0 F0 An hAn a W F ρ hr _ fun a' W' F' ρ' hr' => ?_
      cases e with
      | normal => exact absurd rfl he
      | exit id => exact hQ a' W' F' ρ' hr'
      | ret => exact hQ a' W' F' ρ' hr'
      | goto l => exact hQ a' W' F' ρ' hr'
    | succ k ih =>
      intro i hi a W F ρ hr
      refine hS i (by omega) W0 S0 F0 An hAn a W F ρ hr _ fun a' W' F' ρ' hr' => ?_
      exact ih (i + 1) (by omega) a' W' F' ρ' hr'
  exact wp_loop_rounds (n + 1) (key n 0 (by omega) a W F ρ hr)
structure Opt where
  path : List Bool := []
  orc : List Orc := []
  ls : List LoopR := []
  eds : List Ed := [.re [], .unlit]
  says : List Say := []
/-- A piece of code, run. -/
def runL (P : Program) (gl : List (Nat × List D)) (m : Nat) (c : Code) (pre : St) (o : Opt) : Option (Ex × St × List Prop) :=
  match exec P gl m c { tm := pre.tm, mem := pre.mem, path := o.path, orc := o.orc, obs := [] } o.ls with
  | some (e, x, _) => match told m ⟨x.tm, x.mem⟩ o.eds o.says with
    | some (s, o) => some (e, s, x.obs.reverse ++ o)
    | none => none
  | none => none
inductive PL : List Prop → Prop
  | nil : PL []
  | cons {p : Prop} {l : List Prop} : p → PL l → PL (p :: l)
theorem PL.all {l : List Prop} (h : PL l) : ∀ p ∈ l, p := by
  induction h with
  | nil => simp
  | cons hp _ ih =>
    intro q hq
    rcases List.mem_cons.1 hq with rfl | hq
    · exact hp
    · exact ih q hq
theorem al_of {m : Nat} {c : Code} {pre post : St} {e : Ex} (o : Opt) {obs : List Prop} (hp : PL obs)
    (hx : runL P gl m c pre o = some (e, post, obs)) : AL P gl m c pre e post := by
  intro W0 S0 F0 An hAn a W F ρ hr Q hQ
  unfold runL at hx
  split at hx
  · rename_i e1 x l1 hex
    split at hx
    · rename_i s o ht
      cases hx
      refine exec_ok hAn c _ _ _ x l1 hex (fun p hp' => hp.all p (by simp [hp'])) a W F ρ hr Q fun a' W' F' ρ' hr' => ?_
      obtain ⟨F2, ρ2, hr2⟩ := told_ok hAn ht (fun q hq => hp.all q (by simp [hq])) hr'
      exact hQ _ _ _ _ hr2
    · cases hx
  · cases hx
end
/-- The k-th loop's body in the text's order, outer ones first. -/
def loopsOf : Code → List Code
  | .seq a b => loopsOf a ++ loopsOf b
  | .cond _ a b => loopsOf a ++ loopsOf b
  | .block _ b => loopsOf b
  | .loop b => b :: loopsOf b
  | .scope b => loopsOf b
  | _ => []
/-- The code behind a label of a function's body. -/
def labelAt (P : Program) (f l : Nat) : Code :=
  match P.funcs[f]? with
  | some fn => match fn.body with
    | some (.scope body) => (findLabel body l).getD .skip
    | _ => .skip
  | none => .skip
def loopAt (P : Program) (f k : Nat) : Code :=
  match P.funcs[f]? with
  | some fn => match fn.body with
    | some body => (loopsOf body).getD k .skip
    | none => .skip
  | none => .skip
/-- The operations of the region of that number. -/
def regOf (id : Nat) : Code → Option (Array Oper)
  | .seq a b => match regOf id a with
    | some o => some o
    | none => regOf id b
  | .cond _ a b => match regOf id a with
    | some o => some o
    | none => regOf id b
  | .block _ b => regOf id b
  | .loop b => regOf id b
  | .scope b => regOf id b
  | .region i ops _ => if i = id then some ops else none
  | _ => none
def opsAt (P : Program) (f id : Nat) : Array Oper :=
  match P.funcs[f]? with
  | some fn => match fn.body with
    | some body => (regOf id body).getD #[]
    | none => #[]
  | none => #[]
/-- Nothing in the region hangs on an order that is left open. -/
abbrev Free (P : Program) (f id : Nat) : Prop := staticOk (opsAt P f id) = true
/-- A state of n temporaries of which these are known. -/
def hd (n : Nat) : List (Nat × SV) → List SV
  | [] => List.replicate n .any
  | (t, v) :: l => (hd n l).set t v
end Go.Proofs.Ytdffdnbkinpbiaa.Sx
