import Derived.Test.YtdffdnbkinpbiaaBase
set_option linter.unusedVariables false
set_option linter.unusedSimpArgs false
namespace Go.Proofs.Ytdffdnbkinpbiaa
open Go Go.RowKit Sx

/-! treelineref13.Fit -/
def fitIS (t : Tree) (i k : Int) : St := ⟨hd 80 [(1, .ptr 0 0), (3, vI .i64 i), (4, vI .i64 k)], [.box (t.ds.map .d)]⟩
def fitIQ (t : Tree) (i : Int) : St := ⟨hd 80 [(1, .ptr 0 0), (3, vI .i64 i)], [.box (t.ds.map .d)]⟩
def fitNo : St := ⟨hd 80 [(2, vB false)], []⟩
abbrev fitIE (t : Tree) (i : Int) : Bool → Sx.Ex × St := fun b => bif b then (.ret, fitNo) else (.exit 2, fitIQ t i)
theorem free_fitI_11 : staticOk (opsAt PG 6 11) = true := by kernel_rfl
def fitI (t : Tree) (i k : Nat) (p q : Port) : LO (Unit) (Bool) := bif p.id == q.id then .leave (true) else .next (())
theorem fitI_al (t : Tree) (i k : Nat) (p q : Port) (hp : t.ports[k]? = some p) (hk : k < t.ports.length) (hq : t.ports[i]? = some q) (hi : i < t.ports.length) (hc : decide ((k : Int) < (i : Int)) = true) : AL PG GL 0 (loopAt PG 6 1) (fitIS t (↑i : Int) (↑k : Int)) (LO.ex (fitIE t (↑i : Int)) (fitI t i k p q)) (LO.st (fun (x : Unit) => fitIS t (↑i : Int) (IntKind.i64.wrap ((↑k : Int) + 1))) (fitIE t (↑i : Int)) (fitI t i k p q)) := by
  unfold fitI
  cases hc1 : p.id == q.id
  · exact al_of {path := [true, false], orc := [.elem p.ds, .elem q.ds], eds := [.keep [1, 3, 4], .re [0], .unlit]}
      (.cons hc <| .cons free_fitI_11 <| .cons (by omega : (0 : Int) ≤ (↑k : Int)) <| .cons (by simp [rowP, rowC, rowB, rowI, rowO]; omega : (↑k : Int) < (↑(rowP t.ports).length : Int)) <| .cons (row_at Port.ds hp) <| .cons (by omega : (0 : Int) ≤ (↑i : Int)) <| .cons (by simp [rowP, rowC, rowB, rowI, rowO]; omega : (↑i : Int) < (↑(rowP t.ports).length : Int)) <| .cons (row_at Port.ds hq) <| .cons hc1 <| .nil) (by kernel_rfl)
  · exact al_of {path := [true, true], orc := [.elem p.ds, .elem q.ds], eds := [.keep [2], .re [], .unlit]}
      (.cons hc <| .cons free_fitI_11 <| .cons (by omega : (0 : Int) ≤ (↑k : Int)) <| .cons (by simp [rowP, rowC, rowB, rowI, rowO]; omega : (↑k : Int) < (↑(rowP t.ports).length : Int)) <| .cons (row_at Port.ds hp) <| .cons (by omega : (0 : Int) ≤ (↑i : Int)) <| .cons (by simp [rowP, rowC, rowB, rowI, rowO]; omega : (↑i : Int) < (↑(rowP t.ports).length : Int)) <| .cons (row_at Port.ds hq) <| .cons hc1 <| .nil) (by kernel_rfl)
def fitX (t : Tree) (i : Nat) : LO (Unit) (Bool) := .leave (false)
theorem fitX_al (t : Tree) (i : Nat) (hc : decide ((i : Int) < (i : Int)) = false) : AL PG GL 0 (loopAt PG 6 1) (fitIS t (↑i : Int) (↑i : Int)) (LO.ex (fitIE t (↑i : Int)) (fitX t i)) (LO.st (fun (x : Unit) => fitIS t (↑i : Int) 0) (fitIE t (↑i : Int)) (fitX t i)) := by
  unfold fitX
  exact al_of {path := [false], orc := [], eds := [.keep [1, 3], .re [0], .unlit]}
    (.cons hc <| .nil) (by kernel_rfl)
def fitStep (q : Port) (k : Nat) (p : Port) (u : Unit) : LO Unit Bool := fitI ⟨0, 0, 0, 0, ⟨0, 0, 0⟩, ⟨0, 0, 0⟩, false, false, timer0, timer0, timer0, []⟩ 0 k p q
/-- Has one of the ports ahead the same number? -/
def fitTwin (t : Tree) (i : Nat) (q : Port) : Bool := rng (fitStep q) (fun _ => false) (t.ports.take i) 0 ()
theorem rng_any {α : Type} (f : α → Bool) (step : Nat → α → Unit → LO Unit Bool) (hs : ∀ i x u, step i x u = bif f x then .leave true else .next ()) : ∀ (xs : List α) (i : Nat) (u : Unit), rng step (fun _ => false) xs i u = xs.any f
  | [], i, u => rfl
  | x :: xs, i, u => by
    simp only [rng, hs, List.any_cons]
    cases f x
    · simpa using rng_any f step hs xs (i + 1) ()
    · simp
theorem fitTwin_eq (t : Tree) (i : Nat) (q : Port) : fitTwin t i q = (t.ports.take i).any fun p => p.id == q.id :=
  rng_any _ _ (fun _ _ _ => rfl) _ _ _
theorem fitI_ale (t : Tree) (i : Nat) (q : Port) (hq : t.ports[i]? = some q) (hl : t.ports.length ≤ 1000000) :
    AL PG GL 0 (.loop (loopAt PG 6 1)) (fitIS t i (0 : Nat)) (fitIE t i (fitTwin t i q)).1 (fitIE t i (fitTwin t i q)).2 := by
  have hi : i < t.ports.length := (List.getElem?_eq_some_iff.1 hq).1
  have hlen : (t.ports.take i).length = i := by simp; omega
  refine (ale_range (t.ports.take i) (by omega) (fun k (_ : Unit) => fitIS t i k) (fitIE t i) (fitStep q) (fun _ => false) (fun _ _ => True) (fun b => by cases b <;> simp) ?_ ?_ ?_ _ 0 () rfl (by omega) trivial).al
  · intro k p u hp _
    have hk : k < i := by
      have := (List.getElem?_eq_some_iff.1 hp).1
      omega
    have hp' : t.ports[k]? = some p := by rwa [List.getElem?_take, if_pos hk] at hp
    exact fitI_al t i k p q hp' (by omega) hq hi (lt_t hk)
  · intros
    trivial
  · intro u _
    rw [hlen]
    exact fitX_al t i (lt_ff i)
def fitS (t : Tree) (i : Int) : St := ⟨hd 80 [(1, .ptr 0 0), (3, vI .i64 i)], [.box (t.ds.map .d)]⟩
def fitQ : St := ⟨hd 80 [], []⟩
abbrev fitE : Bool → Sx.Ex × St := fun b => bif b then (.ret, fitNo) else (.exit 0, fitQ)
def fitA (t : Tree) (i : Nat) (q : Port) : LO (Unit) (Bool) := bif !fits q.age then .leave (true) else (bif !fits q.delay then .leave (true) else (bif !fits q.hold then .leave (true) else .next (())))
theorem fitA_al (t : Tree) (i : Nat) (q : Port) (hq : t.ports[i]? = some q) (hi : i < t.ports.length) (hlp : AL PG GL 0 (.loop (loopAt PG 6 1)) (fitIS t i (0 : Nat)) (.exit 2) (fitIQ t i)) : AL PG GL 0 (loopAt PG 6 0) (fitS t (↑i : Int)) (LO.ex (fitE) (fitA t i q)) (LO.st (fun (x : Unit) => fitS t (IntKind.i64.wrap ((↑i : Int) + 1))) (fitE) (fitA t i q)) := by
  unfold fitA
  cases hc1 : !fits q.age
  · cases hc2 : !fits q.delay
    · cases hc3 : !fits q.hold
      · exact al_of {path := [true, false, false, false], orc := [.elem q.ds, cal (vB (fits q.age)), .elem q.ds, cal (vB (fits q.delay)), .elem q.ds, cal (vB (fits q.hold))], ls := [⟨[.keep [1, 3, 4], .re [0], .unlit], [], Ex.exit 2, fitIQ t (↑i : Int)⟩], eds := [.keep [1, 3], .re [0], .unlit]}
          (.cons (by simp [rowP, rowC, rowB, rowI, rowO]; omega : (decide ((↑i : Int) < (↑(rowP t.ports).length : Int))) = true) <| .cons (by omega : (0 : Int) ≤ (↑i : Int)) <| .cons (by simp [rowP, rowC, rowB, rowI, rowO]; omega : (↑i : Int) < (↑(rowP t.ports).length : Int)) <| .cons (row_at Port.ds hq) <| .cons (fits_ac q.age) <| .cons hc1 <| .cons (by omega : (0 : Int) ≤ (↑i : Int)) <| .cons (by simp [rowP, rowC, rowB, rowI, rowO]; omega : (↑i : Int) < (↑(rowP t.ports).length : Int)) <| .cons (row_at Port.ds hq) <| .cons (fits_ac q.delay) <| .cons hc2 <| .cons (by omega : (0 : Int) ≤ (↑i : Int)) <| .cons (by simp [rowP, rowC, rowB, rowI, rowO]; omega : (↑i : Int) < (↑(rowP t.ports).length : Int)) <| .cons (row_at Port.ds hq) <| .cons (fits_ac q.hold) <| .cons hc3 <| .cons hlp <| .nil) (by kernel_rfl)
      · exact al_of {path := [true, false, false, true], orc := [.elem q.ds, cal (vB (fits q.age)), .elem q.ds, cal (vB (fits q.delay)), .elem q.ds, cal (vB (fits q.hold))], eds := [.keep [2], .re [], .unlit]}
          (.cons (by simp [rowP, rowC, rowB, rowI, rowO]; omega : (decide ((↑i : Int) < (↑(rowP t.ports).length : Int))) = true) <| .cons (by omega : (0 : Int) ≤ (↑i : Int)) <| .cons (by simp [rowP, rowC, rowB, rowI, rowO]; omega : (↑i : Int) < (↑(rowP t.ports).length : Int)) <| .cons (row_at Port.ds hq) <| .cons (fits_ac q.age) <| .cons hc1 <| .cons (by omega : (0 : Int) ≤ (↑i : Int)) <| .cons (by simp [rowP, rowC, rowB, rowI, rowO]; omega : (↑i : Int) < (↑(rowP t.ports).length : Int)) <| .cons (row_at Port.ds hq) <| .cons (fits_ac q.delay) <| .cons hc2 <| .cons (by omega : (0 : Int) ≤ (↑i : Int)) <| .cons (by simp [rowP, rowC, rowB, rowI, rowO]; omega : (↑i : Int) < (↑(rowP t.ports).length : Int)) <| .cons (row_at Port.ds hq) <| .cons (fits_ac q.hold) <| .cons hc3 <| .nil) (by kernel_rfl)
    · exact al_of {path := [true, false, true], orc := [.elem q.ds, cal (vB (fits q.age)), .elem q.ds, cal (vB (fits q.delay))], eds := [.keep [2], .re [], .unlit]}
        (.cons (by simp [rowP, rowC, rowB, rowI, rowO]; omega : (decide ((↑i : Int) < (↑(rowP t.ports).length : Int))) = true) <| .cons (by omega : (0 : Int) ≤ (↑i : Int)) <| .cons (by simp [rowP, rowC, rowB, rowI, rowO]; omega : (↑i : Int) < (↑(rowP t.ports).length : Int)) <| .cons (row_at Port.ds hq) <| .cons (fits_ac q.age) <| .cons hc1 <| .cons (by omega : (0 : Int) ≤ (↑i : Int)) <| .cons (by simp [rowP, rowC, rowB, rowI, rowO]; omega : (↑i : Int) < (↑(rowP t.ports).length : Int)) <| .cons (row_at Port.ds hq) <| .cons (fits_ac q.delay) <| .cons hc2 <| .nil) (by kernel_rfl)
  · exact al_of {path := [true, true], orc := [.elem q.ds, cal (vB (fits q.age))], eds := [.keep [2], .re [], .unlit]}
      (.cons (by simp [rowP, rowC, rowB, rowI, rowO]; omega : (decide ((↑i : Int) < (↑(rowP t.ports).length : Int))) = true) <| .cons (by omega : (0 : Int) ≤ (↑i : Int)) <| .cons (by simp [rowP, rowC, rowB, rowI, rowO]; omega : (↑i : Int) < (↑(rowP t.ports).length : Int)) <| .cons (row_at Port.ds hq) <| .cons (fits_ac q.age) <| .cons hc1 <| .nil) (by kernel_rfl)
def fitB (t : Tree) (i : Nat) (q : Port) : LO (Unit) (Bool) := bif !fits q.age then .leave (true) else (bif !fits q.delay then .leave (true) else (bif !fits q.hold then .leave (true) else .leave (true)))
theorem fitB_al (t : Tree) (i : Nat) (q : Port) (hq : t.ports[i]? = some q) (hi : i < t.ports.length) (hlp : AL PG GL 0 (.loop (loopAt PG 6 1)) (fitIS t i (0 : Nat)) .ret fitNo) : AL PG GL 0 (loopAt PG 6 0) (fitS t (↑i : Int)) (LO.ex (fitE) (fitB t i q)) (LO.st (fun (x : Unit) => fitS t (IntKind.i64.wrap ((↑i : Int) + 1))) (fitE) (fitB t i q)) := by
  unfold fitB
  cases hc1 : !fits q.age
  · cases hc2 : !fits q.delay
    · cases hc3 : !fits q.hold
      · exact al_of {path := [true, false, false, false], orc := [.elem q.ds, cal (vB (fits q.age)), .elem q.ds, cal (vB (fits q.delay)), .elem q.ds, cal (vB (fits q.hold))], ls := [⟨[.keep [1, 3, 4], .re [0], .unlit], [], Ex.ret, fitNo⟩], eds := [.keep [2], .re [], .unlit]}
          (.cons (by simp [rowP, rowC, rowB, rowI, rowO]; omega : (decide ((↑i : Int) < (↑(rowP t.ports).length : Int))) = true) <| .cons (by omega : (0 : Int) ≤ (↑i : Int)) <| .cons (by simp [rowP, rowC, rowB, rowI, rowO]; omega : (↑i : Int) < (↑(rowP t.ports).length : Int)) <| .cons (row_at Port.ds hq) <| .cons (fits_ac q.age) <| .cons hc1 <| .cons (by omega : (0 : Int) ≤ (↑i : Int)) <| .cons (by simp [rowP, rowC, rowB, rowI, rowO]; omega : (↑i : Int) < (↑(rowP t.ports).length : Int)) <| .cons (row_at Port.ds hq) <| .cons (fits_ac q.delay) <| .cons hc2 <| .cons (by omega : (0 : Int) ≤ (↑i : Int)) <| .cons (by simp [rowP, rowC, rowB, rowI, rowO]; omega : (↑i : Int) < (↑(rowP t.ports).length : Int)) <| .cons (row_at Port.ds hq) <| .cons (fits_ac q.hold) <| .cons hc3 <| .cons hlp <| .nil) (by kernel_rfl)
      · exact al_of {path := [true, false, false, true], orc := [.elem q.ds, cal (vB (fits q.age)), .elem q.ds, cal (vB (fits q.delay)), .elem q.ds, cal (vB (fits q.hold))], eds := [.keep [2], .re [], .unlit]}
          (.cons (by simp [rowP, rowC, rowB, rowI, rowO]; omega : (decide ((↑i : Int) < (↑(rowP t.ports).length : Int))) = true) <| .cons (by omega : (0 : Int) ≤ (↑i : Int)) <| .cons (by simp [rowP, rowC, rowB, rowI, rowO]; omega : (↑i : Int) < (↑(rowP t.ports).length : Int)) <| .cons (row_at Port.ds hq) <| .cons (fits_ac q.age) <| .cons hc1 <| .cons (by omega : (0 : Int) ≤ (↑i : Int)) <| .cons (by simp [rowP, rowC, rowB, rowI, rowO]; omega : (↑i : Int) < (↑(rowP t.ports).length : Int)) <| .cons (row_at Port.ds hq) <| .cons (fits_ac q.delay) <| .cons hc2 <| .cons (by omega : (0 : Int) ≤ (↑i : Int)) <| .cons (by simp [rowP, rowC, rowB, rowI, rowO]; omega : (↑i : Int) < (↑(rowP t.ports).length : Int)) <| .cons (row_at Port.ds hq) <| .cons (fits_ac q.hold) <| .cons hc3 <| .nil) (by kernel_rfl)
    · exact al_of {path := [true, false, true], orc := [.elem q.ds, cal (vB (fits q.age)), .elem q.ds, cal (vB (fits q.delay))], eds := [.keep [2], .re [], .unlit]}
        (.cons (by simp [rowP, rowC, rowB, rowI, rowO]; omega : (decide ((↑i : Int) < (↑(rowP t.ports).length : Int))) = true) <| .cons (by omega : (0 : Int) ≤ (↑i : Int)) <| .cons (by simp [rowP, rowC, rowB, rowI, rowO]; omega : (↑i : Int) < (↑(rowP t.ports).length : Int)) <| .cons (row_at Port.ds hq) <| .cons (fits_ac q.age) <| .cons hc1 <| .cons (by omega : (0 : Int) ≤ (↑i : Int)) <| .cons (by simp [rowP, rowC, rowB, rowI, rowO]; omega : (↑i : Int) < (↑(rowP t.ports).length : Int)) <| .cons (row_at Port.ds hq) <| .cons (fits_ac q.delay) <| .cons hc2 <| .nil) (by kernel_rfl)
  · exact al_of {path := [true, true], orc := [.elem q.ds, cal (vB (fits q.age))], eds := [.keep [2], .re [], .unlit]}
      (.cons (by simp [rowP, rowC, rowB, rowI, rowO]; omega : (decide ((↑i : Int) < (↑(rowP t.ports).length : Int))) = true) <| .cons (by omega : (0 : Int) ≤ (↑i : Int)) <| .cons (by simp [rowP, rowC, rowB, rowI, rowO]; omega : (↑i : Int) < (↑(rowP t.ports).length : Int)) <| .cons (row_at Port.ds hq) <| .cons (fits_ac q.age) <| .cons hc1 <| .nil) (by kernel_rfl)
def fitZ (t : Tree) : LO (Unit) (Bool) := .leave (false)
theorem fitZ_al (t : Tree) (hc : decide ((t.ports.length : Int) < ((rowP t.ports).length : Int)) = false) : AL PG GL 0 (loopAt PG 6 0) (fitS t (↑t.ports.length : Int)) (LO.ex (fitE) (fitZ t)) (LO.st (fun (x : Unit) => fitS t 0) (fitE) (fitZ t)) := by
  unfold fitZ
  exact al_of {path := [false], orc := [], eds := [.keep [], .re [], .unlit]}
    (.cons hc <| .nil) (by kernel_rfl)
def fitRow (t : Tree) (i : Nat) (q : Port) (u : Unit) : LO Unit Bool := bif fitTwin t i q then fitB t i q else fitA t i q
def fitBad (t : Tree) : Bool := rng (fitRow t) (fun _ => false) t.ports 0 ()
theorem fit_ale (t : Tree) (hl : t.ports.length ≤ 1000000) : AL PG GL 0 (.loop (loopAt PG 6 0)) (fitS t (0 : Nat)) (fitE (fitBad t)).1 (fitE (fitBad t)).2 := by
  refine (ale_range t.ports (by omega) (fun k (_ : Unit) => fitS t k) fitE (fitRow t) (fun _ => false) (fun _ _ => True) (fun b => by cases b <;> simp) ?_ ?_ ?_ _ 0 () rfl (by omega) trivial).al
  · intro i q u hq _
    have hi : i < t.ports.length := (List.getElem?_eq_some_iff.1 hq).1
    have hlp := fitI_ale t i q hq hl
    unfold fitRow
    cases hb : fitTwin t i q
    · rw [hb] at hlp
      exact fitA_al t i q hq hi hlp
    · rw [hb] at hlp
      exact fitB_al t i q hq hi hlp
  · intros
    trivial
  · intro u _
    exact fitZ_al t (lt_rowff t.ports)
def fitY (t : Tree) : Bool := bif decide ((↑(rowP t.ports).length : Int) > 12) then false else (bif !fits t.hello then false else (bif !fits t.tcn then false else (bif !fits t.told then false else true)))
theorem fitY_pre (t : Tree) (hlp : AL PG GL 0 (.loop (loopAt PG 6 0)) (fitS t (0 : Nat)) (.exit 0) fitQ) : AC PG GL 6 [AD.agg t.ds] [] (vB (fitY t)) [] := by
  unfold fitY
  cases hc0 : decide ((↑(rowP t.ports).length : Int) > 12)
  · cases hc1 : !fits t.hello
    · cases hc2 : !fits t.tcn
      · cases hc3 : !fits t.told
        · exact ac_of {path := [false, false, false, false], orc := [cal (vB (fits t.hello)), cal (vB (fits t.tcn)), cal (vB (fits t.told))], ls := [⟨[.keep [1, 3], .re [0], .unlit], [], Ex.exit 0, fitQ⟩]}
            (.cons hc0 <| .cons (fits_ac t.hello) <| .cons hc1 <| .cons (fits_ac t.tcn) <| .cons hc2 <| .cons (fits_ac t.told) <| .cons hc3 <| .cons hlp <| .nil) (by kernel_rfl)
        · exact ac_of {path := [false, false, false, true], orc := [cal (vB (fits t.hello)), cal (vB (fits t.tcn)), cal (vB (fits t.told))]}
            (.cons hc0 <| .cons (fits_ac t.hello) <| .cons hc1 <| .cons (fits_ac t.tcn) <| .cons hc2 <| .cons (fits_ac t.told) <| .cons hc3 <| .nil) (by kernel_rfl)
      · exact ac_of {path := [false, false, true], orc := [cal (vB (fits t.hello)), cal (vB (fits t.tcn))]}
          (.cons hc0 <| .cons (fits_ac t.hello) <| .cons hc1 <| .cons (fits_ac t.tcn) <| .cons hc2 <| .nil) (by kernel_rfl)
    · exact ac_of {path := [false, true], orc := [cal (vB (fits t.hello))]}
        (.cons hc0 <| .cons (fits_ac t.hello) <| .cons hc1 <| .nil) (by kernel_rfl)
  · exact ac_of {path := [true], orc := []}
      (.cons hc0 <| .nil) (by kernel_rfl)
def fitN (t : Tree) : Bool := bif decide ((↑(rowP t.ports).length : Int) > 12) then false else (bif !fits t.hello then false else (bif !fits t.tcn then false else (bif !fits t.told then false else false)))
theorem fitN_pre (t : Tree) (hlp : AL PG GL 0 (.loop (loopAt PG 6 0)) (fitS t (0 : Nat)) .ret fitNo) : AC PG GL 6 [AD.agg t.ds] [] (vB (fitN t)) [] := by
  unfold fitN
  cases hc0 : decide ((↑(rowP t.ports).length : Int) > 12)
  · cases hc1 : !fits t.hello
    · cases hc2 : !fits t.tcn
      · cases hc3 : !fits t.told
        · exact ac_of {path := [false, false, false, false], orc := [cal (vB (fits t.hello)), cal (vB (fits t.tcn)), cal (vB (fits t.told))], ls := [⟨[.keep [1, 3], .re [0], .unlit], [], Ex.ret, fitNo⟩]}
            (.cons hc0 <| .cons (fits_ac t.hello) <| .cons hc1 <| .cons (fits_ac t.tcn) <| .cons hc2 <| .cons (fits_ac t.told) <| .cons hc3 <| .cons hlp <| .nil) (by kernel_rfl)
        · exact ac_of {path := [false, false, false, true], orc := [cal (vB (fits t.hello)), cal (vB (fits t.tcn)), cal (vB (fits t.told))]}
            (.cons hc0 <| .cons (fits_ac t.hello) <| .cons hc1 <| .cons (fits_ac t.tcn) <| .cons hc2 <| .cons (fits_ac t.told) <| .cons hc3 <| .nil) (by kernel_rfl)
      · exact ac_of {path := [false, false, true], orc := [cal (vB (fits t.hello)), cal (vB (fits t.tcn))]}
          (.cons hc0 <| .cons (fits_ac t.hello) <| .cons hc1 <| .cons (fits_ac t.tcn) <| .cons hc2 <| .nil) (by kernel_rfl)
    · exact ac_of {path := [false, true], orc := [cal (vB (fits t.hello))]}
        (.cons hc0 <| .cons (fits_ac t.hello) <| .cons hc1 <| .nil) (by kernel_rfl)
  · exact ac_of {path := [true], orc := []}
      (.cons hc0 <| .nil) (by kernel_rfl)
def fit (t : Tree) : Bool := bif fitBad t then fitN t else fitY t
def fitG (t : Tree) : Bool := false
theorem fitG_pre (t : Tree) (h : decide (((rowP t.ports).length : Int) > 12) = true) : AC PG GL 6 [AD.agg t.ds] [] (vB (fitG t)) [] := by
  unfold fitG
  exact ac_of {path := [true], orc := []}
    (.cons h <| .nil) (by kernel_rfl)
theorem fit_ac (t : Tree) : CX 6 [.agg t.ds] (vB (fit t)) := by
  cases h : decide (((rowP t.ports).length : Int) > 12)
  · have hl : t.ports.length ≤ 1000000 := by
      simp [rowP] at h
      omega
    have hlp := fit_ale t hl
    unfold fit
    cases hb : fitBad t
    · rw [hb] at hlp
      exact fitY_pre t hlp
    · rw [hb] at hlp
      exact fitN_pre t hlp
  · have hf : fit t = false := by
      unfold fit fitN fitY
      simp [h]
    rw [hf]
    exact fitG_pre t h
/-- What fits. -/
theorem fit_few {t : Tree} (h : fit t = true) : t.ports.length ≤ 12 := by
  have hx : decide (((rowP t.ports).length : Int) > 12) = false := by
    cases hd : decide (((rowP t.ports).length : Int) > 12) with
    | false => rfl
    | true =>
      have hf : fit t = false := by
        unfold fit fitN fitY
        simp [hd]
      rw [hf] at h
      cases h
  simp [rowP] at hx
  omega
end Go.Proofs.Ytdffdnbkinpbiaa
