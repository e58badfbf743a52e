import Derived.Test.YtdffdnbkinpbiaaDoorTell
set_option linter.unusedVariables false
set_option linter.unusedSimpArgs false
namespace Go.Proofs.YtdffdnbkinpbiaaDoor
open Go Go.RowKit Sx

/-! send.All -/
theorem sendConfig_few (t : Tree) (i : Int) : (sendConfig t i).2.length ≤ 1 := by
  unfold sendConfig
  cases decide (i < 0) <;> cases decide (i ≥ ((rowP t.ports).length : Int)) <;> cases (portAt t.ports i).hold.on <;> cases decide ((telling14 t i).2 ≥ t.now.maxAge) <;> simp
theorem sendConfig_len (t : Tree) (i : Int) : (sendConfig t i).1.ports.length = t.ports.length := by
  unfold sendConfig
  cases decide (i < 0) <;> cases decide (i ≥ ((rowP t.ports).length : Int)) <;> cases (portAt t.ports i).hold.on <;> cases decide ((telling14 t i).2 ≥ t.now.maxAge) <;> simp
def allS (t0 : List Port) (t : Tree) (l : List Out) (i : Int) : St :=
  ⟨hd 38 [(1, .ptr 0 0), (2, .ptr 1 0), (4, .own 2), (9, .d (.row (rowP t0))), (10, vI .i64 t0.length), (11, vI .i64 i)], [.box (tSV t (.d (.row (rowP t.ports)))), .box (tSV tree0 (.d .nil)), .row 5 43 (rowO l)]⟩
def allQ (t : Tree) (l : List Out) : St :=
  ⟨hd 38 [(1, .ptr 0 0), (2, .ptr 1 0), (4, .own 2)], [.box (tSV t (.d (.row (rowP t.ports)))), .box (tSV tree0 (.d .nil)), .row 5 43 (rowO l)]⟩
def allR (t0 : List Port) (t : Tree) (l : List Out) (i : Nat) (p : Port) : LO (Tree × List Out) (Tree × List Out) := bif !designated p t.own then .next ((t, l)) else (bif p.state == 0 then .next ((t, l)) else .next (((sendConfig t (↑i : Int)).fst, l ++ (sendConfig t (↑i : Int)).snd)))
theorem allR_al (t0 : List Port) (t : Tree) (l : List Out) (i : Nat) (p : Port) (hp : t0[i]? = some p) (hi : i < t0.length) (hl : t.ports.length ≤ 1000000) (hk : (sendConfig t i).2.length ≤ 1) (hll : l.length ≤ 1000000) (hc : decide ((i : Int) < (t0.length : Int)) = true) : AL PG GL 0 (loopAt PG 17 0) (allS t0 t l (↑i : Int)) (LO.ex (fun (r : Tree × List Out) => (Ex.exit 0, allQ r.fst r.snd)) (allR t0 t l i p)) (LO.st (fun (r : Tree × List Out) => allS t0 r.fst r.snd (IntKind.i64.wrap ((↑i : Int) + 1))) (fun (r : Tree × List Out) => (Ex.exit 0, allQ r.fst r.snd)) (allR t0 t l i p)) := by
  unfold allR
  cases hc1 : !designated p t.own
  · cases hc2 : p.state == 0
    · exact al_of {path := [true, false, false], orc := [.elem p.ds, cal (vB (designated p t.own)), cal (SV.tup [sA (sendConfig t (↑i : Int)).fst.ds, sO (sendConfig t (↑i : Int)).snd])], eds := [.keep [1, 2, 4, 9, 10, 11], .re [0, 1, 4], .unlit], says := [.row 2 (rowO (l ++ (sendConfig t (↑i : Int)).snd))]}
        (.cons hc <| .cons (by omega : (0 : Int) ≤ (↑i : Int)) <| .cons (by simp [rowP, rowC, rowB, rowI, rowO]; omega : (↑i : Int) < (↑(rowP t0).length : Int)) <| .cons (row_at Port.ds hp) <| .cons (designated_ac p t.own) <| .cons hc1 <| .cons hc2 <| .cons (sendConfig_ac t (↑i : Int) hl) <| .cons (by simp [rowP, rowC, rowB, rowI, rowO]; omega : ((rowO l).length + (rowO (sendConfig t (↑i : Int)).snd).length) * (56 : Nat) ≤ (140737488355328 : Nat)) <| .cons (row_all (f := Out.ds) (l := (sendConfig t (↑i : Int)).snd) (fun _ => rfl) : ∀ el ∈ rowO (sendConfig t (↑i : Int)).snd, el.length = 5) <| .cons (row_app Out.ds l ((sendConfig t (↑i : Int)).snd)) <| .nil) (by kernel_rfl)
    · exact al_of {path := [true, false, true], orc := [.elem p.ds, cal (vB (designated p t.own))], eds := [.keep [1, 2, 4, 9, 10, 11], .re [0, 1, 2], .unlit]}
        (.cons hc <| .cons (by omega : (0 : Int) ≤ (↑i : Int)) <| .cons (by simp [rowP, rowC, rowB, rowI, rowO]; omega : (↑i : Int) < (↑(rowP t0).length : Int)) <| .cons (row_at Port.ds hp) <| .cons (designated_ac p t.own) <| .cons hc1 <| .cons hc2 <| .nil) (by kernel_rfl)
  · exact al_of {path := [true, true], orc := [.elem p.ds, cal (vB (designated p t.own))], eds := [.keep [1, 2, 4, 9, 10, 11], .re [0, 1, 2], .unlit]}
      (.cons hc <| .cons (by omega : (0 : Int) ≤ (↑i : Int)) <| .cons (by simp [rowP, rowC, rowB, rowI, rowO]; omega : (↑i : Int) < (↑(rowP t0).length : Int)) <| .cons (row_at Port.ds hp) <| .cons (designated_ac p t.own) <| .cons hc1 <| .nil) (by kernel_rfl)
def allX (t0 : List Port) (t : Tree) (l : List Out) : LO (Tree × List Out) (Tree × List Out) := .leave ((t, l))
theorem allX_al (t0 : List Port) (t : Tree) (l : List Out) (hc : decide ((t0.length : Int) < (t0.length : Int)) = false) : AL PG GL 0 (loopAt PG 17 0) (allS t0 t l (↑t0.length : Int)) (LO.ex (fun (r : Tree × List Out) => (Ex.exit 0, allQ r.fst r.snd)) (allX t0 t l)) (LO.st (fun (r : Tree × List Out) => allS t0 r.fst r.snd 0) (fun (r : Tree × List Out) => (Ex.exit 0, allQ r.fst r.snd)) (allX t0 t l)) := by
  unfold allX
  exact al_of {path := [false], orc := [], eds := [.keep [1, 2, 4], .re [0, 1, 2], .unlit]}
    (.cons hc <| .nil) (by kernel_rfl)
/-- One port after the other tells. -/
def allStep (i : Nat) (p : Port) (s : Tree × List Out) : LO (Tree × List Out) (Tree × List Out) := allR [] s.1 s.2 i p
def sendAll (t : Tree) : Tree × List Out := rng allStep (fun s => s) t.ports 0 (t, [])
theorem all_ale (t : Tree) (hl : t.ports.length ≤ 1000000) : ALE 0 (loopAt PG 17 0) (allS t.ports t [] 0) (.exit 0) (allQ (sendAll t).1 (sendAll t).2) := by
  refine ale_range t.ports (by omega) (fun i s => allS t.ports s.1 s.2 i) (fun r : Tree × List Out => (.exit 0, allQ r.1 r.2)) allStep (fun s => s) (fun i s => s.1.ports.length = t.ports.length ∧ s.2.length ≤ i) (by simp) ?_ ?_ ?_ t.ports 0 (t, []) rfl (by omega) ⟨rfl, by simp⟩
  · rintro i p ⟨u, l⟩ hp ⟨h1, h2⟩
    have hi : i < t.ports.length := (List.getElem?_eq_some_iff.1 hp).1
    simp only at h1 h2
    exact allR_al t.ports u l i p hp hi (by omega) (sendConfig_few u i) (by omega) (lt_t hi)
  · rintro i p ⟨u, l⟩ ⟨u', l'⟩ hp ⟨h1, h2⟩ hst
    simp only at h1 h2 ⊢
    have h3 := sendConfig_few u i
    have h4 := sendConfig_len u i
    unfold allStep allR at hst
    cases h5 : !designated p u.own <;> cases h6 : p.state == 0 <;> simp [h5, h6] at hst <;> obtain ⟨rfl, rfl⟩ := hst
    · refine ⟨by omega, ?_⟩
      simp
      omega
    · exact ⟨h1, by omega⟩
    · exact ⟨h1, by omega⟩
    · exact ⟨h1, by omega⟩
  · rintro ⟨u, l⟩ ⟨h1, h2⟩
    exact allX_al t.ports u l (lt_ff t.ports.length)
def allF (t : Tree) (u : Tree) (l : List Out) : Tree × List Out := (u, l)
theorem allF_pre (t : Tree) (u : Tree) (l : List Out) (hlp : AL PG GL 0 (.loop (loopAt PG 17 0)) (allS t.ports t [] 0) (.exit 0) (allQ u l)) : AC PG GL 17 [AD.agg t.ds] [] (SV.tup [sA (allF t u l).fst.ds, sO (allF t u l).snd]) [] := by
  unfold allF
  exact ac_of {path := [], orc := [], ls := [⟨[.keep [1, 2, 4, 9, 10, 11], .at_ (.t 4) (.adopt 5 43), .re [0, 1, 2], .unlit], [.d (.t 10) (D.v (Value.int IntKind.i64 (↑t.ports.length : Int)))], Ex.exit 0, allQ u l⟩], eds := [.at_ (.t 1) .exp, .re [], .unlit]}
    (.cons (by simp [rowP, rowC, rowB, rowI, rowO] : D.v (Value.int IntKind.i64 (↑(rowP t.ports).length : Int)) = D.v (Value.int IntKind.i64 (↑t.ports.length : Int))) <| .cons hlp <| .nil) (by kernel_rfl)
theorem sendAll_ac (t : Tree) (hl : t.ports.length ≤ 1000000) : CX 17 [.agg t.ds] (.tup [sA (sendAll t).1.ds, sO (sendAll t).2]) := allF_pre t _ _ (all_ale t hl).al
end Go.Proofs.YtdffdnbkinpbiaaDoor
