import Derived.Test.YtdffdnbkinpbiaaEq
set_option linter.unusedVariables false
set_option linter.unusedSimpArgs false
namespace Go.Proofs.Ytdffdnbkinpbiaa
open Go Go.RowKit Sx

/-! treelineref13.Same -/
def rsS (a b : Tree) (i : Nat) : St := ⟨hd 108 [(2, .ptr 0 0), (3, .ptr 1 0), (5, vI .i64 i)], [.box (a.ds.map .d), .box (b.ds.map .d)]⟩
def rsame (a b : Tree) : Bool :=
  bif (((rowP a.ports).length : Int) != ((rowP b.ports).length : Int)) then false else bif a.own != b.own then false else bif a.root != b.root then false else bif a.cost != b.cost then false else bif a.rootPort != b.rootPort then false else bif !(eqTimes a.now b.now) then false else bif !(eqTimes a.mine b.mine) then false else bif !(a.detected == b.detected) then false else bif !(a.change == b.change) then false else bif !(eqTimer a.hello b.hello) then false else bif !(eqTimer a.tcn b.tcn) then false else bif !(eqTimer a.told b.told) then false else samePorts a.ports b.ports
theorem free_rs1 : staticOk (opsAt PG 12 6) = true := by kernel_rfl
theorem rs_step (a b : Tree) (hl : a.ports.length ≤ 1000000) (hlen : b.ports.length = a.ports.length) {i : Nat} (h : i < a.ports.length) {p q : Port} (hp : a.ports[i]? = some p) (hq : b.ports[i]? = some q) (hne : (!(eqPort p q)) = false) :
    AL PG GL 0 (loopAt PG 12 0) (rsS a b i) .normal (rsS a b (i + 1)) :=
  al_of {path := [true, false], orc := [.elem p.ds, .elem q.ds], eds := [.keep [2, 3, 5], .re [0, 1], .unlit], says := [.d (.t 5) (dI .i64 (i + 1 : Nat))]}
    (.cons (lt_row h) <| .cons free_rs1 <| .cons (nn i) <| .cons (row_lt (f := Port.ds) h) <| .cons (row_get (f := Port.ds) hp) <| .cons (nn i) <| .cons (row_lt (f := Port.ds) (by omega : i < b.ports.length)) <| .cons (row_get (f := Port.ds) hq) <| .cons hne <| .cons (next_i h (by omega)) <| .nil) (by kernel_rfl)
theorem rs_stop (a b : Tree) (hl : a.ports.length ≤ 1000000) (hlen : b.ports.length = a.ports.length) {i : Nat} (h : i < a.ports.length) {p q : Port} (hp : a.ports[i]? = some p) (hq : b.ports[i]? = some q) (hne : (!(eqPort p q)) = true) :
    AL PG GL 0 (loopAt PG 12 0) (rsS a b i) .ret ⟨hd 108 [(4, vB false)], []⟩ :=
  al_of {path := [true, true], orc := [.elem p.ds, .elem q.ds], eds := [.keep [4], .re [], .unlit]}
    (.cons (lt_row h) <| .cons free_rs1 <| .cons (nn i) <| .cons (row_lt (f := Port.ds) h) <| .cons (row_get (f := Port.ds) hp) <| .cons (nn i) <| .cons (row_lt (f := Port.ds) (by omega : i < b.ports.length)) <| .cons (row_get (f := Port.ds) hq) <| .cons hne <| .nil) (by kernel_rfl)
theorem rsame_ac (a b : Tree) (hl : a.ports.length ≤ 1000000) : CX 12 [.agg a.ds, .agg b.ds] (vB (rsame a b)) := by
  unfold rsame
  cases h1 : (((rowP a.ports).length : Int) != ((rowP b.ports).length : Int))
  · cases h2 : a.own != b.own
    · cases h3 : a.root != b.root
      · cases h4 : a.cost != b.cost
        · cases h5 : a.rootPort != b.rootPort
          · cases h6 : !(eqTimes a.now b.now)
            · cases h7 : !(eqTimes a.mine b.mine)
              · cases h8 : !(a.detected == b.detected)
                · cases h9 : !(a.change == b.change)
                  · cases h10 : !(eqTimer a.hello b.hello)
                    · cases h11 : !(eqTimer a.tcn b.tcn)
                      · cases h12 : !(eqTimer a.told b.told)
                        · have hlen : b.ports.length = a.ports.length := by
                            have := h1
                            simp [rowP] at this
                            omega
                          rcases first_diff a.ports b.ports hlen with ⟨n, p, q, hn, hp, hq, hne, hb⟩ | hb
                          · rw [samePorts_at _ _ n p q hp hq hne hb]
                            have hloop : AL PG GL 0 (.loop (loopAt PG 12 0)) (rsS a b 0) .ret ⟨hd 108 [(4, vB false)], []⟩ := by
                              refine al_loop (n := n) (rsS a b) (by simp) (fun i hi => ?_) (rs_stop a b hl hlen hn hp hq hne)
                              obtain ⟨x, hx⟩ := some_at (l := a.ports) (i := i) (by omega)
                              obtain ⟨y, hy⟩ := some_at (l := b.ports) (i := i) (by omega)
                              exact rs_step a b hl hlen (by omega) hx hy (hb i x y hi hx hy)
                            exact ac_of {path := [false, false, false, false, false, false, false, false, false, false, false, false], orc := [], ls := [⟨[.keep [2, 3, 5], .re [0, 1], .unlit], [], .ret, ⟨hd 108 [(4, vB false)], []⟩⟩]}
                              (.cons h1 <| .cons h2 <| .cons h3 <| .cons h4 <| .cons h5 <| .cons h6 <| .cons h7 <| .cons h8 <| .cons h9 <| .cons h10 <| .cons h11 <| .cons h12 <| .cons hloop <| .nil) (by kernel_rfl)
                          · rw [samePorts_all _ _ hb]
                            have hloop : AL PG GL 0 (.loop (loopAt PG 12 0)) (rsS a b 0) (.exit 0) ⟨hd 108 [], []⟩ := by
                              refine al_loop (n := a.ports.length) (rsS a b) (by simp) (fun i hi => ?_) ?_
                              · obtain ⟨x, hx⟩ := some_at (l := a.ports) (i := i) (by omega)
                                obtain ⟨y, hy⟩ := some_at (l := b.ports) (i := i) (by omega)
                                exact rs_step a b hl hlen (by omega) hx hy (hb i x y hx hy)
                              · exact al_of {path := [false], eds := [.keep [], .re []]} (.cons (lt_rowff a.ports) <| .nil) (by kernel_rfl)
                            exact ac_of {path := [false, false, false, false, false, false, false, false, false, false, false, false], orc := [], ls := [⟨[.keep [2, 3, 5], .re [0, 1], .unlit], [], .exit 0, ⟨hd 108 [], []⟩⟩]}
                              (.cons h1 <| .cons h2 <| .cons h3 <| .cons h4 <| .cons h5 <| .cons h6 <| .cons h7 <| .cons h8 <| .cons h9 <| .cons h10 <| .cons h11 <| .cons h12 <| .cons hloop <| .nil) (by kernel_rfl)
                        · exact ac_of {path := [false, false, false, false, false, false, false, false, false, false, false, true], orc := []} (.cons h1 <| .cons h2 <| .cons h3 <| .cons h4 <| .cons h5 <| .cons h6 <| .cons h7 <| .cons h8 <| .cons h9 <| .cons h10 <| .cons h11 <| .cons h12 <| .nil) (by kernel_rfl)
                      · exact ac_of {path := [false, false, false, false, false, false, false, false, false, false, true], orc := []} (.cons h1 <| .cons h2 <| .cons h3 <| .cons h4 <| .cons h5 <| .cons h6 <| .cons h7 <| .cons h8 <| .cons h9 <| .cons h10 <| .cons h11 <| .nil) (by kernel_rfl)
                    · exact ac_of {path := [false, false, false, false, false, false, false, false, false, true], orc := []} (.cons h1 <| .cons h2 <| .cons h3 <| .cons h4 <| .cons h5 <| .cons h6 <| .cons h7 <| .cons h8 <| .cons h9 <| .cons h10 <| .nil) (by kernel_rfl)
                  · exact ac_of {path := [false, false, false, false, false, false, false, false, true], orc := []} (.cons h1 <| .cons h2 <| .cons h3 <| .cons h4 <| .cons h5 <| .cons h6 <| .cons h7 <| .cons h8 <| .cons h9 <| .nil) (by kernel_rfl)
                · exact ac_of {path := [false, false, false, false, false, false, false, true], orc := []} (.cons h1 <| .cons h2 <| .cons h3 <| .cons h4 <| .cons h5 <| .cons h6 <| .cons h7 <| .cons h8 <| .nil) (by kernel_rfl)
              · exact ac_of {path := [false, false, false, false, false, false, true], orc := []} (.cons h1 <| .cons h2 <| .cons h3 <| .cons h4 <| .cons h5 <| .cons h6 <| .cons h7 <| .nil) (by kernel_rfl)
            · exact ac_of {path := [false, false, false, false, false, true], orc := []} (.cons h1 <| .cons h2 <| .cons h3 <| .cons h4 <| .cons h5 <| .cons h6 <| .nil) (by kernel_rfl)
          · exact ac_of {path := [false, false, false, false, true], orc := []} (.cons h1 <| .cons h2 <| .cons h3 <| .cons h4 <| .cons h5 <| .nil) (by kernel_rfl)
        · exact ac_of {path := [false, false, false, true], orc := []} (.cons h1 <| .cons h2 <| .cons h3 <| .cons h4 <| .nil) (by kernel_rfl)
      · exact ac_of {path := [false, false, true], orc := []} (.cons h1 <| .cons h2 <| .cons h3 <| .nil) (by kernel_rfl)
    · exact ac_of {path := [false, true], orc := []} (.cons h1 <| .cons h2 <| .nil) (by kernel_rfl)
  · exact ac_of {path := [true], orc := []} (.cons h1 <| .nil) (by kernel_rfl)
end Go.Proofs.Ytdffdnbkinpbiaa
