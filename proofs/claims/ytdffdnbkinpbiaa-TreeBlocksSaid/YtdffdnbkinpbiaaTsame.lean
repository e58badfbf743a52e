import Derived.Test.YtdffdnbkinpbiaaEq
set_option linter.unusedVariables false
set_option linter.unusedSimpArgs false
namespace Go.Proofs.Ytdffdnbkinpbiaa
open Go Go.RowKit Sx

/-! tree.Same -/
def tsS (a b : Tree) (i : Nat) : St := ⟨hd 93 [(2, .ptr 0 0), (3, .ptr 1 0), (78, .d (.row (rowP a.ports))), (79, vI .i64 a.ports.length), (80, vI .i64 i)], [.box (a.ds.map .d), .box (b.ds.map .d)]⟩
def same (a b : Tree) : Bool :=
  bif (((rowP a.ports).length : Int) != ((rowP b.ports).length : Int)) then false else bif !(eqVect (telling a) (telling b)) then false else bif a.rootPort != b.rootPort then false else bif !(eqTimes a.now b.now) then false else bif !(eqTimes a.mine b.mine) then false else bif !(a.detected == b.detected) then false else bif !(a.change == b.change) then false else bif !(eqTimer a.hello b.hello) then false else bif !(eqTimer a.tcn b.tcn) then false else bif !(eqTimer a.told b.told) then false else samePorts a.ports b.ports
theorem free_ts1 : staticOk (opsAt PG 10 6) = true := by kernel_rfl
theorem free_ts0 : staticOk (opsAt PG 10 1) = true := by kernel_rfl
theorem ts_step (a b : Tree) (hl : a.ports.length ≤ 1000000) (hlen : b.ports.length = a.ports.length) {i : Nat} (h : i < a.ports.length) {p q : Port} (hp : a.ports[i]? = some p) (hq : b.ports[i]? = some q) (hne : (!(eqPort p q)) = false) :
    AL PG GL 0 (loopAt PG 10 0) (tsS a b i) .normal (tsS a b (i + 1)) :=
  al_of {path := [true, false], orc := [.elem p.ds, .elem q.ds], eds := [.keep [2, 3, 78, 79, 80], .re [0, 1], .unlit], says := [.d (.t 80) (dI .i64 (i + 1 : Nat))]}
    (.cons (lt_t h) <| .cons (nn i) <| .cons (row_lt (f := Port.ds) h) <| .cons (row_get (f := Port.ds) hp) <| .cons free_ts1 <| .cons (nn i) <| .cons (row_lt (f := Port.ds) (by omega : i < b.ports.length)) <| .cons (row_get (f := Port.ds) hq) <| .cons hne <| .cons (next_i h (by omega)) <| .nil) (by kernel_rfl)
theorem ts_stop (a b : Tree) (hl : a.ports.length ≤ 1000000) (hlen : b.ports.length = a.ports.length) {i : Nat} (h : i < a.ports.length) {p q : Port} (hp : a.ports[i]? = some p) (hq : b.ports[i]? = some q) (hne : (!(eqPort p q)) = true) :
    AL PG GL 0 (loopAt PG 10 0) (tsS a b i) .ret ⟨hd 93 [(4, vB false)], []⟩ :=
  al_of {path := [true, true], orc := [.elem p.ds, .elem q.ds], eds := [.keep [4], .re [], .unlit]}
    (.cons (lt_t h) <| .cons (nn i) <| .cons (row_lt (f := Port.ds) h) <| .cons (row_get (f := Port.ds) hp) <| .cons free_ts1 <| .cons (nn i) <| .cons (row_lt (f := Port.ds) (by omega : i < b.ports.length)) <| .cons (row_get (f := Port.ds) hq) <| .cons hne <| .nil) (by kernel_rfl)
theorem same_ac (a b : Tree) (hl : a.ports.length ≤ 1000000) : CX 10 [.agg a.ds, .agg b.ds] (vB (same a b)) := by
  unfold same
  cases h1 : (((rowP a.ports).length : Int) != ((rowP b.ports).length : Int))
  · cases h2 : !(eqVect (telling a) (telling b))
    · cases h3 : a.rootPort != b.rootPort
      · cases h4 : !(eqTimes a.now b.now)
        · cases h5 : !(eqTimes a.mine b.mine)
          · cases h6 : !(a.detected == b.detected)
            · cases h7 : !(a.change == b.change)
              · cases h8 : !(eqTimer a.hello b.hello)
                · cases h9 : !(eqTimer a.tcn b.tcn)
                  · cases h10 : !(eqTimer a.told b.told)
                    · have hlen : b.ports.length = a.ports.length := by
                        have := h1
                        simp [rowP] at this
                        omega
                      rcases first_diff a.ports b.ports hlen with ⟨n, p, q, hn, hp, hq, hne, hb⟩ | hb
                      · rw [samePorts_at _ _ n p q hp hq hne hb]
                        have hloop : AL PG GL 0 (.loop (loopAt PG 10 0)) (tsS a b 0) .ret ⟨hd 93 [(4, vB false)], []⟩ := by
                          refine al_loop (n := n) (tsS a b) (by simp) (fun i hi => ?_) (ts_stop a b hl hlen hn hp hq hne)
                          obtain ⟨x, hx⟩ := some_at (l := a.ports) (i := i) (by omega)
                          obtain ⟨y, hy⟩ := some_at (l := b.ports) (i := i) (by omega)
                          exact ts_step a b hl hlen (by omega) hx hy (hb i x y hi hx hy)
                        exact ac_of {path := [false, false, false, false, false, false, false, false, false, false], orc := [cal (sA (telling a).ds), cal (sA (telling b).ds)], ls := [⟨[.keep [2, 3, 78, 79, 80], .re [0, 1], .unlit], [.d (.t 79) (dI .i64 a.ports.length)], .ret, ⟨hd 93 [(4, vB false)], []⟩⟩]}
                          (.cons free_ts0 <| .cons h1 <| .cons (telling_ac a) <| .cons (telling_ac b) <| .cons h2 <| .cons h3 <| .cons h4 <| .cons h5 <| .cons h6 <| .cons h7 <| .cons h8 <| .cons h9 <| .cons h10 <| .cons (rowP_len a.ports) <| .cons hloop <| .nil) (by kernel_rfl)
                      · rw [samePorts_all _ _ hb]
                        have hloop : AL PG GL 0 (.loop (loopAt PG 10 0)) (tsS a b 0) (.exit 0) ⟨hd 93 [], []⟩ := by
                          refine al_loop (n := a.ports.length) (tsS a b) (by simp) (fun i hi => ?_) ?_
                          · obtain ⟨x, hx⟩ := some_at (l := a.ports) (i := i) (by omega)
                            obtain ⟨y, hy⟩ := some_at (l := b.ports) (i := i) (by omega)
                            exact ts_step a b hl hlen (by omega) hx hy (hb i x y hx hy)
                          · exact al_of {path := [false], eds := [.keep [], .re []]} (.cons (lt_ff a.ports.length) <| .nil) (by kernel_rfl)
                        exact ac_of {path := [false, false, false, false, false, false, false, false, false, false], orc := [cal (sA (telling a).ds), cal (sA (telling b).ds)], ls := [⟨[.keep [2, 3, 78, 79, 80], .re [0, 1], .unlit], [.d (.t 79) (dI .i64 a.ports.length)], .exit 0, ⟨hd 93 [], []⟩⟩]}
                          (.cons free_ts0 <| .cons h1 <| .cons (telling_ac a) <| .cons (telling_ac b) <| .cons h2 <| .cons h3 <| .cons h4 <| .cons h5 <| .cons h6 <| .cons h7 <| .cons h8 <| .cons h9 <| .cons h10 <| .cons (rowP_len a.ports) <| .cons hloop <| .nil) (by kernel_rfl)
                    · exact ac_of {path := [false, false, false, false, false, false, false, false, false, true], orc := [cal (sA (telling a).ds), cal (sA (telling b).ds)]} (.cons free_ts0 <| .cons h1 <| .cons (telling_ac a) <| .cons (telling_ac b) <| .cons h2 <| .cons h3 <| .cons h4 <| .cons h5 <| .cons h6 <| .cons h7 <| .cons h8 <| .cons h9 <| .cons h10 <| .nil) (by kernel_rfl)
                  · exact ac_of {path := [false, false, false, false, false, false, false, false, true], orc := [cal (sA (telling a).ds), cal (sA (telling b).ds)]} (.cons free_ts0 <| .cons h1 <| .cons (telling_ac a) <| .cons (telling_ac b) <| .cons h2 <| .cons h3 <| .cons h4 <| .cons h5 <| .cons h6 <| .cons h7 <| .cons h8 <| .cons h9 <| .nil) (by kernel_rfl)
                · exact ac_of {path := [false, false, false, false, false, false, false, true], orc := [cal (sA (telling a).ds), cal (sA (telling b).ds)]} (.cons free_ts0 <| .cons h1 <| .cons (telling_ac a) <| .cons (telling_ac b) <| .cons h2 <| .cons h3 <| .cons h4 <| .cons h5 <| .cons h6 <| .cons h7 <| .cons h8 <| .nil) (by kernel_rfl)
              · exact ac_of {path := [false, false, false, false, false, false, true], orc := [cal (sA (telling a).ds), cal (sA (telling b).ds)]} (.cons free_ts0 <| .cons h1 <| .cons (telling_ac a) <| .cons (telling_ac b) <| .cons h2 <| .cons h3 <| .cons h4 <| .cons h5 <| .cons h6 <| .cons h7 <| .nil) (by kernel_rfl)
            · exact ac_of {path := [false, false, false, false, false, true], orc := [cal (sA (telling a).ds), cal (sA (telling b).ds)]} (.cons free_ts0 <| .cons h1 <| .cons (telling_ac a) <| .cons (telling_ac b) <| .cons h2 <| .cons h3 <| .cons h4 <| .cons h5 <| .cons h6 <| .nil) (by kernel_rfl)
          · exact ac_of {path := [false, false, false, false, true], orc := [cal (sA (telling a).ds), cal (sA (telling b).ds)]} (.cons free_ts0 <| .cons h1 <| .cons (telling_ac a) <| .cons (telling_ac b) <| .cons h2 <| .cons h3 <| .cons h4 <| .cons h5 <| .nil) (by kernel_rfl)
        · exact ac_of {path := [false, false, false, true], orc := [cal (sA (telling a).ds), cal (sA (telling b).ds)]} (.cons free_ts0 <| .cons h1 <| .cons (telling_ac a) <| .cons (telling_ac b) <| .cons h2 <| .cons h3 <| .cons h4 <| .nil) (by kernel_rfl)
      · exact ac_of {path := [false, false, true], orc := [cal (sA (telling a).ds), cal (sA (telling b).ds)]} (.cons free_ts0 <| .cons h1 <| .cons (telling_ac a) <| .cons (telling_ac b) <| .cons h2 <| .cons h3 <| .nil) (by kernel_rfl)
    · exact ac_of {path := [false, true], orc := [cal (sA (telling a).ds), cal (sA (telling b).ds)]} (.cons free_ts0 <| .cons h1 <| .cons (telling_ac a) <| .cons (telling_ac b) <| .cons h2 <| .nil) (by kernel_rfl)
  · exact ac_of {path := [true], orc := []} (.cons free_ts0 <| .cons h1 <| .nil) (by kernel_rfl)
end Go.Proofs.Ytdffdnbkinpbiaa
