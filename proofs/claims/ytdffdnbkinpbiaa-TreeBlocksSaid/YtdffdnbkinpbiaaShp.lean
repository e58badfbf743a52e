import Derived.Test.YtdffdnbkinpbiaaSxS19
import Derived.Test.YtdffdnbkinpbiaaBase
set_option linter.unusedVariables false
set_option linter.unusedSimpArgs false
set_option maxRecDepth 100000
namespace Go.Proofs.Ytdffdnbkinpbiaa
open Go Go.RowKit Sx

/-! What a row reads, as structures -/
abbrev wfI (k : IntKind) (n : Int) : Prop := (Lit.int k n).wf = true
def Timer.ok (t : Timer) : Prop := wfI .i64 t.val
def Vect.ok (v : Vect) : Prop := wfI .u64 v.root ∧ wfI .u32 v.cost ∧ wfI .u64 v.bridge ∧ wfI .u16 v.port
def Port.ok (p : Port) : Prop := wfI .u16 p.id ∧ wfI .i64 p.state ∧ wfI .u32 p.cost ∧ p.held.ok ∧ p.age.ok ∧ p.delay.ok ∧ p.hold.ok
def Times.ok (t : Times) : Prop := wfI .i64 t.maxAge ∧ wfI .i64 t.hello ∧ wfI .i64 t.delay
def Tree.ok (t : Tree) : Prop := wfI .u64 t.own ∧ wfI .u64 t.root ∧ wfI .u32 t.cost ∧ wfI .i64 t.rootPort ∧ t.now.ok ∧ t.mine.ok ∧ t.hello.ok ∧ t.tcn.ok ∧ t.told.ok ∧ t.ports.length ≤ maxLen ∧ ∀ p ∈ t.ports, p.ok
section
variable {n : Nat} {ds : List D}
theorem shp_bool (h : Shp PG (n + 1) 4 ds) : ∃ b, ds = [dB b] := by
  simp only [Shp, Try.underlying4] at h
  exact h
theorem shp_int (h : Shp PG (n + 1) 3 ds) : ∃ x, wfI .i64 x ∧ ds = [dI .i64 x] := by
  simp only [Shp, Try.underlying3] at h
  exact h
theorem shp_u32 (h : Shp PG (n + 1) 24 ds) : ∃ x, wfI .u32 x ∧ ds = [dI .u32 x] := by
  simp only [Shp, Try.underlying24] at h
  exact h
theorem shp_bid (h : Shp PG (n + 1) 23 ds) : ∃ x, wfI .u64 x ∧ ds = [dI .u64 x] := by
  simp only [Shp, Try.underlying23] at h
  exact h
theorem shp_pid (h : Shp PG (n + 1) 38 ds) : ∃ x, wfI .u16 x ∧ ds = [dI .u16 x] := by
  simp only [Shp, Try.underlying38] at h
  exact h
theorem shp_timer (h : Shp PG (n + 2) 28 ds) : ∃ t : Timer, t.ok ∧ ds = t.ds := by
  rw [Shp, Try.underlying28] at h
  simp only [ShpF] at h
  obtain ⟨_, _, rfl, h1, _, _, rfl, h2, rfl⟩ := h
  obtain ⟨a, rfl⟩ := shp_bool (n := n) h1
  obtain ⟨b, w, rfl⟩ := shp_int h2
  exact ⟨⟨a, b⟩, w, rfl⟩
theorem shp_vect (h : Shp PG (n + 2) 40 ds) : ∃ t : Vect, t.ok ∧ ds = t.ds := by
  rw [Shp, Try.underlying40] at h
  simp only [ShpF] at h
  obtain ⟨_, _, rfl, h1, _, _, rfl, h2, _, _, rfl, h3, _, _, rfl, h4, rfl⟩ := h
  obtain ⟨a, w1, rfl⟩ := shp_bid h1
  obtain ⟨b, w2, rfl⟩ := shp_u32 h2
  obtain ⟨c, w3, rfl⟩ := shp_bid h3
  obtain ⟨d, w4, rfl⟩ := shp_pid h4
  exact ⟨⟨a, b, c, d⟩, ⟨w1, w2, w3, w4⟩, rfl⟩
theorem shp_times (h : Shp PG (n + 2) 26 ds) : ∃ t : Times, t.ok ∧ ds = t.ds := by
  rw [Shp, Try.underlying26] at h
  simp only [ShpF] at h
  obtain ⟨_, _, rfl, h1, _, _, rfl, h2, _, _, rfl, h3, rfl⟩ := h
  obtain ⟨a, w1, rfl⟩ := shp_int h1
  obtain ⟨b, w2, rfl⟩ := shp_int h2
  obtain ⟨c, w3, rfl⟩ := shp_int h3
  exact ⟨⟨a, b, c⟩, ⟨w1, w2, w3⟩, rfl⟩
theorem shp_port (h : Shp PG (n + 3) 42 ds) : ∃ t : Port, t.ok ∧ ds = t.ds := by
  rw [Shp, Try.underlying42] at h
  simp only [ShpF] at h
  obtain ⟨_, _, rfl, h1, _, _, rfl, h2, _, _, rfl, h3, _, _, rfl, h4, _, _, rfl, h5, _, _, rfl, h6, _, _, rfl, h7, _, _, rfl, h8, _, _, rfl, h9, rfl⟩ := h
  obtain ⟨a, w1, rfl⟩ := shp_pid h1
  obtain ⟨b, w2, rfl⟩ := shp_int h2
  obtain ⟨c, w3, rfl⟩ := shp_u32 h3
  obtain ⟨d, w4, rfl⟩ := shp_vect (n := n) h4
  obtain ⟨e, rfl⟩ := shp_bool h5
  obtain ⟨f, rfl⟩ := shp_bool h6
  obtain ⟨g, w7, rfl⟩ := shp_timer (n := n) h7
  obtain ⟨i, w8, rfl⟩ := shp_timer (n := n) h8
  obtain ⟨j, w9, rfl⟩ := shp_timer (n := n) h9
  exact ⟨⟨a, b, c, d, e, f, g, i, j⟩, ⟨w1, w2, w3, w4, w7, w8, w9⟩, by simp [Port.ds]⟩
theorem rows_of {α : Type} {ok : α → Prop} {f : α → List D} : ∀ (els : List (List D)), (∀ el ∈ els, ∃ x, ok x ∧ el = f x) → ∃ l : List α, (∀ x ∈ l, ok x) ∧ els = l.map f
  | [], _ => ⟨[], by simp, rfl⟩
  | el :: els, h => by
    obtain ⟨x, h1, h2⟩ := h el (by simp)
    obtain ⟨l, h3, h4⟩ := rows_of els fun e he => h e (by simp [he])
    refine ⟨x :: l, ?_, by simp [h2, h4]⟩
    intro y hy
    rcases List.mem_cons.1 hy with rfl | hy
    · exact h1
    · exact h3 y hy
theorem shp_ports (h : Shp PG (n + 4) 29 ds) : ∃ l : List Port, l.length ≤ maxLen ∧ (∀ p ∈ l, p.ok) ∧ ds = [.row (rowP l)] := by
  rw [Shp, Try.underlying29] at h
  simp only at h
  obtain ⟨els, rfl, h1, h2⟩ := h
  obtain ⟨l, h3, h4⟩ := rows_of (ok := Port.ok) (f := Port.ds) els fun el hel => shp_port (n := n) (h2 el hel)
  subst h4
  exact ⟨l, by simpa using h1, h3, rfl⟩
theorem shp_tree (h : Shp PG (n + 5) 31 ds) : ∃ t : Tree, t.ok ∧ ds = t.ds := by
  rw [Shp, Try.underlying31] at h
  simp only [ShpF] at h
  obtain ⟨_, _, rfl, h1, _, _, rfl, h2, _, _, rfl, h3, _, _, rfl, h4, _, _, rfl, h5, _, _, rfl, h6, _, _, rfl, h7, _, _, rfl, h8, _, _, rfl, h9, _, _, rfl, h10, _, _, rfl, h11, _, _, rfl, h12, rfl⟩ := h
  obtain ⟨a, w1, rfl⟩ := shp_bid h1
  obtain ⟨b, w2, rfl⟩ := shp_bid h2
  obtain ⟨c, w3, rfl⟩ := shp_u32 h3
  obtain ⟨d, w4, rfl⟩ := shp_int h4
  obtain ⟨e, w5, rfl⟩ := shp_times (n := n + 2) h5
  obtain ⟨f, w6, rfl⟩ := shp_times (n := n + 2) h6
  obtain ⟨g, rfl⟩ := shp_bool h7
  obtain ⟨i, rfl⟩ := shp_bool h8
  obtain ⟨j, w9, rfl⟩ := shp_timer (n := n + 2) h9
  obtain ⟨k, w10, rfl⟩ := shp_timer (n := n + 2) h10
  obtain ⟨l, w11, rfl⟩ := shp_timer (n := n + 2) h11
  obtain ⟨m, w12, w13, rfl⟩ := shp_ports (n := n) h12
  exact ⟨⟨a, b, c, d, e, f, g, i, j, k, l, m⟩, ⟨w1, w2, w3, w4, w5, w6, w9, w10, w11, w12, w13⟩, by simp [Tree.ds, Tree.hs]⟩
end
end Go.Proofs.Ytdffdnbkinpbiaa
