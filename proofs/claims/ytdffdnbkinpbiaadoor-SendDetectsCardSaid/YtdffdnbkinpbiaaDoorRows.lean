/-
  NARROWER THAN 'FOR EVERY INPUT', by the rows' own cells (each row's printed sentence says how): SendOnce: laid · SendDetects: laid · SendOlder: laid · HeardBetter: laid · HeardReplies: laid · HeardTwice: laid · TickPlays: laid · TickAges: laid · TickRises: laid · TickQuiet: laid · TickHellos: laid · HeardAcks: laid.
  DERIVED. THE GIVEN ROWS OF THIS SEAT. 12 by the template 'for every input the law returns true; each argument reads behind the call as it read before'; 0 by the template 'total and deterministic' (their statements: YtdffdnbkinpbiaaDoorTotals.lean).
  GIVEN WITH THE SEED: the statements are not yours to turn. If you find one false, say at which input.
  Laid BY PROGRAM, IN A SANDBOX (cutbox-rows.mjs): the forced cells as the released guide's own fill.sh prints them over the translation d6fe2cffeeeea477… (all of the seat's roots in one cut). By AI agents, Wed Nov 11 2026. No macro, syntax, notation, axiom, sorry.
-/
import Derived.Test.YtdffdnbkinpbiaaDoorChecked
import GoSem.Claim
import GoSem.ClaimJoined
import GoSem.ClaimMapViews
import Derived.JoinedTies
import Derived.KernelRfl
namespace Go.Proofs.YtdffdnbkinpbiaaDoor
/- THE CELL 'sum', in the pinned program and in every row, IS THE sha256 OF THE DUMP (.gsa) THAT YtdffdnbkinpbiaaDoorProg.lean LOADS. Nothing in Lean hashes anything: it is a label: what it is worth is what the hold of that sum in a sandbox is worth. -/
noncomputable def Tryd.pinned : Pinned := { name := "ytdffdnbkinpbiaadoor", sum := "d6fe2cffeeeea4778e7d829a78eba4af626677ddbdbe4830628b1e33727501e6", checked := Tryd.checked }
namespace Rows
def none {H : Type} : Left H := { results := [], args := [] }

/- WHAT THE LISTED PACKAGE-LEVEL VARIABLES READ AS WHEN THE CALL BEGINS. Each datum BY PROGRAM (the guide's laid-datum.mjs) off the statement by which the dump's own 'gosem.cut.vars' lays the variable. In a bare row this is a premise. The card (YtdffdnbkinpbiaaDoorCards.lean) ties it to the program's text. -/
def laid_treeline_frame_llc {H : Type} : DataW H := .agg [.lit (.int .u8 66), .lit (.int .u8 66), .lit (.int .u8 3)]

/-- 'treelinelaw14.SendOnce': WHATEVER THE INPUT: true; the input reads as it did. -/
def sendOnceSpec : ChangeSpec := { name := "sendOnce", fn := fun _ => fun
  | [d] => { results := [.lit (.bool true)], args := [d] }
  | _ => none }
def sendOnceRow : OpenClaim := { program := "ytdffdnbkinpbiaadoor", sum := "d6fe2cffeeeea4778e7d829a78eba4af626677ddbdbe4830628b1e33727501e6", func := "treeline/treelinelaw14.SendOnce", spec := "sendOnce", named := ["treeline/frame.llc"], apart := false, laid := [("treeline/frame.llc", laid_treeline_frame_llc)] }
def SendOnceSaid : Prop := sendOnceRow.holds Tryd.pinned (OpenSpec.ofChange sendOnceSpec)

/-- ITS FALSE NEIGHBOUR: 'it returns false'. Refute it at one input. -/
def sendOnceWrong : ChangeSpec := { name := "sendOnce", fn := fun _ => fun
  | [d] => { results := [.lit (.bool false)], args := [d] }
  | _ => none }
def SendOnceWrongFalsely : Prop := sendOnceRow.holds Tryd.pinned (OpenSpec.ofChange sendOnceWrong)

/-- 'treelinelaw14.SendDetects': WHATEVER THE INPUT: true; the input reads as it did. -/
def sendDetectsSpec : ChangeSpec := { name := "sendDetects", fn := fun _ => fun
  | [d] => { results := [.lit (.bool true)], args := [d] }
  | _ => none }
def sendDetectsRow : OpenClaim := { program := "ytdffdnbkinpbiaadoor", sum := "d6fe2cffeeeea4778e7d829a78eba4af626677ddbdbe4830628b1e33727501e6", func := "treeline/treelinelaw14.SendDetects", spec := "sendDetects", recurses := true, named := ["treeline/frame.llc"], apart := false, laid := [("treeline/frame.llc", laid_treeline_frame_llc)] }
def SendDetectsSaid : Prop := sendDetectsRow.holds Tryd.pinned (OpenSpec.ofChange sendDetectsSpec)

/-- ITS FALSE NEIGHBOUR: 'it returns false'. Refute it at one input. -/
def sendDetectsWrong : ChangeSpec := { name := "sendDetects", fn := fun _ => fun
  | [d] => { results := [.lit (.bool false)], args := [d] }
  | _ => none }
def SendDetectsWrongFalsely : Prop := sendDetectsRow.holds Tryd.pinned (OpenSpec.ofChange sendDetectsWrong)

/-- 'treelinelaw14.SendOlder': WHATEVER THE INPUT: true; the input reads as it did. -/
def sendOlderSpec : ChangeSpec := { name := "sendOlder", fn := fun _ => fun
  | [d] => { results := [.lit (.bool true)], args := [d] }
  | _ => none }
def sendOlderRow : OpenClaim := { program := "ytdffdnbkinpbiaadoor", sum := "d6fe2cffeeeea4778e7d829a78eba4af626677ddbdbe4830628b1e33727501e6", func := "treeline/treelinelaw14.SendOlder", spec := "sendOlder", named := ["treeline/frame.llc"], apart := false, laid := [("treeline/frame.llc", laid_treeline_frame_llc)] }
def SendOlderSaid : Prop := sendOlderRow.holds Tryd.pinned (OpenSpec.ofChange sendOlderSpec)

/-- ITS FALSE NEIGHBOUR: 'it returns false'. Refute it at one input. -/
def sendOlderWrong : ChangeSpec := { name := "sendOlder", fn := fun _ => fun
  | [d] => { results := [.lit (.bool false)], args := [d] }
  | _ => none }
def SendOlderWrongFalsely : Prop := sendOlderRow.holds Tryd.pinned (OpenSpec.ofChange sendOlderWrong)

/-- 'treelinelaw15.HeardBetter': WHATEVER THE INPUT: true; the input reads as it did. -/
def heardBetterSpec : ChangeSpec := { name := "heardBetter", fn := fun _ => fun
  | [d1, d2, d3] => { results := [.lit (.bool true)], args := [d1, d2, d3] }
  | _ => none }
def heardBetterRow : OpenClaim := { program := "ytdffdnbkinpbiaadoor", sum := "d6fe2cffeeeea4778e7d829a78eba4af626677ddbdbe4830628b1e33727501e6", func := "treeline/treelinelaw15.HeardBetter", spec := "heardBetter", named := ["treeline/frame.llc"], apart := false, laid := [("treeline/frame.llc", laid_treeline_frame_llc)] }
def HeardBetterSaid : Prop := heardBetterRow.holds Tryd.pinned (OpenSpec.ofChange heardBetterSpec)

/-- ITS FALSE NEIGHBOUR: 'it returns false'. Refute it at one input. -/
def heardBetterWrong : ChangeSpec := { name := "heardBetter", fn := fun _ => fun
  | [d1, d2, d3] => { results := [.lit (.bool false)], args := [d1, d2, d3] }
  | _ => none }
def HeardBetterWrongFalsely : Prop := heardBetterRow.holds Tryd.pinned (OpenSpec.ofChange heardBetterWrong)

/-- 'treelinelaw15.HeardReplies': WHATEVER THE INPUT: true; the input reads as it did. -/
def heardRepliesSpec : ChangeSpec := { name := "heardReplies", fn := fun _ => fun
  | [d1, d2, d3] => { results := [.lit (.bool true)], args := [d1, d2, d3] }
  | _ => none }
def heardRepliesRow : OpenClaim := { program := "ytdffdnbkinpbiaadoor", sum := "d6fe2cffeeeea4778e7d829a78eba4af626677ddbdbe4830628b1e33727501e6", func := "treeline/treelinelaw15.HeardReplies", spec := "heardReplies", named := ["treeline/frame.llc"], apart := false, laid := [("treeline/frame.llc", laid_treeline_frame_llc)] }
def HeardRepliesSaid : Prop := heardRepliesRow.holds Tryd.pinned (OpenSpec.ofChange heardRepliesSpec)

/-- ITS FALSE NEIGHBOUR: 'it returns false'. Refute it at one input. -/
def heardRepliesWrong : ChangeSpec := { name := "heardReplies", fn := fun _ => fun
  | [d1, d2, d3] => { results := [.lit (.bool false)], args := [d1, d2, d3] }
  | _ => none }
def HeardRepliesWrongFalsely : Prop := heardRepliesRow.holds Tryd.pinned (OpenSpec.ofChange heardRepliesWrong)

/-- 'treelinelaw15.HeardTwice': WHATEVER THE INPUT: true; the input reads as it did. -/
def heardTwiceSpec : ChangeSpec := { name := "heardTwice", fn := fun _ => fun
  | [d1, d2, d3] => { results := [.lit (.bool true)], args := [d1, d2, d3] }
  | _ => none }
def heardTwiceRow : OpenClaim := { program := "ytdffdnbkinpbiaadoor", sum := "d6fe2cffeeeea4778e7d829a78eba4af626677ddbdbe4830628b1e33727501e6", func := "treeline/treelinelaw15.HeardTwice", spec := "heardTwice", named := ["treeline/frame.llc"], apart := false, laid := [("treeline/frame.llc", laid_treeline_frame_llc)] }
def HeardTwiceSaid : Prop := heardTwiceRow.holds Tryd.pinned (OpenSpec.ofChange heardTwiceSpec)

/-- ITS FALSE NEIGHBOUR: 'it returns false'. Refute it at one input. -/
def heardTwiceWrong : ChangeSpec := { name := "heardTwice", fn := fun _ => fun
  | [d1, d2, d3] => { results := [.lit (.bool false)], args := [d1, d2, d3] }
  | _ => none }
def HeardTwiceWrongFalsely : Prop := heardTwiceRow.holds Tryd.pinned (OpenSpec.ofChange heardTwiceWrong)

/-- 'treelinelaw16.TickPlays': WHATEVER THE INPUT: true; the input reads as it did. -/
def tickPlaysSpec : ChangeSpec := { name := "tickPlays", fn := fun _ => fun
  | [d] => { results := [.lit (.bool true)], args := [d] }
  | _ => none }
def tickPlaysRow : OpenClaim := { program := "ytdffdnbkinpbiaadoor", sum := "d6fe2cffeeeea4778e7d829a78eba4af626677ddbdbe4830628b1e33727501e6", func := "treeline/treelinelaw16.TickPlays", spec := "tickPlays", unfollowed := true, recurses := true, named := ["treeline/frame.llc"], apart := false, laid := [("treeline/frame.llc", laid_treeline_frame_llc)] }
def TickPlaysSaid : Prop := tickPlaysRow.holds Tryd.pinned (OpenSpec.ofChange tickPlaysSpec)

/-- ITS FALSE NEIGHBOUR: 'it returns false'. Refute it at one input. -/
def tickPlaysWrong : ChangeSpec := { name := "tickPlays", fn := fun _ => fun
  | [d] => { results := [.lit (.bool false)], args := [d] }
  | _ => none }
def TickPlaysWrongFalsely : Prop := tickPlaysRow.holds Tryd.pinned (OpenSpec.ofChange tickPlaysWrong)

/-- 'treelinelaw16.TickAges': WHATEVER THE INPUT: true; the input reads as it did. -/
def tickAgesSpec : ChangeSpec := { name := "tickAges", fn := fun _ => fun
  | [d] => { results := [.lit (.bool true)], args := [d] }
  | _ => none }
def tickAgesRow : OpenClaim := { program := "ytdffdnbkinpbiaadoor", sum := "d6fe2cffeeeea4778e7d829a78eba4af626677ddbdbe4830628b1e33727501e6", func := "treeline/treelinelaw16.TickAges", spec := "tickAges", unfollowed := true, recurses := true, named := ["treeline/frame.llc"], apart := false, laid := [("treeline/frame.llc", laid_treeline_frame_llc)] }
def TickAgesSaid : Prop := tickAgesRow.holds Tryd.pinned (OpenSpec.ofChange tickAgesSpec)

/-- ITS FALSE NEIGHBOUR: 'it returns false'. Refute it at one input. -/
def tickAgesWrong : ChangeSpec := { name := "tickAges", fn := fun _ => fun
  | [d] => { results := [.lit (.bool false)], args := [d] }
  | _ => none }
def TickAgesWrongFalsely : Prop := tickAgesRow.holds Tryd.pinned (OpenSpec.ofChange tickAgesWrong)

/-- 'treelinelaw16.TickRises': WHATEVER THE INPUT: true; the input reads as it did. -/
def tickRisesSpec : ChangeSpec := { name := "tickRises", fn := fun _ => fun
  | [d] => { results := [.lit (.bool true)], args := [d] }
  | _ => none }
def tickRisesRow : OpenClaim := { program := "ytdffdnbkinpbiaadoor", sum := "d6fe2cffeeeea4778e7d829a78eba4af626677ddbdbe4830628b1e33727501e6", func := "treeline/treelinelaw16.TickRises", spec := "tickRises", unfollowed := true, recurses := true, named := ["treeline/frame.llc"], apart := false, laid := [("treeline/frame.llc", laid_treeline_frame_llc)] }
def TickRisesSaid : Prop := tickRisesRow.holds Tryd.pinned (OpenSpec.ofChange tickRisesSpec)

/-- ITS FALSE NEIGHBOUR: 'it returns false'. Refute it at one input. -/
def tickRisesWrong : ChangeSpec := { name := "tickRises", fn := fun _ => fun
  | [d] => { results := [.lit (.bool false)], args := [d] }
  | _ => none }
def TickRisesWrongFalsely : Prop := tickRisesRow.holds Tryd.pinned (OpenSpec.ofChange tickRisesWrong)

/-- 'treelinelaw16.TickQuiet': WHATEVER THE INPUT: true; the input reads as it did. -/
def tickQuietSpec : ChangeSpec := { name := "tickQuiet", fn := fun _ => fun
  | [d] => { results := [.lit (.bool true)], args := [d] }
  | _ => none }
def tickQuietRow : OpenClaim := { program := "ytdffdnbkinpbiaadoor", sum := "d6fe2cffeeeea4778e7d829a78eba4af626677ddbdbe4830628b1e33727501e6", func := "treeline/treelinelaw16.TickQuiet", spec := "tickQuiet", unfollowed := true, recurses := true, named := ["treeline/frame.llc"], apart := false, laid := [("treeline/frame.llc", laid_treeline_frame_llc)] }
def TickQuietSaid : Prop := tickQuietRow.holds Tryd.pinned (OpenSpec.ofChange tickQuietSpec)

/-- ITS FALSE NEIGHBOUR: 'it returns false'. Refute it at one input. -/
def tickQuietWrong : ChangeSpec := { name := "tickQuiet", fn := fun _ => fun
  | [d] => { results := [.lit (.bool false)], args := [d] }
  | _ => none }
def TickQuietWrongFalsely : Prop := tickQuietRow.holds Tryd.pinned (OpenSpec.ofChange tickQuietWrong)

/-- 'treelinelaw16.TickHellos': WHATEVER THE INPUT: true; the input reads as it did. -/
def tickHellosSpec : ChangeSpec := { name := "tickHellos", fn := fun _ => fun
  | [d1, d2] => { results := [.lit (.bool true)], args := [d1, d2] }
  | _ => none }
def tickHellosRow : OpenClaim := { program := "ytdffdnbkinpbiaadoor", sum := "d6fe2cffeeeea4778e7d829a78eba4af626677ddbdbe4830628b1e33727501e6", func := "treeline/treelinelaw16.TickHellos", spec := "tickHellos", unfollowed := true, recurses := true, named := ["treeline/frame.llc"], apart := false, laid := [("treeline/frame.llc", laid_treeline_frame_llc)] }
def TickHellosSaid : Prop := tickHellosRow.holds Tryd.pinned (OpenSpec.ofChange tickHellosSpec)

/-- ITS FALSE NEIGHBOUR: 'it returns false'. Refute it at one input. -/
def tickHellosWrong : ChangeSpec := { name := "tickHellos", fn := fun _ => fun
  | [d1, d2] => { results := [.lit (.bool false)], args := [d1, d2] }
  | _ => none }
def TickHellosWrongFalsely : Prop := tickHellosRow.holds Tryd.pinned (OpenSpec.ofChange tickHellosWrong)

/-- 'treelinelaw15.HeardAcks': WHATEVER THE INPUT: true; the input reads as it did. -/
def heardAcksSpec : ChangeSpec := { name := "heardAcks", fn := fun _ => fun
  | [d1, d2] => { results := [.lit (.bool true)], args := [d1, d2] }
  | _ => none }
def heardAcksRow : OpenClaim := { program := "ytdffdnbkinpbiaadoor", sum := "d6fe2cffeeeea4778e7d829a78eba4af626677ddbdbe4830628b1e33727501e6", func := "treeline/treelinelaw15.HeardAcks", spec := "heardAcks", named := ["treeline/frame.llc"], apart := false, laid := [("treeline/frame.llc", laid_treeline_frame_llc)] }
def HeardAcksSaid : Prop := heardAcksRow.holds Tryd.pinned (OpenSpec.ofChange heardAcksSpec)

/-- ITS FALSE NEIGHBOUR: 'it returns false'. Refute it at one input. -/
def heardAcksWrong : ChangeSpec := { name := "heardAcks", fn := fun _ => fun
  | [d1, d2] => { results := [.lit (.bool false)], args := [d1, d2] }
  | _ => none }
def HeardAcksWrongFalsely : Prop := heardAcksRow.holds Tryd.pinned (OpenSpec.ofChange heardAcksWrong)

/- THE SECOND FORM. 'bulk': how many values and letters a reading holds, each counted each time it is reached (what is shared counts as often as it is met; a slice's spare places count too). A statement '..UptoSaid' is the law's where the arguments, and the package variables that the reading takes, are together of bulk at most 1048576: NARROWER than '..Said'. Prove '..Said' where nothing that the law and all that it calls make is longer than what came in: it says more and counts as full. Else prove '..UptoSaid'. A law counts once. -/
mutual
def uptoBulk {H : Type} : DataW H → Nat
  | .lit (.string bytes) => bytes.length + 1
  | .lit _ => 1
  | .nil => 1
  | .ptr d => uptoBulk d + 1
  | .slice elems spare => uptoBulkAll elems + uptoBulkAll spare + 1
  | .agg parts => uptoBulkAll parts + 1
  | .iface _ d => uptoBulk d + 1
  | .map entries => uptoBulkEntries entries + 1
  | .held _ => 1
def uptoBulkAll {H : Type} : List (DataW H) → Nat
  | [] => 0
  | d :: r => uptoBulk d + uptoBulkAll r
def uptoBulkEntries {H : Type} : List (Lit × DataW H) → Nat
  | [] => 0
  | x :: r => uptoBulkEntry x + uptoBulkEntries r
def uptoBulkEntry {H : Type} : Lit × DataW H → Nat
  | (.string bytes, d) => bytes.length + uptoBulk d + 1
  | (_, d) => uptoBulk d + 1
 end
def uptoSmall : (H : Type) → List (DataW H) → Bool := fun _ ds => decide (uptoBulkAll ds ≤ 1048576)
def OpenSpec.upto (s : _root_.Go.ChangeSpec) : _root_.Go.OpenSpec := { _root_.Go.OpenSpec.ofChange s with cond := some uptoSmall }

/-- 'treelinelaw14.SendOnce', WHERE WHAT IT READS IS OF BULK AT MOST 1048576: true; the input reads as it did. -/
def sendOnceUptoRow : OpenClaim := { program := "ytdffdnbkinpbiaadoor", sum := "d6fe2cffeeeea4778e7d829a78eba4af626677ddbdbe4830628b1e33727501e6", func := "treeline/treelinelaw14.SendOnce", spec := "sendOnce", named := ["treeline/frame.llc"], apart := false, laid := [("treeline/frame.llc", laid_treeline_frame_llc)], narrowed := true }
def SendOnceUptoSaid : Prop := sendOnceUptoRow.holds Tryd.pinned (OpenSpec.upto sendOnceSpec)

/-- 'treelinelaw14.SendDetects', WHERE WHAT IT READS IS OF BULK AT MOST 1048576: true; the input reads as it did. -/
def sendDetectsUptoRow : OpenClaim := { program := "ytdffdnbkinpbiaadoor", sum := "d6fe2cffeeeea4778e7d829a78eba4af626677ddbdbe4830628b1e33727501e6", func := "treeline/treelinelaw14.SendDetects", spec := "sendDetects", recurses := true, named := ["treeline/frame.llc"], apart := false, laid := [("treeline/frame.llc", laid_treeline_frame_llc)], narrowed := true }
def SendDetectsUptoSaid : Prop := sendDetectsUptoRow.holds Tryd.pinned (OpenSpec.upto sendDetectsSpec)

/-- 'treelinelaw14.SendOlder', WHERE WHAT IT READS IS OF BULK AT MOST 1048576: true; the input reads as it did. -/
def sendOlderUptoRow : OpenClaim := { program := "ytdffdnbkinpbiaadoor", sum := "d6fe2cffeeeea4778e7d829a78eba4af626677ddbdbe4830628b1e33727501e6", func := "treeline/treelinelaw14.SendOlder", spec := "sendOlder", named := ["treeline/frame.llc"], apart := false, laid := [("treeline/frame.llc", laid_treeline_frame_llc)], narrowed := true }
def SendOlderUptoSaid : Prop := sendOlderUptoRow.holds Tryd.pinned (OpenSpec.upto sendOlderSpec)

/-- 'treelinelaw15.HeardBetter', WHERE WHAT IT READS IS OF BULK AT MOST 1048576: true; the input reads as it did. -/
def heardBetterUptoRow : OpenClaim := { program := "ytdffdnbkinpbiaadoor", sum := "d6fe2cffeeeea4778e7d829a78eba4af626677ddbdbe4830628b1e33727501e6", func := "treeline/treelinelaw15.HeardBetter", spec := "heardBetter", named := ["treeline/frame.llc"], apart := false, laid := [("treeline/frame.llc", laid_treeline_frame_llc)], narrowed := true }
def HeardBetterUptoSaid : Prop := heardBetterUptoRow.holds Tryd.pinned (OpenSpec.upto heardBetterSpec)

/-- 'treelinelaw15.HeardReplies', WHERE WHAT IT READS IS OF BULK AT MOST 1048576: true; the input reads as it did. -/
def heardRepliesUptoRow : OpenClaim := { program := "ytdffdnbkinpbiaadoor", sum := "d6fe2cffeeeea4778e7d829a78eba4af626677ddbdbe4830628b1e33727501e6", func := "treeline/treelinelaw15.HeardReplies", spec := "heardReplies", named := ["treeline/frame.llc"], apart := false, laid := [("treeline/frame.llc", laid_treeline_frame_llc)], narrowed := true }
def HeardRepliesUptoSaid : Prop := heardRepliesUptoRow.holds Tryd.pinned (OpenSpec.upto heardRepliesSpec)

/-- 'treelinelaw15.HeardTwice', WHERE WHAT IT READS IS OF BULK AT MOST 1048576: true; the input reads as it did. -/
def heardTwiceUptoRow : OpenClaim := { program := "ytdffdnbkinpbiaadoor", sum := "d6fe2cffeeeea4778e7d829a78eba4af626677ddbdbe4830628b1e33727501e6", func := "treeline/treelinelaw15.HeardTwice", spec := "heardTwice", named := ["treeline/frame.llc"], apart := false, laid := [("treeline/frame.llc", laid_treeline_frame_llc)], narrowed := true }
def HeardTwiceUptoSaid : Prop := heardTwiceUptoRow.holds Tryd.pinned (OpenSpec.upto heardTwiceSpec)

/-- 'treelinelaw16.TickPlays', WHERE WHAT IT READS IS OF BULK AT MOST 1048576: true; the input reads as it did. -/
def tickPlaysUptoRow : OpenClaim := { program := "ytdffdnbkinpbiaadoor", sum := "d6fe2cffeeeea4778e7d829a78eba4af626677ddbdbe4830628b1e33727501e6", func := "treeline/treelinelaw16.TickPlays", spec := "tickPlays", unfollowed := true, recurses := true, named := ["treeline/frame.llc"], apart := false, laid := [("treeline/frame.llc", laid_treeline_frame_llc)], narrowed := true }
def TickPlaysUptoSaid : Prop := tickPlaysUptoRow.holds Tryd.pinned (OpenSpec.upto tickPlaysSpec)

/-- 'treelinelaw16.TickAges', WHERE WHAT IT READS IS OF BULK AT MOST 1048576: true; the input reads as it did. -/
def tickAgesUptoRow : OpenClaim := { program := "ytdffdnbkinpbiaadoor", sum := "d6fe2cffeeeea4778e7d829a78eba4af626677ddbdbe4830628b1e33727501e6", func := "treeline/treelinelaw16.TickAges", spec := "tickAges", unfollowed := true, recurses := true, named := ["treeline/frame.llc"], apart := false, laid := [("treeline/frame.llc", laid_treeline_frame_llc)], narrowed := true }
def TickAgesUptoSaid : Prop := tickAgesUptoRow.holds Tryd.pinned (OpenSpec.upto tickAgesSpec)

/-- 'treelinelaw16.TickRises', WHERE WHAT IT READS IS OF BULK AT MOST 1048576: true; the input reads as it did. -/
def tickRisesUptoRow : OpenClaim := { program := "ytdffdnbkinpbiaadoor", sum := "d6fe2cffeeeea4778e7d829a78eba4af626677ddbdbe4830628b1e33727501e6", func := "treeline/treelinelaw16.TickRises", spec := "tickRises", unfollowed := true, recurses := true, named := ["treeline/frame.llc"], apart := false, laid := [("treeline/frame.llc", laid_treeline_frame_llc)], narrowed := true }
def TickRisesUptoSaid : Prop := tickRisesUptoRow.holds Tryd.pinned (OpenSpec.upto tickRisesSpec)

/-- 'treelinelaw16.TickQuiet', WHERE WHAT IT READS IS OF BULK AT MOST 1048576: true; the input reads as it did. -/
def tickQuietUptoRow : OpenClaim := { program := "ytdffdnbkinpbiaadoor", sum := "d6fe2cffeeeea4778e7d829a78eba4af626677ddbdbe4830628b1e33727501e6", func := "treeline/treelinelaw16.TickQuiet", spec := "tickQuiet", unfollowed := true, recurses := true, named := ["treeline/frame.llc"], apart := false, laid := [("treeline/frame.llc", laid_treeline_frame_llc)], narrowed := true }
def TickQuietUptoSaid : Prop := tickQuietUptoRow.holds Tryd.pinned (OpenSpec.upto tickQuietSpec)

/-- 'treelinelaw16.TickHellos', WHERE WHAT IT READS IS OF BULK AT MOST 1048576: true; the input reads as it did. -/
def tickHellosUptoRow : OpenClaim := { program := "ytdffdnbkinpbiaadoor", sum := "d6fe2cffeeeea4778e7d829a78eba4af626677ddbdbe4830628b1e33727501e6", func := "treeline/treelinelaw16.TickHellos", spec := "tickHellos", unfollowed := true, recurses := true, named := ["treeline/frame.llc"], apart := false, laid := [("treeline/frame.llc", laid_treeline_frame_llc)], narrowed := true }
def TickHellosUptoSaid : Prop := tickHellosUptoRow.holds Tryd.pinned (OpenSpec.upto tickHellosSpec)

/-- 'treelinelaw15.HeardAcks', WHERE WHAT IT READS IS OF BULK AT MOST 1048576: true; the input reads as it did. -/
def heardAcksUptoRow : OpenClaim := { program := "ytdffdnbkinpbiaadoor", sum := "d6fe2cffeeeea4778e7d829a78eba4af626677ddbdbe4830628b1e33727501e6", func := "treeline/treelinelaw15.HeardAcks", spec := "heardAcks", named := ["treeline/frame.llc"], apart := false, laid := [("treeline/frame.llc", laid_treeline_frame_llc)], narrowed := true }
def HeardAcksUptoSaid : Prop := heardAcksUptoRow.holds Tryd.pinned (OpenSpec.upto heardAcksSpec)

end Rows
end Go.Proofs.YtdffdnbkinpbiaaDoor
