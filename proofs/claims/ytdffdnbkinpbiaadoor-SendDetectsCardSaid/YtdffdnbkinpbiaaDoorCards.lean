/-
  DERIVED. GIVEN WITH THE SEED: THE CARDS: each row of YtdffdnbkinpbiaaDoorRows.lean that lists a variable, with what it lists TIED to the program's text (the seventh form; the later family's looks); each row that meets fmt, with fmt's text TOLD by the authors' own Lean function (tested against real Go, not proved from fmt's source: count such statements apart). THE CARD IS WHAT COUNTS. Prove the row's statement (the work); the ties are given (YtdffdnbkinpbiaaDoorTie.lean); close each card by the builder's one call (the guide's Derived/Test/ToyasCard.lean, 'card_holds'). Laid BY PROGRAM, IN A SANDBOX (cutbox-door.mjs). By AI agents, Wed Nov 11 2026. No macro, syntax, notation, axiom, sorry.
-/
import Derived.Test.YtdffdnbkinpbiaaDoorRows
import GoSem.ClaimSeven
namespace Go.Proofs.YtdffdnbkinpbiaaDoor
namespace Rows

/-- THE TIED CARD OF 'treelinelaw14.SendOnce'. -/
def sendOnceCard : Claim7 := { stood := { row := sendOnceRow, standIns := [], harness := (true, "f7e6feaab3eac4302193286f2e1cac8b4eed4ce905976eb246384f953f2ce8a1"), looks := false }, kinds := [], alts := [], laidByText := true, laidKinds := [.widerDeep], laidTests := true, laidLooks := .later }
def SendOnceCardSaid : Prop := Claim7.holds Tryd.pinned (.plain (OpenSpec.ofChange sendOnceSpec)) sendOnceCard

/-- THE TIED CARD OF 'treelinelaw14.SendDetects'. -/
def sendDetectsCard : Claim7 := { stood := { row := sendDetectsRow, standIns := [], harness := (true, "f7e6feaab3eac4302193286f2e1cac8b4eed4ce905976eb246384f953f2ce8a1"), looks := false }, kinds := [], alts := [], laidByText := true, laidKinds := [.widerDeep], laidTests := true, laidLooks := .later }
def SendDetectsCardSaid : Prop := Claim7.holds Tryd.pinned (.plain (OpenSpec.ofChange sendDetectsSpec)) sendDetectsCard

/-- THE TIED CARD OF 'treelinelaw14.SendOlder'. -/
def sendOlderCard : Claim7 := { stood := { row := sendOlderRow, standIns := [], harness := (true, "f7e6feaab3eac4302193286f2e1cac8b4eed4ce905976eb246384f953f2ce8a1"), looks := false }, kinds := [], alts := [], laidByText := true, laidKinds := [.widerDeep], laidTests := true, laidLooks := .later }
def SendOlderCardSaid : Prop := Claim7.holds Tryd.pinned (.plain (OpenSpec.ofChange sendOlderSpec)) sendOlderCard

/-- THE TIED CARD OF 'treelinelaw15.HeardBetter'. -/
def heardBetterCard : Claim7 := { stood := { row := heardBetterRow, standIns := [], harness := (true, "f7e6feaab3eac4302193286f2e1cac8b4eed4ce905976eb246384f953f2ce8a1"), looks := false }, kinds := [], alts := [], laidByText := true, laidKinds := [.widerDeep], laidTests := true, laidLooks := .later }
def HeardBetterCardSaid : Prop := Claim7.holds Tryd.pinned (.plain (OpenSpec.ofChange heardBetterSpec)) heardBetterCard

/-- THE TIED CARD OF 'treelinelaw15.HeardReplies'. -/
def heardRepliesCard : Claim7 := { stood := { row := heardRepliesRow, standIns := [], harness := (true, "f7e6feaab3eac4302193286f2e1cac8b4eed4ce905976eb246384f953f2ce8a1"), looks := false }, kinds := [], alts := [], laidByText := true, laidKinds := [.widerDeep], laidTests := true, laidLooks := .later }
def HeardRepliesCardSaid : Prop := Claim7.holds Tryd.pinned (.plain (OpenSpec.ofChange heardRepliesSpec)) heardRepliesCard

/-- THE TIED CARD OF 'treelinelaw15.HeardTwice'. -/
def heardTwiceCard : Claim7 := { stood := { row := heardTwiceRow, standIns := [], harness := (true, "f7e6feaab3eac4302193286f2e1cac8b4eed4ce905976eb246384f953f2ce8a1"), looks := false }, kinds := [], alts := [], laidByText := true, laidKinds := [.widerDeep], laidTests := true, laidLooks := .later }
def HeardTwiceCardSaid : Prop := Claim7.holds Tryd.pinned (.plain (OpenSpec.ofChange heardTwiceSpec)) heardTwiceCard

/-- THE TIED CARD OF 'treelinelaw16.TickPlays'. -/
def tickPlaysCard : Claim7 := { stood := { row := tickPlaysRow, standIns := [], harness := (true, "f7e6feaab3eac4302193286f2e1cac8b4eed4ce905976eb246384f953f2ce8a1"), looks := false }, kinds := [], alts := [], laidByText := true, laidKinds := [.widerDeep], laidTests := true, laidLooks := .later }
def TickPlaysCardSaid : Prop := Claim7.holds Tryd.pinned (.plain (OpenSpec.ofChange tickPlaysSpec)) tickPlaysCard

/-- THE TIED CARD OF 'treelinelaw16.TickAges'. -/
def tickAgesCard : Claim7 := { stood := { row := tickAgesRow, standIns := [], harness := (true, "f7e6feaab3eac4302193286f2e1cac8b4eed4ce905976eb246384f953f2ce8a1"), looks := false }, kinds := [], alts := [], laidByText := true, laidKinds := [.widerDeep], laidTests := true, laidLooks := .later }
def TickAgesCardSaid : Prop := Claim7.holds Tryd.pinned (.plain (OpenSpec.ofChange tickAgesSpec)) tickAgesCard

/-- THE TIED CARD OF 'treelinelaw16.TickRises'. -/
def tickRisesCard : Claim7 := { stood := { row := tickRisesRow, standIns := [], harness := (true, "f7e6feaab3eac4302193286f2e1cac8b4eed4ce905976eb246384f953f2ce8a1"), looks := false }, kinds := [], alts := [], laidByText := true, laidKinds := [.widerDeep], laidTests := true, laidLooks := .later }
def TickRisesCardSaid : Prop := Claim7.holds Tryd.pinned (.plain (OpenSpec.ofChange tickRisesSpec)) tickRisesCard

/-- THE TIED CARD OF 'treelinelaw16.TickQuiet'. -/
def tickQuietCard : Claim7 := { stood := { row := tickQuietRow, standIns := [], harness := (true, "f7e6feaab3eac4302193286f2e1cac8b4eed4ce905976eb246384f953f2ce8a1"), looks := false }, kinds := [], alts := [], laidByText := true, laidKinds := [.widerDeep], laidTests := true, laidLooks := .later }
def TickQuietCardSaid : Prop := Claim7.holds Tryd.pinned (.plain (OpenSpec.ofChange tickQuietSpec)) tickQuietCard

/-- THE TIED CARD OF 'treelinelaw16.TickHellos'. -/
def tickHellosCard : Claim7 := { stood := { row := tickHellosRow, standIns := [], harness := (true, "f7e6feaab3eac4302193286f2e1cac8b4eed4ce905976eb246384f953f2ce8a1"), looks := false }, kinds := [], alts := [], laidByText := true, laidKinds := [.widerDeep], laidTests := true, laidLooks := .later }
def TickHellosCardSaid : Prop := Claim7.holds Tryd.pinned (.plain (OpenSpec.ofChange tickHellosSpec)) tickHellosCard

/-- THE TIED CARD OF 'treelinelaw15.HeardAcks'. -/
def heardAcksCard : Claim7 := { stood := { row := heardAcksRow, standIns := [], harness := (true, "f7e6feaab3eac4302193286f2e1cac8b4eed4ce905976eb246384f953f2ce8a1"), looks := false }, kinds := [], alts := [], laidByText := true, laidKinds := [.widerDeep], laidTests := true, laidLooks := .later }
def HeardAcksCardSaid : Prop := Claim7.holds Tryd.pinned (.plain (OpenSpec.ofChange heardAcksSpec)) heardAcksCard

/-- THE SECOND FORM's CARD OF 'treelinelaw14.SendOnce'. -/
def sendOnceUptoCard : Claim7 := { stood := { row := sendOnceUptoRow, standIns := [], harness := (true, "f7e6feaab3eac4302193286f2e1cac8b4eed4ce905976eb246384f953f2ce8a1"), looks := false }, kinds := [], alts := [], laidByText := true, laidKinds := [.widerDeep], laidTests := true, laidLooks := .later }
def SendOnceUptoCardSaid : Prop := Claim7.holds Tryd.pinned (.plain (OpenSpec.upto sendOnceSpec)) sendOnceUptoCard

/-- THE SECOND FORM's CARD OF 'treelinelaw14.SendDetects'. -/
def sendDetectsUptoCard : Claim7 := { stood := { row := sendDetectsUptoRow, standIns := [], harness := (true, "f7e6feaab3eac4302193286f2e1cac8b4eed4ce905976eb246384f953f2ce8a1"), looks := false }, kinds := [], alts := [], laidByText := true, laidKinds := [.widerDeep], laidTests := true, laidLooks := .later }
def SendDetectsUptoCardSaid : Prop := Claim7.holds Tryd.pinned (.plain (OpenSpec.upto sendDetectsSpec)) sendDetectsUptoCard

/-- THE SECOND FORM's CARD OF 'treelinelaw14.SendOlder'. -/
def sendOlderUptoCard : Claim7 := { stood := { row := sendOlderUptoRow, standIns := [], harness := (true, "f7e6feaab3eac4302193286f2e1cac8b4eed4ce905976eb246384f953f2ce8a1"), looks := false }, kinds := [], alts := [], laidByText := true, laidKinds := [.widerDeep], laidTests := true, laidLooks := .later }
def SendOlderUptoCardSaid : Prop := Claim7.holds Tryd.pinned (.plain (OpenSpec.upto sendOlderSpec)) sendOlderUptoCard

/-- THE SECOND FORM's CARD OF 'treelinelaw15.HeardBetter'. -/
def heardBetterUptoCard : Claim7 := { stood := { row := heardBetterUptoRow, standIns := [], harness := (true, "f7e6feaab3eac4302193286f2e1cac8b4eed4ce905976eb246384f953f2ce8a1"), looks := false }, kinds := [], alts := [], laidByText := true, laidKinds := [.widerDeep], laidTests := true, laidLooks := .later }
def HeardBetterUptoCardSaid : Prop := Claim7.holds Tryd.pinned (.plain (OpenSpec.upto heardBetterSpec)) heardBetterUptoCard

/-- THE SECOND FORM's CARD OF 'treelinelaw15.HeardReplies'. -/
def heardRepliesUptoCard : Claim7 := { stood := { row := heardRepliesUptoRow, standIns := [], harness := (true, "f7e6feaab3eac4302193286f2e1cac8b4eed4ce905976eb246384f953f2ce8a1"), looks := false }, kinds := [], alts := [], laidByText := true, laidKinds := [.widerDeep], laidTests := true, laidLooks := .later }
def HeardRepliesUptoCardSaid : Prop := Claim7.holds Tryd.pinned (.plain (OpenSpec.upto heardRepliesSpec)) heardRepliesUptoCard

/-- THE SECOND FORM's CARD OF 'treelinelaw15.HeardTwice'. -/
def heardTwiceUptoCard : Claim7 := { stood := { row := heardTwiceUptoRow, standIns := [], harness := (true, "f7e6feaab3eac4302193286f2e1cac8b4eed4ce905976eb246384f953f2ce8a1"), looks := false }, kinds := [], alts := [], laidByText := true, laidKinds := [.widerDeep], laidTests := true, laidLooks := .later }
def HeardTwiceUptoCardSaid : Prop := Claim7.holds Tryd.pinned (.plain (OpenSpec.upto heardTwiceSpec)) heardTwiceUptoCard

/-- THE SECOND FORM's CARD OF 'treelinelaw16.TickPlays'. -/
def tickPlaysUptoCard : Claim7 := { stood := { row := tickPlaysUptoRow, standIns := [], harness := (true, "f7e6feaab3eac4302193286f2e1cac8b4eed4ce905976eb246384f953f2ce8a1"), looks := false }, kinds := [], alts := [], laidByText := true, laidKinds := [.widerDeep], laidTests := true, laidLooks := .later }
def TickPlaysUptoCardSaid : Prop := Claim7.holds Tryd.pinned (.plain (OpenSpec.upto tickPlaysSpec)) tickPlaysUptoCard

/-- THE SECOND FORM's CARD OF 'treelinelaw16.TickAges'. -/
def tickAgesUptoCard : Claim7 := { stood := { row := tickAgesUptoRow, standIns := [], harness := (true, "f7e6feaab3eac4302193286f2e1cac8b4eed4ce905976eb246384f953f2ce8a1"), looks := false }, kinds := [], alts := [], laidByText := true, laidKinds := [.widerDeep], laidTests := true, laidLooks := .later }
def TickAgesUptoCardSaid : Prop := Claim7.holds Tryd.pinned (.plain (OpenSpec.upto tickAgesSpec)) tickAgesUptoCard

/-- THE SECOND FORM's CARD OF 'treelinelaw16.TickRises'. -/
def tickRisesUptoCard : Claim7 := { stood := { row := tickRisesUptoRow, standIns := [], harness := (true, "f7e6feaab3eac4302193286f2e1cac8b4eed4ce905976eb246384f953f2ce8a1"), looks := false }, kinds := [], alts := [], laidByText := true, laidKinds := [.widerDeep], laidTests := true, laidLooks := .later }
def TickRisesUptoCardSaid : Prop := Claim7.holds Tryd.pinned (.plain (OpenSpec.upto tickRisesSpec)) tickRisesUptoCard

/-- THE SECOND FORM's CARD OF 'treelinelaw16.TickQuiet'. -/
def tickQuietUptoCard : Claim7 := { stood := { row := tickQuietUptoRow, standIns := [], harness := (true, "f7e6feaab3eac4302193286f2e1cac8b4eed4ce905976eb246384f953f2ce8a1"), looks := false }, kinds := [], alts := [], laidByText := true, laidKinds := [.widerDeep], laidTests := true, laidLooks := .later }
def TickQuietUptoCardSaid : Prop := Claim7.holds Tryd.pinned (.plain (OpenSpec.upto tickQuietSpec)) tickQuietUptoCard

/-- THE SECOND FORM's CARD OF 'treelinelaw16.TickHellos'. -/
def tickHellosUptoCard : Claim7 := { stood := { row := tickHellosUptoRow, standIns := [], harness := (true, "f7e6feaab3eac4302193286f2e1cac8b4eed4ce905976eb246384f953f2ce8a1"), looks := false }, kinds := [], alts := [], laidByText := true, laidKinds := [.widerDeep], laidTests := true, laidLooks := .later }
def TickHellosUptoCardSaid : Prop := Claim7.holds Tryd.pinned (.plain (OpenSpec.upto tickHellosSpec)) tickHellosUptoCard

/-- THE SECOND FORM's CARD OF 'treelinelaw15.HeardAcks'. -/
def heardAcksUptoCard : Claim7 := { stood := { row := heardAcksUptoRow, standIns := [], harness := (true, "f7e6feaab3eac4302193286f2e1cac8b4eed4ce905976eb246384f953f2ce8a1"), looks := false }, kinds := [], alts := [], laidByText := true, laidKinds := [.widerDeep], laidTests := true, laidLooks := .later }
def HeardAcksUptoCardSaid : Prop := Claim7.holds Tryd.pinned (.plain (OpenSpec.upto heardAcksSpec)) heardAcksUptoCard
end Rows
end Go.Proofs.YtdffdnbkinpbiaaDoor
