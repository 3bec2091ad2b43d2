/-
  DERIVED. GIVEN WITH THE SEED: THE CARDS: each row of YteoncjaiigfpaaaGreatDoorRows.lean that lists a variable, with what it lists TIED to the program's text (the seventh form; the later family's looks); each row that meets fmt, with fmt's text TOLD by the authors' own Lean function (tested against real Go, not proved from fmt's source: count such statements apart). THE CARD IS WHAT COUNTS. Prove the row's statement (the work); the ties are given (YteoncjaiigfpaaaGreatDoorTie.lean); close each card by the builder's one call (the guide's Derived/Test/ToyasCard.lean, 'card_holds'). Laid BY PROGRAM, IN A SANDBOX (cutbox-door.mjs). By AI agents, Wed Nov 11 2026. No macro, syntax, notation, axiom, sorry.
-/
import Derived.Test.YteoncjaiigfpaaaGreatDoorRows
import GoSem.ClaimSeven
namespace Go.Proofs.YteoncjaiigfpaaaGreatDoor
namespace Rows

/-- THE TIED CARD OF 'underwoodlaw31.RunOnce'. -/
def runOnceCard : Claim7 := { stood := { row := runOnceRow, standIns := [], harness := (true, "026f2bfd7bab6412b7abb52ee84d054f8a1168259ae920dbf9b8af87538843f1"), looks := true }, kinds := [], alts := [], laidByText := true, laidKinds := [.funcs, .funcs, .funcs], laidTests := true, laidLooks := .later }
def RunOnceCardSaid : Prop := Claim7.holds Tryz.pinned (.plain (OpenSpec.ofChange runOnceSpec)) runOnceCard

/-- THE TIED CARD OF 'underwoodlaw31.RunSame'. -/
def runSameCard : Claim7 := { stood := { row := runSameRow, standIns := [], harness := (true, "026f2bfd7bab6412b7abb52ee84d054f8a1168259ae920dbf9b8af87538843f1"), looks := true }, kinds := [], alts := [], laidByText := true, laidKinds := [.funcs, .funcs, .funcs], laidTests := true, laidLooks := .later }
def RunSameCardSaid : Prop := Claim7.holds Tryz.pinned (.plain (OpenSpec.ofChange runSameSpec)) runSameCard

/-- THE TIED CARD OF 'underwoodlaw31.RunLaid'. -/
def runLaidCard : Claim7 := { stood := { row := runLaidRow, standIns := [], harness := (true, "026f2bfd7bab6412b7abb52ee84d054f8a1168259ae920dbf9b8af87538843f1"), looks := true }, kinds := [], alts := [], laidByText := true, laidKinds := [.funcs, .funcs, .funcs], laidTests := true, laidLooks := .later }
def RunLaidCardSaid : Prop := Claim7.holds Tryz.pinned (.plain (OpenSpec.ofChange runLaidSpec)) runLaidCard

/-- THE TIED CARD OF 'underwoodlaw35.BoundRuns'. -/
def boundRunsCard : Claim7 := { stood := { row := boundRunsRow, standIns := [], harness := (true, "026f2bfd7bab6412b7abb52ee84d054f8a1168259ae920dbf9b8af87538843f1"), looks := true }, kinds := [], alts := [], laidByText := true, laidKinds := [.funcs, .funcs, .funcs], laidTests := true, laidLooks := .later }
def BoundRunsCardSaid : Prop := Claim7.holds Tryz.pinned (.plain (OpenSpec.ofChange boundRunsSpec)) boundRunsCard

/-- THE SECOND FORM's CARD OF 'underwoodlaw31.RunOnce'. -/
def runOnceUptoCard : Claim7 := { stood := { row := runOnceUptoRow, standIns := [], harness := (true, "026f2bfd7bab6412b7abb52ee84d054f8a1168259ae920dbf9b8af87538843f1"), looks := true }, kinds := [], alts := [], laidByText := true, laidKinds := [.funcs, .funcs, .funcs], laidTests := true, laidLooks := .later }
def RunOnceUptoCardSaid : Prop := Claim7.holds Tryz.pinned (.plain (OpenSpec.upto runOnceSpec)) runOnceUptoCard

/-- THE SECOND FORM's CARD OF 'underwoodlaw31.RunSame'. -/
def runSameUptoCard : Claim7 := { stood := { row := runSameUptoRow, standIns := [], harness := (true, "026f2bfd7bab6412b7abb52ee84d054f8a1168259ae920dbf9b8af87538843f1"), looks := true }, kinds := [], alts := [], laidByText := true, laidKinds := [.funcs, .funcs, .funcs], laidTests := true, laidLooks := .later }
def RunSameUptoCardSaid : Prop := Claim7.holds Tryz.pinned (.plain (OpenSpec.upto runSameSpec)) runSameUptoCard

/-- THE SECOND FORM's CARD OF 'underwoodlaw31.RunLaid'. -/
def runLaidUptoCard : Claim7 := { stood := { row := runLaidUptoRow, standIns := [], harness := (true, "026f2bfd7bab6412b7abb52ee84d054f8a1168259ae920dbf9b8af87538843f1"), looks := true }, kinds := [], alts := [], laidByText := true, laidKinds := [.funcs, .funcs, .funcs], laidTests := true, laidLooks := .later }
def RunLaidUptoCardSaid : Prop := Claim7.holds Tryz.pinned (.plain (OpenSpec.upto runLaidSpec)) runLaidUptoCard

/-- THE SECOND FORM's CARD OF 'underwoodlaw35.BoundRuns'. -/
def boundRunsUptoCard : Claim7 := { stood := { row := boundRunsUptoRow, standIns := [], harness := (true, "026f2bfd7bab6412b7abb52ee84d054f8a1168259ae920dbf9b8af87538843f1"), looks := true }, kinds := [], alts := [], laidByText := true, laidKinds := [.funcs, .funcs, .funcs], laidTests := true, laidLooks := .later }
def BoundRunsUptoCardSaid : Prop := Claim7.holds Tryz.pinned (.plain (OpenSpec.upto boundRunsSpec)) boundRunsUptoCard
end Rows
end Go.Proofs.YteoncjaiigfpaaaGreatDoor
