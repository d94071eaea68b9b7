/-
  DERIVED. GIVEN WITH THE SEED: THE CARDS: each row of YtckkfbepclogcaaGreatDoorRows.lean that lists a variable, with what it lists TIED to the program's text (the seventh form; the later family's looks); each row that meets fmt, with fmt's text TOLD by the authors' own Lean function (tested against real Go, not proved from fmt's source: count such statements apart). THE CARD IS WHAT COUNTS. Prove the row's statement (the work); the ties are given (YtckkfbepclogcaaGreatDoorTie.lean); close each card by the builder's one call (the guide's Derived/Test/ToyasCard.lean, 'card_holds'). Laid BY PROGRAM, IN A SANDBOX (cutbox-door.mjs). By AI agents, Wed Nov 11 2026. No macro, syntax, notation, axiom, sorry.
-/
import Derived.Test.YtckkfbepclogcaaGreatDoorRows
import GoSem.ClaimSeven
namespace Go.Proofs.YtckkfbepclogcaaGreatDoor
namespace Rows

/-- THE TIED CARD OF 'complinelaw11.HierwheelPlays'. -/
def hierwheelPlaysCard : Claim7 := { stood := { row := hierwheelPlaysRow, standIns := [], harness := (true, "64703c229afaf8d147542cead07ffb4ad1139aeaaa4b1cf2bfd5d6d4618f6587"), looks := false }, kinds := [], alts := [], laidByText := true, laidKinds := [.data], laidTests := true, laidLooks := .later }
def HierwheelPlaysCardSaid : Prop := Claim7.holds Tryz.pinned (.plain (OpenSpec.ofChange hierwheelPlaysSpec)) hierwheelPlaysCard

/-- THE TIED CARD OF 'complinelaw11.HierwheelTwin'. -/
def hierwheelTwinCard : Claim7 := { stood := { row := hierwheelTwinRow, standIns := [], harness := (true, "64703c229afaf8d147542cead07ffb4ad1139aeaaa4b1cf2bfd5d6d4618f6587"), looks := false }, kinds := [], alts := [], laidByText := true, laidKinds := [.data], laidTests := true, laidLooks := .later }
def HierwheelTwinCardSaid : Prop := Claim7.holds Tryz.pinned (.plain (OpenSpec.ofChange hierwheelTwinSpec)) hierwheelTwinCard

/-- THE SECOND FORM's CARD OF 'complinelaw11.HierwheelPlays'. -/
def hierwheelPlaysUptoCard : Claim7 := { stood := { row := hierwheelPlaysUptoRow, standIns := [], harness := (true, "64703c229afaf8d147542cead07ffb4ad1139aeaaa4b1cf2bfd5d6d4618f6587"), looks := false }, kinds := [], alts := [], laidByText := true, laidKinds := [.data], laidTests := true, laidLooks := .later }
def HierwheelPlaysUptoCardSaid : Prop := Claim7.holds Tryz.pinned (.plain (OpenSpec.upto hierwheelPlaysSpec)) hierwheelPlaysUptoCard

/-- THE SECOND FORM's CARD OF 'complinelaw11.HierwheelTwin'. -/
def hierwheelTwinUptoCard : Claim7 := { stood := { row := hierwheelTwinUptoRow, standIns := [], harness := (true, "64703c229afaf8d147542cead07ffb4ad1139aeaaa4b1cf2bfd5d6d4618f6587"), looks := false }, kinds := [], alts := [], laidByText := true, laidKinds := [.data], laidTests := true, laidLooks := .later }
def HierwheelTwinUptoCardSaid : Prop := Claim7.holds Tryz.pinned (.plain (OpenSpec.upto hierwheelTwinSpec)) hierwheelTwinUptoCard
end Rows
end Go.Proofs.YtckkfbepclogcaaGreatDoor
