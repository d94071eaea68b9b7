/-
  DERIVED. GIVEN WITH THE SEED: THE CARDS: each row of YtckkfbepclogcaaDoorRows.lean that lists a variable, with what it lists TIED to the program's text (the seventh form; the later family's looks); each row that meets fmt, with fmt's text TOLD by the authors' own Lean function (tested against real Go, not proved from fmt's source: count such statements apart). THE CARD IS WHAT COUNTS. Prove the row's statement (the work); the ties are given (YtckkfbepclogcaaDoorTie.lean); close each card by the builder's one call (the guide's Derived/Test/ToyasCard.lean, 'card_holds'). Laid BY PROGRAM, IN A SANDBOX (cutbox-door.mjs). By AI agents, Wed Nov 11 2026. No macro, syntax, notation, axiom, sorry.
-/
import Derived.Test.YtckkfbepclogcaaDoorRows
import GoSem.ClaimSeven
namespace Go.Proofs.YtckkfbepclogcaaDoor
namespace Rows

/-- THE TIED CARD OF 'complinelaw10.HashwheelPlays'. -/
def hashwheelPlaysCard : Claim7 := { stood := { row := hashwheelPlaysRow, standIns := [], harness := (true, "7966b6dd208ee85f3473f28c61f3afadf269443b0c46f63cefb6f3a1f980a21e"), looks := false }, kinds := [], alts := [], laidByText := true, laidKinds := [.data], laidTests := true, laidLooks := .later }
def HashwheelPlaysCardSaid : Prop := Claim7.holds Tryd.pinned (.plain (OpenSpec.ofChange hashwheelPlaysSpec)) hashwheelPlaysCard

/-- THE TIED CARD OF 'complinelaw10.HashwheelLooks'. -/
def hashwheelLooksCard : Claim7 := { stood := { row := hashwheelLooksRow, standIns := [], harness := (true, "7966b6dd208ee85f3473f28c61f3afadf269443b0c46f63cefb6f3a1f980a21e"), looks := false }, kinds := [], alts := [], laidByText := true, laidKinds := [.data], laidTests := true, laidLooks := .later }
def HashwheelLooksCardSaid : Prop := Claim7.holds Tryd.pinned (.plain (OpenSpec.ofChange hashwheelLooksSpec)) hashwheelLooksCard

/-- THE TIED CARD OF 'complinelaw10.HashwheelSoon'. -/
def hashwheelSoonCard : Claim7 := { stood := { row := hashwheelSoonRow, standIns := [], harness := (true, "7966b6dd208ee85f3473f28c61f3afadf269443b0c46f63cefb6f3a1f980a21e"), looks := false }, kinds := [], alts := [], laidByText := true, laidKinds := [.data], laidTests := true, laidLooks := .later }
def HashwheelSoonCardSaid : Prop := Claim7.holds Tryd.pinned (.plain (OpenSpec.ofChange hashwheelSoonSpec)) hashwheelSoonCard

/-- THE TIED CARD OF 'complinelaw10.HashwheelAny'. -/
def hashwheelAnyCard : Claim7 := { stood := { row := hashwheelAnyRow, standIns := [], harness := (true, "7966b6dd208ee85f3473f28c61f3afadf269443b0c46f63cefb6f3a1f980a21e"), looks := false }, kinds := [], alts := [], laidByText := true, laidKinds := [.data], laidTests := true, laidLooks := .later }
def HashwheelAnyCardSaid : Prop := Claim7.holds Tryd.pinned (.plain (OpenSpec.ofChange hashwheelAnySpec)) hashwheelAnyCard

/-- THE TIED CARD OF 'complinelaw10.HashwheelSteps'. -/
def hashwheelStepsCard : Claim7 := { stood := { row := hashwheelStepsRow, standIns := [], harness := (true, "7966b6dd208ee85f3473f28c61f3afadf269443b0c46f63cefb6f3a1f980a21e"), looks := false }, kinds := [], alts := [], laidByText := true, laidKinds := [.data], laidTests := true, laidLooks := .later }
def HashwheelStepsCardSaid : Prop := Claim7.holds Tryd.pinned (.plain (OpenSpec.ofChange hashwheelStepsSpec)) hashwheelStepsCard

/-- THE TIED CARD OF 'complinelaw11.HierwheelWhere'. -/
def hierwheelWhereCard : Claim7 := { stood := { row := hierwheelWhereRow, standIns := [], harness := (true, "7966b6dd208ee85f3473f28c61f3afadf269443b0c46f63cefb6f3a1f980a21e"), looks := false }, kinds := [], alts := [], laidByText := true, laidKinds := [.data], laidTests := true, laidLooks := .later }
def HierwheelWhereCardSaid : Prop := Claim7.holds Tryd.pinned (.plain (OpenSpec.ofChange hierwheelWhereSpec)) hierwheelWhereCard

/-- THE TIED CARD OF 'complinelaw11.HierwheelThree'. -/
def hierwheelThreeCard : Claim7 := { stood := { row := hierwheelThreeRow, standIns := [], harness := (true, "7966b6dd208ee85f3473f28c61f3afadf269443b0c46f63cefb6f3a1f980a21e"), looks := false }, kinds := [], alts := [], laidByText := true, laidKinds := [.data], laidTests := true, laidLooks := .later }
def HierwheelThreeCardSaid : Prop := Claim7.holds Tryd.pinned (.plain (OpenSpec.ofChange hierwheelThreeSpec)) hierwheelThreeCard

/-- THE TIED CARD OF 'complinelaw11.HierwheelFew'. -/
def hierwheelFewCard : Claim7 := { stood := { row := hierwheelFewRow, standIns := [], harness := (true, "7966b6dd208ee85f3473f28c61f3afadf269443b0c46f63cefb6f3a1f980a21e"), looks := false }, kinds := [], alts := [], laidByText := true, laidKinds := [.data], laidTests := true, laidLooks := .later }
def HierwheelFewCardSaid : Prop := Claim7.holds Tryd.pinned (.plain (OpenSpec.ofChange hierwheelFewSpec)) hierwheelFewCard

/-- THE TIED CARD OF 'complinelaw11.HierwheelJumps'. -/
def hierwheelJumpsCard : Claim7 := { stood := { row := hierwheelJumpsRow, standIns := [], harness := (true, "7966b6dd208ee85f3473f28c61f3afadf269443b0c46f63cefb6f3a1f980a21e"), looks := false }, kinds := [], alts := [], laidByText := true, laidKinds := [.data], laidTests := true, laidLooks := .later }
def HierwheelJumpsCardSaid : Prop := Claim7.holds Tryd.pinned (.plain (OpenSpec.ofChange hierwheelJumpsSpec)) hierwheelJumpsCard

/-- THE SECOND FORM's CARD OF 'complinelaw10.HashwheelPlays'. -/
def hashwheelPlaysUptoCard : Claim7 := { stood := { row := hashwheelPlaysUptoRow, standIns := [], harness := (true, "7966b6dd208ee85f3473f28c61f3afadf269443b0c46f63cefb6f3a1f980a21e"), looks := false }, kinds := [], alts := [], laidByText := true, laidKinds := [.data], laidTests := true, laidLooks := .later }
def HashwheelPlaysUptoCardSaid : Prop := Claim7.holds Tryd.pinned (.plain (OpenSpec.upto hashwheelPlaysSpec)) hashwheelPlaysUptoCard

/-- THE SECOND FORM's CARD OF 'complinelaw10.HashwheelLooks'. -/
def hashwheelLooksUptoCard : Claim7 := { stood := { row := hashwheelLooksUptoRow, standIns := [], harness := (true, "7966b6dd208ee85f3473f28c61f3afadf269443b0c46f63cefb6f3a1f980a21e"), looks := false }, kinds := [], alts := [], laidByText := true, laidKinds := [.data], laidTests := true, laidLooks := .later }
def HashwheelLooksUptoCardSaid : Prop := Claim7.holds Tryd.pinned (.plain (OpenSpec.upto hashwheelLooksSpec)) hashwheelLooksUptoCard

/-- THE SECOND FORM's CARD OF 'complinelaw10.HashwheelSoon'. -/
def hashwheelSoonUptoCard : Claim7 := { stood := { row := hashwheelSoonUptoRow, standIns := [], harness := (true, "7966b6dd208ee85f3473f28c61f3afadf269443b0c46f63cefb6f3a1f980a21e"), looks := false }, kinds := [], alts := [], laidByText := true, laidKinds := [.data], laidTests := true, laidLooks := .later }
def HashwheelSoonUptoCardSaid : Prop := Claim7.holds Tryd.pinned (.plain (OpenSpec.upto hashwheelSoonSpec)) hashwheelSoonUptoCard

/-- THE SECOND FORM's CARD OF 'complinelaw10.HashwheelAny'. -/
def hashwheelAnyUptoCard : Claim7 := { stood := { row := hashwheelAnyUptoRow, standIns := [], harness := (true, "7966b6dd208ee85f3473f28c61f3afadf269443b0c46f63cefb6f3a1f980a21e"), looks := false }, kinds := [], alts := [], laidByText := true, laidKinds := [.data], laidTests := true, laidLooks := .later }
def HashwheelAnyUptoCardSaid : Prop := Claim7.holds Tryd.pinned (.plain (OpenSpec.upto hashwheelAnySpec)) hashwheelAnyUptoCard

/-- THE SECOND FORM's CARD OF 'complinelaw10.HashwheelSteps'. -/
def hashwheelStepsUptoCard : Claim7 := { stood := { row := hashwheelStepsUptoRow, standIns := [], harness := (true, "7966b6dd208ee85f3473f28c61f3afadf269443b0c46f63cefb6f3a1f980a21e"), looks := false }, kinds := [], alts := [], laidByText := true, laidKinds := [.data], laidTests := true, laidLooks := .later }
def HashwheelStepsUptoCardSaid : Prop := Claim7.holds Tryd.pinned (.plain (OpenSpec.upto hashwheelStepsSpec)) hashwheelStepsUptoCard

/-- THE SECOND FORM's CARD OF 'complinelaw11.HierwheelWhere'. -/
def hierwheelWhereUptoCard : Claim7 := { stood := { row := hierwheelWhereUptoRow, standIns := [], harness := (true, "7966b6dd208ee85f3473f28c61f3afadf269443b0c46f63cefb6f3a1f980a21e"), looks := false }, kinds := [], alts := [], laidByText := true, laidKinds := [.data], laidTests := true, laidLooks := .later }
def HierwheelWhereUptoCardSaid : Prop := Claim7.holds Tryd.pinned (.plain (OpenSpec.upto hierwheelWhereSpec)) hierwheelWhereUptoCard

/-- THE SECOND FORM's CARD OF 'complinelaw11.HierwheelThree'. -/
def hierwheelThreeUptoCard : Claim7 := { stood := { row := hierwheelThreeUptoRow, standIns := [], harness := (true, "7966b6dd208ee85f3473f28c61f3afadf269443b0c46f63cefb6f3a1f980a21e"), looks := false }, kinds := [], alts := [], laidByText := true, laidKinds := [.data], laidTests := true, laidLooks := .later }
def HierwheelThreeUptoCardSaid : Prop := Claim7.holds Tryd.pinned (.plain (OpenSpec.upto hierwheelThreeSpec)) hierwheelThreeUptoCard

/-- THE SECOND FORM's CARD OF 'complinelaw11.HierwheelFew'. -/
def hierwheelFewUptoCard : Claim7 := { stood := { row := hierwheelFewUptoRow, standIns := [], harness := (true, "7966b6dd208ee85f3473f28c61f3afadf269443b0c46f63cefb6f3a1f980a21e"), looks := false }, kinds := [], alts := [], laidByText := true, laidKinds := [.data], laidTests := true, laidLooks := .later }
def HierwheelFewUptoCardSaid : Prop := Claim7.holds Tryd.pinned (.plain (OpenSpec.upto hierwheelFewSpec)) hierwheelFewUptoCard

/-- THE SECOND FORM's CARD OF 'complinelaw11.HierwheelJumps'. -/
def hierwheelJumpsUptoCard : Claim7 := { stood := { row := hierwheelJumpsUptoRow, standIns := [], harness := (true, "7966b6dd208ee85f3473f28c61f3afadf269443b0c46f63cefb6f3a1f980a21e"), looks := false }, kinds := [], alts := [], laidByText := true, laidKinds := [.data], laidTests := true, laidLooks := .later }
def HierwheelJumpsUptoCardSaid : Prop := Claim7.holds Tryd.pinned (.plain (OpenSpec.upto hierwheelJumpsSpec)) hierwheelJumpsUptoCard
end Rows
end Go.Proofs.YtckkfbepclogcaaDoor
