/-
  DERIVED. GIVEN WITH THE SEED: THE CARDS: each row of YtifoeddeofhclaaDoorRows.lean that lists a variable, with what it lists TIED to the program's text (the seventh form; the later family's looks); each row that meets fmt, with fmt's text TOLD by the authors' own Lean function (tested against real Go, not proved from fmt's source: count such statements apart). THE CARD IS WHAT COUNTS. Prove the row's statement (the work); the ties are given (YtifoeddeofhclaaDoorTie.lean); close each card by the builder's one call (the guide's Derived/Test/ToyasCard.lean, 'card_holds'). Laid BY PROGRAM, IN A SANDBOX (cutbox-door.mjs). By AI agents, Wed Nov 11 2026. No macro, syntax, notation, axiom, sorry.
-/
import Derived.Test.YtifoeddeofhclaaDoorRows
import GoSem.ClaimSeven
namespace Go.Proofs.YtifoeddeofhclaaDoor
namespace Rows

/-- THE TIED CARD OF 'complinelaw02.BitmapPuts'. -/
def bitmapPutsCard : Claim7 := { stood := { row := bitmapPutsRow, standIns := [], harness := (true, "1497e7170030331fe4f42a55982cf4f12677e93ef5b1d79e7dc4aab67e3c76d7"), looks := false }, kinds := [], alts := [], laidByText := true, laidKinds := [.data], laidTests := true, laidLooks := .later }
def BitmapPutsCardSaid : Prop := Claim7.holds Tryd.pinned (.plain (OpenSpec.ofChange bitmapPutsSpec)) bitmapPutsCard

/-- THE TIED CARD OF 'complinelaw02.BitmapLists'. -/
def bitmapListsCard : Claim7 := { stood := { row := bitmapListsRow, standIns := [], harness := (true, "1497e7170030331fe4f42a55982cf4f12677e93ef5b1d79e7dc4aab67e3c76d7"), looks := false }, kinds := [], alts := [], laidByText := true, laidKinds := [.data], laidTests := true, laidLooks := .later }
def BitmapListsCardSaid : Prop := Claim7.holds Tryd.pinned (.plain (OpenSpec.ofChange bitmapListsSpec)) bitmapListsCard

/-- THE TIED CARD OF 'complinelaw02.BitmapTwo'. -/
def bitmapTwoCard : Claim7 := { stood := { row := bitmapTwoRow, standIns := [], harness := (true, "1497e7170030331fe4f42a55982cf4f12677e93ef5b1d79e7dc4aab67e3c76d7"), looks := false }, kinds := [], alts := [], laidByText := true, laidKinds := [.data], laidTests := true, laidLooks := .later }
def BitmapTwoCardSaid : Prop := Claim7.holds Tryd.pinned (.plain (OpenSpec.ofChange bitmapTwoSpec)) bitmapTwoCard

/-- THE TIED CARD OF 'complinelaw02.BitmapNexts'. -/
def bitmapNextsCard : Claim7 := { stood := { row := bitmapNextsRow, standIns := [], harness := (true, "1497e7170030331fe4f42a55982cf4f12677e93ef5b1d79e7dc4aab67e3c76d7"), looks := false }, kinds := [], alts := [], laidByText := true, laidKinds := [.data], laidTests := true, laidLooks := .later }
def BitmapNextsCardSaid : Prop := Claim7.holds Tryd.pinned (.plain (OpenSpec.ofChange bitmapNextsSpec)) bitmapNextsCard

/-- THE TIED CARD OF 'complinelaw02.BitmapRounds'. -/
def bitmapRoundsCard : Claim7 := { stood := { row := bitmapRoundsRow, standIns := [], harness := (true, "1497e7170030331fe4f42a55982cf4f12677e93ef5b1d79e7dc4aab67e3c76d7"), looks := false }, kinds := [], alts := [], laidByText := true, laidKinds := [.data], laidTests := true, laidLooks := .later }
def BitmapRoundsCardSaid : Prop := Claim7.holds Tryd.pinned (.plain (OpenSpec.ofChange bitmapRoundsSpec)) bitmapRoundsCard

/-- THE TIED CARD OF 'complinelaw02.BitmapGaps'. -/
def bitmapGapsCard : Claim7 := { stood := { row := bitmapGapsRow, standIns := [], harness := (true, "1497e7170030331fe4f42a55982cf4f12677e93ef5b1d79e7dc4aab67e3c76d7"), looks := false }, kinds := [], alts := [], laidByText := true, laidKinds := [.data], laidTests := true, laidLooks := .later }
def BitmapGapsCardSaid : Prop := Claim7.holds Tryd.pinned (.plain (OpenSpec.ofChange bitmapGapsSpec)) bitmapGapsCard

/-- THE SECOND FORM's CARD OF 'complinelaw02.BitmapPuts'. -/
def bitmapPutsUptoCard : Claim7 := { stood := { row := bitmapPutsUptoRow, standIns := [], harness := (true, "1497e7170030331fe4f42a55982cf4f12677e93ef5b1d79e7dc4aab67e3c76d7"), looks := false }, kinds := [], alts := [], laidByText := true, laidKinds := [.data], laidTests := true, laidLooks := .later }
def BitmapPutsUptoCardSaid : Prop := Claim7.holds Tryd.pinned (.plain (OpenSpec.upto bitmapPutsSpec)) bitmapPutsUptoCard

/-- THE SECOND FORM's CARD OF 'complinelaw02.BitmapLists'. -/
def bitmapListsUptoCard : Claim7 := { stood := { row := bitmapListsUptoRow, standIns := [], harness := (true, "1497e7170030331fe4f42a55982cf4f12677e93ef5b1d79e7dc4aab67e3c76d7"), looks := false }, kinds := [], alts := [], laidByText := true, laidKinds := [.data], laidTests := true, laidLooks := .later }
def BitmapListsUptoCardSaid : Prop := Claim7.holds Tryd.pinned (.plain (OpenSpec.upto bitmapListsSpec)) bitmapListsUptoCard

/-- THE SECOND FORM's CARD OF 'complinelaw02.BitmapTwo'. -/
def bitmapTwoUptoCard : Claim7 := { stood := { row := bitmapTwoUptoRow, standIns := [], harness := (true, "1497e7170030331fe4f42a55982cf4f12677e93ef5b1d79e7dc4aab67e3c76d7"), looks := false }, kinds := [], alts := [], laidByText := true, laidKinds := [.data], laidTests := true, laidLooks := .later }
def BitmapTwoUptoCardSaid : Prop := Claim7.holds Tryd.pinned (.plain (OpenSpec.upto bitmapTwoSpec)) bitmapTwoUptoCard

/-- THE SECOND FORM's CARD OF 'complinelaw02.BitmapNexts'. -/
def bitmapNextsUptoCard : Claim7 := { stood := { row := bitmapNextsUptoRow, standIns := [], harness := (true, "1497e7170030331fe4f42a55982cf4f12677e93ef5b1d79e7dc4aab67e3c76d7"), looks := false }, kinds := [], alts := [], laidByText := true, laidKinds := [.data], laidTests := true, laidLooks := .later }
def BitmapNextsUptoCardSaid : Prop := Claim7.holds Tryd.pinned (.plain (OpenSpec.upto bitmapNextsSpec)) bitmapNextsUptoCard

/-- THE SECOND FORM's CARD OF 'complinelaw02.BitmapRounds'. -/
def bitmapRoundsUptoCard : Claim7 := { stood := { row := bitmapRoundsUptoRow, standIns := [], harness := (true, "1497e7170030331fe4f42a55982cf4f12677e93ef5b1d79e7dc4aab67e3c76d7"), looks := false }, kinds := [], alts := [], laidByText := true, laidKinds := [.data], laidTests := true, laidLooks := .later }
def BitmapRoundsUptoCardSaid : Prop := Claim7.holds Tryd.pinned (.plain (OpenSpec.upto bitmapRoundsSpec)) bitmapRoundsUptoCard

/-- THE SECOND FORM's CARD OF 'complinelaw02.BitmapGaps'. -/
def bitmapGapsUptoCard : Claim7 := { stood := { row := bitmapGapsUptoRow, standIns := [], harness := (true, "1497e7170030331fe4f42a55982cf4f12677e93ef5b1d79e7dc4aab67e3c76d7"), looks := false }, kinds := [], alts := [], laidByText := true, laidKinds := [.data], laidTests := true, laidLooks := .later }
def BitmapGapsUptoCardSaid : Prop := Claim7.holds Tryd.pinned (.plain (OpenSpec.upto bitmapGapsSpec)) bitmapGapsUptoCard
end Rows
end Go.Proofs.YtifoeddeofhclaaDoor
