/-
  No cell of these rows narrows 'for every input' (looked for: loops, veiled, ifaces, maps, wideKeys, modest, calm, conditions, laid).
  DERIVED. THE GIVEN ROWS OF THIS SEAT. 11 by the template 'for every input the law returns true; each argument reads behind the call as it read before'; 0 by the template 'total and deterministic' (their statements: YtfdbimkddkohnaaTotals.lean).
  GIVEN WITH THE SEED: the statements are not yours to turn. If you find one false, say at which input.
  Laid BY PROGRAM, IN A SANDBOX (cutbox-rows.mjs): the forced cells as the released guide's own fill.sh prints them over the translation dc5b44f308d0f358… (all of the seat's roots in one cut). By AI agents, Wed Nov 11 2026. No macro, syntax, notation, axiom, sorry.
-/
import Derived.Test.YtfdbimkddkohnaaChecked
import GoSem.Claim
import GoSem.ClaimJoined
import GoSem.ClaimMapViews
import Derived.JoinedTies
import Derived.KernelRfl
namespace Go.Proofs.Ytfdbimkddkohnaa
/- THE CELL 'sum', in the pinned program and in every row, IS THE sha256 OF THE DUMP (.gsa) THAT YtfdbimkddkohnaaProg.lean LOADS. Nothing in Lean hashes anything: it is a label: what it is worth is what the hold of that sum in a sandbox is worth. -/
noncomputable def Try.pinned : Pinned := { name := "ytfdbimkddkohnaa", sum := "dc5b44f308d0f358c74c905ec36c4364bfad9e31eb843c27d2576a4b7f22dec8", checked := Try.checked }
namespace Rows
def none {H : Type} : Left H := { results := [], args := [] }

/-- 'complinelaw08.BinheapPlays': WHATEVER THE INPUT: true; the input reads as it did. -/
def binheapPlaysSpec : ChangeSpec := { name := "binheapPlays", fn := fun _ => fun
  | [d1, d2, d3, d4] => { results := [.lit (.bool true)], args := [d1, d2, d3, d4] }
  | _ => none }
def binheapPlaysRow : OpenClaim := { program := "ytfdbimkddkohnaa", sum := "dc5b44f308d0f358c74c905ec36c4364bfad9e31eb843c27d2576a4b7f22dec8", func := "compline/complinelaw08.BinheapPlays", spec := "binheapPlays", unfollowed := true, recurses := true, apart := false }
def BinheapPlaysSaid : Prop := binheapPlaysRow.holds Try.pinned (OpenSpec.ofChange binheapPlaysSpec)

/-- ITS FALSE NEIGHBOUR: 'it returns false'. Refute it at one input. -/
def binheapPlaysWrong : ChangeSpec := { name := "binheapPlays", fn := fun _ => fun
  | [d1, d2, d3, d4] => { results := [.lit (.bool false)], args := [d1, d2, d3, d4] }
  | _ => none }
def BinheapPlaysWrongFalsely : Prop := binheapPlaysRow.holds Try.pinned (OpenSpec.ofChange binheapPlaysWrong)

/-- 'complinelaw08.BinheapSorts': WHATEVER THE INPUT: true; the input reads as it did. -/
def binheapSortsSpec : ChangeSpec := { name := "binheapSorts", fn := fun _ => fun
  | [d1, d2] => { results := [.lit (.bool true)], args := [d1, d2] }
  | _ => none }
def binheapSortsRow : OpenClaim := { program := "ytfdbimkddkohnaa", sum := "dc5b44f308d0f358c74c905ec36c4364bfad9e31eb843c27d2576a4b7f22dec8", func := "compline/complinelaw08.BinheapSorts", spec := "binheapSorts", unfollowed := true, recurses := true, apart := false }
def BinheapSortsSaid : Prop := binheapSortsRow.holds Try.pinned (OpenSpec.ofChange binheapSortsSpec)

/-- ITS FALSE NEIGHBOUR: 'it returns false'. Refute it at one input. -/
def binheapSortsWrong : ChangeSpec := { name := "binheapSorts", fn := fun _ => fun
  | [d1, d2] => { results := [.lit (.bool false)], args := [d1, d2] }
  | _ => none }
def BinheapSortsWrongFalsely : Prop := binheapSortsRow.holds Try.pinned (OpenSpec.ofChange binheapSortsWrong)

/-- 'complinelaw08.BinheapSplits': WHATEVER THE INPUT: true; the input reads as it did. -/
def binheapSplitsSpec : ChangeSpec := { name := "binheapSplits", fn := fun _ => fun
  | [d1, d2, d3, d4] => { results := [.lit (.bool true)], args := [d1, d2, d3, d4] }
  | _ => none }
def binheapSplitsRow : OpenClaim := { program := "ytfdbimkddkohnaa", sum := "dc5b44f308d0f358c74c905ec36c4364bfad9e31eb843c27d2576a4b7f22dec8", func := "compline/complinelaw08.BinheapSplits", spec := "binheapSplits", unfollowed := true, recurses := true, apart := false }
def BinheapSplitsSaid : Prop := binheapSplitsRow.holds Try.pinned (OpenSpec.ofChange binheapSplitsSpec)

/-- ITS FALSE NEIGHBOUR: 'it returns false'. Refute it at one input. -/
def binheapSplitsWrong : ChangeSpec := { name := "binheapSplits", fn := fun _ => fun
  | [d1, d2, d3, d4] => { results := [.lit (.bool false)], args := [d1, d2, d3, d4] }
  | _ => none }
def BinheapSplitsWrongFalsely : Prop := binheapSplitsRow.holds Try.pinned (OpenSpec.ofChange binheapSplitsWrong)

/-- 'complinelaw08.BinheapAgain': WHATEVER THE INPUT: true; the input reads as it did. -/
def binheapAgainSpec : ChangeSpec := { name := "binheapAgain", fn := fun _ => fun
  | [d1, d2] => { results := [.lit (.bool true)], args := [d1, d2] }
  | _ => none }
def binheapAgainRow : OpenClaim := { program := "ytfdbimkddkohnaa", sum := "dc5b44f308d0f358c74c905ec36c4364bfad9e31eb843c27d2576a4b7f22dec8", func := "compline/complinelaw08.BinheapAgain", spec := "binheapAgain", unfollowed := true, recurses := true, apart := false }
def BinheapAgainSaid : Prop := binheapAgainRow.holds Try.pinned (OpenSpec.ofChange binheapAgainSpec)

/-- ITS FALSE NEIGHBOUR: 'it returns false'. Refute it at one input. -/
def binheapAgainWrong : ChangeSpec := { name := "binheapAgain", fn := fun _ => fun
  | [d1, d2] => { results := [.lit (.bool false)], args := [d1, d2] }
  | _ => none }
def BinheapAgainWrongFalsely : Prop := binheapAgainRow.holds Try.pinned (OpenSpec.ofChange binheapAgainWrong)

/-- 'complinelaw08.BinheapKeys': WHATEVER THE INPUT: true; the input reads as it did. -/
def binheapKeysSpec : ChangeSpec := { name := "binheapKeys", fn := fun _ => fun
  | [d1, d2, d3] => { results := [.lit (.bool true)], args := [d1, d2, d3] }
  | _ => none }
def binheapKeysRow : OpenClaim := { program := "ytfdbimkddkohnaa", sum := "dc5b44f308d0f358c74c905ec36c4364bfad9e31eb843c27d2576a4b7f22dec8", func := "compline/complinelaw08.BinheapKeys", spec := "binheapKeys", inPlace := ["slices.overlaps[compline/api.Timer]"], unfollowed := true, recurses := true, apart := false }
def BinheapKeysSaid : Prop := binheapKeysRow.holds Try.pinned (OpenSpec.ofChange binheapKeysSpec)

/-- ITS FALSE NEIGHBOUR: 'it returns false'. Refute it at one input. -/
def binheapKeysWrong : ChangeSpec := { name := "binheapKeys", fn := fun _ => fun
  | [d1, d2, d3] => { results := [.lit (.bool false)], args := [d1, d2, d3] }
  | _ => none }
def BinheapKeysWrongFalsely : Prop := binheapKeysRow.holds Try.pinned (OpenSpec.ofChange binheapKeysWrong)

/-- 'complinelaw04.OrderSorts': WHATEVER THE INPUT: true; the input reads as it did. -/
def orderSortsSpec : ChangeSpec := { name := "orderSorts", fn := fun _ => fun
  | [d] => { results := [.lit (.bool true)], args := [d] }
  | _ => none }
def orderSortsRow : OpenClaim := { program := "ytfdbimkddkohnaa", sum := "dc5b44f308d0f358c74c905ec36c4364bfad9e31eb843c27d2576a4b7f22dec8", func := "compline/complinelaw04.OrderSorts", spec := "orderSorts", inPlace := ["slices.overlaps[compline/api.Timer]"], unfollowed := true, recurses := true, apart := false }
def OrderSortsSaid : Prop := orderSortsRow.holds Try.pinned (OpenSpec.ofChange orderSortsSpec)

/-- ITS FALSE NEIGHBOUR: 'it returns false'. Refute it at one input. -/
def orderSortsWrong : ChangeSpec := { name := "orderSorts", fn := fun _ => fun
  | [d] => { results := [.lit (.bool false)], args := [d] }
  | _ => none }
def OrderSortsWrongFalsely : Prop := orderSortsRow.holds Try.pinned (OpenSpec.ofChange orderSortsWrong)

/-- 'complinelaw04.OrderTurns': WHATEVER THE INPUT: true; the input reads as it did. -/
def orderTurnsSpec : ChangeSpec := { name := "orderTurns", fn := fun _ => fun
  | [d1, d2] => { results := [.lit (.bool true)], args := [d1, d2] }
  | _ => none }
def orderTurnsRow : OpenClaim := { program := "ytfdbimkddkohnaa", sum := "dc5b44f308d0f358c74c905ec36c4364bfad9e31eb843c27d2576a4b7f22dec8", func := "compline/complinelaw04.OrderTurns", spec := "orderTurns", inPlace := ["slices.overlaps[compline/api.Timer]"], unfollowed := true, recurses := true, apart := false }
def OrderTurnsSaid : Prop := orderTurnsRow.holds Try.pinned (OpenSpec.ofChange orderTurnsSpec)

/-- ITS FALSE NEIGHBOUR: 'it returns false'. Refute it at one input. -/
def orderTurnsWrong : ChangeSpec := { name := "orderTurns", fn := fun _ => fun
  | [d1, d2] => { results := [.lit (.bool false)], args := [d1, d2] }
  | _ => none }
def OrderTurnsWrongFalsely : Prop := orderTurnsRow.holds Try.pinned (OpenSpec.ofChange orderTurnsWrong)

/-- 'complinelaw04.OrderKeeps': WHATEVER THE INPUT: true; the input reads as it did. -/
def orderKeepsSpec : ChangeSpec := { name := "orderKeeps", fn := fun _ => fun
  | [d1, d2] => { results := [.lit (.bool true)], args := [d1, d2] }
  | _ => none }
def orderKeepsRow : OpenClaim := { program := "ytfdbimkddkohnaa", sum := "dc5b44f308d0f358c74c905ec36c4364bfad9e31eb843c27d2576a4b7f22dec8", func := "compline/complinelaw04.OrderKeeps", spec := "orderKeeps", inPlace := ["slices.overlaps[compline/api.Timer]"], unfollowed := true, recurses := true, apart := false }
def OrderKeepsSaid : Prop := orderKeepsRow.holds Try.pinned (OpenSpec.ofChange orderKeepsSpec)

/-- ITS FALSE NEIGHBOUR: 'it returns false'. Refute it at one input. -/
def orderKeepsWrong : ChangeSpec := { name := "orderKeeps", fn := fun _ => fun
  | [d1, d2] => { results := [.lit (.bool false)], args := [d1, d2] }
  | _ => none }
def OrderKeepsWrongFalsely : Prop := orderKeepsRow.holds Try.pinned (OpenSpec.ofChange orderKeepsWrong)

/-- 'complinelaw04.OrderMerges': WHATEVER THE INPUT: true; the input reads as it did. -/
def orderMergesSpec : ChangeSpec := { name := "orderMerges", fn := fun _ => fun
  | [d] => { results := [.lit (.bool true)], args := [d] }
  | _ => none }
def orderMergesRow : OpenClaim := { program := "ytfdbimkddkohnaa", sum := "dc5b44f308d0f358c74c905ec36c4364bfad9e31eb843c27d2576a4b7f22dec8", func := "compline/complinelaw04.OrderMerges", spec := "orderMerges", inPlace := ["slices.overlaps[compline/api.Timer]"], unfollowed := true, recurses := true, apart := false }
def OrderMergesSaid : Prop := orderMergesRow.holds Try.pinned (OpenSpec.ofChange orderMergesSpec)

/-- ITS FALSE NEIGHBOUR: 'it returns false'. Refute it at one input. -/
def orderMergesWrong : ChangeSpec := { name := "orderMerges", fn := fun _ => fun
  | [d] => { results := [.lit (.bool false)], args := [d] }
  | _ => none }
def OrderMergesWrongFalsely : Prop := orderMergesRow.holds Try.pinned (OpenSpec.ofChange orderMergesWrong)

/-- 'complinelaw04.OrderFinds': WHATEVER THE INPUT: true; the input reads as it did. -/
def orderFindsSpec : ChangeSpec := { name := "orderFinds", fn := fun _ => fun
  | [d1, d2] => { results := [.lit (.bool true)], args := [d1, d2] }
  | _ => none }
def orderFindsRow : OpenClaim := { program := "ytfdbimkddkohnaa", sum := "dc5b44f308d0f358c74c905ec36c4364bfad9e31eb843c27d2576a4b7f22dec8", func := "compline/complinelaw04.OrderFinds", spec := "orderFinds", inPlace := ["slices.overlaps[compline/api.Timer]"], unfollowed := true, recurses := true, apart := false }
def OrderFindsSaid : Prop := orderFindsRow.holds Try.pinned (OpenSpec.ofChange orderFindsSpec)

/-- ITS FALSE NEIGHBOUR: 'it returns false'. Refute it at one input. -/
def orderFindsWrong : ChangeSpec := { name := "orderFinds", fn := fun _ => fun
  | [d1, d2] => { results := [.lit (.bool false)], args := [d1, d2] }
  | _ => none }
def OrderFindsWrongFalsely : Prop := orderFindsRow.holds Try.pinned (OpenSpec.ofChange orderFindsWrong)

/-- 'complinelaw04.OrderCuts': WHATEVER THE INPUT: true; the input reads as it did. -/
def orderCutsSpec : ChangeSpec := { name := "orderCuts", fn := fun _ => fun
  | [d1, d2] => { results := [.lit (.bool true)], args := [d1, d2] }
  | _ => none }
def orderCutsRow : OpenClaim := { program := "ytfdbimkddkohnaa", sum := "dc5b44f308d0f358c74c905ec36c4364bfad9e31eb843c27d2576a4b7f22dec8", func := "compline/complinelaw04.OrderCuts", spec := "orderCuts", inPlace := ["slices.overlaps[compline/api.Timer]"], unfollowed := true, recurses := true, apart := false }
def OrderCutsSaid : Prop := orderCutsRow.holds Try.pinned (OpenSpec.ofChange orderCutsSpec)

/-- ITS FALSE NEIGHBOUR: 'it returns false'. Refute it at one input. -/
def orderCutsWrong : ChangeSpec := { name := "orderCuts", fn := fun _ => fun
  | [d1, d2] => { results := [.lit (.bool false)], args := [d1, d2] }
  | _ => none }
def OrderCutsWrongFalsely : Prop := orderCutsRow.holds Try.pinned (OpenSpec.ofChange orderCutsWrong)

/- THE SECOND FORM. 'bulk': how many values and letters a reading holds, each counted each time it is reached (what is shared counts as often as it is met; a slice's spare places count too). A statement '..UptoSaid' is the law's where the arguments, and the package variables that the reading takes, are together of bulk at most 1048576: NARROWER than '..Said'. Prove '..Said' where nothing that the law and all that it calls make is longer than what came in: it says more and counts as full. Else prove '..UptoSaid'. A law counts once. -/
mutual
def uptoBulk {H : Type} : DataW H → Nat
  | .lit (.string bytes) => bytes.length + 1
  | .lit _ => 1
  | .nil => 1
  | .ptr d => uptoBulk d + 1
  | .slice elems spare => uptoBulkAll elems + uptoBulkAll spare + 1
  | .agg parts => uptoBulkAll parts + 1
  | .iface _ d => uptoBulk d + 1
  | .map entries => uptoBulkEntries entries + 1
  | .held _ => 1
def uptoBulkAll {H : Type} : List (DataW H) → Nat
  | [] => 0
  | d :: r => uptoBulk d + uptoBulkAll r
def uptoBulkEntries {H : Type} : List (Lit × DataW H) → Nat
  | [] => 0
  | x :: r => uptoBulkEntry x + uptoBulkEntries r
def uptoBulkEntry {H : Type} : Lit × DataW H → Nat
  | (.string bytes, d) => bytes.length + uptoBulk d + 1
  | (_, d) => uptoBulk d + 1
 end
def uptoSmall : (H : Type) → List (DataW H) → Bool := fun _ ds => decide (uptoBulkAll ds ≤ 1048576)
def OpenSpec.upto (s : _root_.Go.ChangeSpec) : _root_.Go.OpenSpec := { _root_.Go.OpenSpec.ofChange s with cond := some uptoSmall }

/-- 'complinelaw08.BinheapPlays', WHERE WHAT IT READS IS OF BULK AT MOST 1048576: true; the input reads as it did. -/
def binheapPlaysUptoRow : OpenClaim := { program := "ytfdbimkddkohnaa", sum := "dc5b44f308d0f358c74c905ec36c4364bfad9e31eb843c27d2576a4b7f22dec8", func := "compline/complinelaw08.BinheapPlays", spec := "binheapPlays", unfollowed := true, recurses := true, apart := false, narrowed := true }
def BinheapPlaysUptoSaid : Prop := binheapPlaysUptoRow.holds Try.pinned (OpenSpec.upto binheapPlaysSpec)

/-- 'complinelaw08.BinheapSorts', WHERE WHAT IT READS IS OF BULK AT MOST 1048576: true; the input reads as it did. -/
def binheapSortsUptoRow : OpenClaim := { program := "ytfdbimkddkohnaa", sum := "dc5b44f308d0f358c74c905ec36c4364bfad9e31eb843c27d2576a4b7f22dec8", func := "compline/complinelaw08.BinheapSorts", spec := "binheapSorts", unfollowed := true, recurses := true, apart := false, narrowed := true }
def BinheapSortsUptoSaid : Prop := binheapSortsUptoRow.holds Try.pinned (OpenSpec.upto binheapSortsSpec)

/-- 'complinelaw08.BinheapSplits', WHERE WHAT IT READS IS OF BULK AT MOST 1048576: true; the input reads as it did. -/
def binheapSplitsUptoRow : OpenClaim := { program := "ytfdbimkddkohnaa", sum := "dc5b44f308d0f358c74c905ec36c4364bfad9e31eb843c27d2576a4b7f22dec8", func := "compline/complinelaw08.BinheapSplits", spec := "binheapSplits", unfollowed := true, recurses := true, apart := false, narrowed := true }
def BinheapSplitsUptoSaid : Prop := binheapSplitsUptoRow.holds Try.pinned (OpenSpec.upto binheapSplitsSpec)

/-- 'complinelaw08.BinheapAgain', WHERE WHAT IT READS IS OF BULK AT MOST 1048576: true; the input reads as it did. -/
def binheapAgainUptoRow : OpenClaim := { program := "ytfdbimkddkohnaa", sum := "dc5b44f308d0f358c74c905ec36c4364bfad9e31eb843c27d2576a4b7f22dec8", func := "compline/complinelaw08.BinheapAgain", spec := "binheapAgain", unfollowed := true, recurses := true, apart := false, narrowed := true }
def BinheapAgainUptoSaid : Prop := binheapAgainUptoRow.holds Try.pinned (OpenSpec.upto binheapAgainSpec)

/-- 'complinelaw08.BinheapKeys', WHERE WHAT IT READS IS OF BULK AT MOST 1048576: true; the input reads as it did. -/
def binheapKeysUptoRow : OpenClaim := { program := "ytfdbimkddkohnaa", sum := "dc5b44f308d0f358c74c905ec36c4364bfad9e31eb843c27d2576a4b7f22dec8", func := "compline/complinelaw08.BinheapKeys", spec := "binheapKeys", inPlace := ["slices.overlaps[compline/api.Timer]"], unfollowed := true, recurses := true, apart := false, narrowed := true }
def BinheapKeysUptoSaid : Prop := binheapKeysUptoRow.holds Try.pinned (OpenSpec.upto binheapKeysSpec)

/-- 'complinelaw04.OrderSorts', WHERE WHAT IT READS IS OF BULK AT MOST 1048576: true; the input reads as it did. -/
def orderSortsUptoRow : OpenClaim := { program := "ytfdbimkddkohnaa", sum := "dc5b44f308d0f358c74c905ec36c4364bfad9e31eb843c27d2576a4b7f22dec8", func := "compline/complinelaw04.OrderSorts", spec := "orderSorts", inPlace := ["slices.overlaps[compline/api.Timer]"], unfollowed := true, recurses := true, apart := false, narrowed := true }
def OrderSortsUptoSaid : Prop := orderSortsUptoRow.holds Try.pinned (OpenSpec.upto orderSortsSpec)

/-- 'complinelaw04.OrderTurns', WHERE WHAT IT READS IS OF BULK AT MOST 1048576: true; the input reads as it did. -/
def orderTurnsUptoRow : OpenClaim := { program := "ytfdbimkddkohnaa", sum := "dc5b44f308d0f358c74c905ec36c4364bfad9e31eb843c27d2576a4b7f22dec8", func := "compline/complinelaw04.OrderTurns", spec := "orderTurns", inPlace := ["slices.overlaps[compline/api.Timer]"], unfollowed := true, recurses := true, apart := false, narrowed := true }
def OrderTurnsUptoSaid : Prop := orderTurnsUptoRow.holds Try.pinned (OpenSpec.upto orderTurnsSpec)

/-- 'complinelaw04.OrderKeeps', WHERE WHAT IT READS IS OF BULK AT MOST 1048576: true; the input reads as it did. -/
def orderKeepsUptoRow : OpenClaim := { program := "ytfdbimkddkohnaa", sum := "dc5b44f308d0f358c74c905ec36c4364bfad9e31eb843c27d2576a4b7f22dec8", func := "compline/complinelaw04.OrderKeeps", spec := "orderKeeps", inPlace := ["slices.overlaps[compline/api.Timer]"], unfollowed := true, recurses := true, apart := false, narrowed := true }
def OrderKeepsUptoSaid : Prop := orderKeepsUptoRow.holds Try.pinned (OpenSpec.upto orderKeepsSpec)

/-- 'complinelaw04.OrderMerges', WHERE WHAT IT READS IS OF BULK AT MOST 1048576: true; the input reads as it did. -/
def orderMergesUptoRow : OpenClaim := { program := "ytfdbimkddkohnaa", sum := "dc5b44f308d0f358c74c905ec36c4364bfad9e31eb843c27d2576a4b7f22dec8", func := "compline/complinelaw04.OrderMerges", spec := "orderMerges", inPlace := ["slices.overlaps[compline/api.Timer]"], unfollowed := true, recurses := true, apart := false, narrowed := true }
def OrderMergesUptoSaid : Prop := orderMergesUptoRow.holds Try.pinned (OpenSpec.upto orderMergesSpec)

/-- 'complinelaw04.OrderFinds', WHERE WHAT IT READS IS OF BULK AT MOST 1048576: true; the input reads as it did. -/
def orderFindsUptoRow : OpenClaim := { program := "ytfdbimkddkohnaa", sum := "dc5b44f308d0f358c74c905ec36c4364bfad9e31eb843c27d2576a4b7f22dec8", func := "compline/complinelaw04.OrderFinds", spec := "orderFinds", inPlace := ["slices.overlaps[compline/api.Timer]"], unfollowed := true, recurses := true, apart := false, narrowed := true }
def OrderFindsUptoSaid : Prop := orderFindsUptoRow.holds Try.pinned (OpenSpec.upto orderFindsSpec)

/-- 'complinelaw04.OrderCuts', WHERE WHAT IT READS IS OF BULK AT MOST 1048576: true; the input reads as it did. -/
def orderCutsUptoRow : OpenClaim := { program := "ytfdbimkddkohnaa", sum := "dc5b44f308d0f358c74c905ec36c4364bfad9e31eb843c27d2576a4b7f22dec8", func := "compline/complinelaw04.OrderCuts", spec := "orderCuts", inPlace := ["slices.overlaps[compline/api.Timer]"], unfollowed := true, recurses := true, apart := false, narrowed := true }
def OrderCutsUptoSaid : Prop := orderCutsUptoRow.holds Try.pinned (OpenSpec.upto orderCutsSpec)

end Rows
end Go.Proofs.Ytfdbimkddkohnaa
