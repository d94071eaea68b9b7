/-
  No cell of these rows narrows 'for every input' (looked for: loops, veiled, ifaces, maps, wideKeys, modest, calm, conditions, laid).
  DERIVED. THE GIVEN ROWS OF THIS SEAT. 5 by the template 'for every input the law returns true; each argument reads behind the call as it read before'; 0 by the template 'total and deterministic' (their statements: YtpbepmipfjcjbaaTotals.lean).
  GIVEN WITH THE SEED: the statements are not yours to turn. If you find one false, say at which input.
  Laid BY PROGRAM, IN A SANDBOX (cutbox-rows.mjs): the forced cells as the released guide's own fill.sh prints them over the translation b27df1b1294d43d3… (all of the seat's roots in one cut). By AI agents, Wed Nov 11 2026. No macro, syntax, notation, axiom, sorry.
-/
import Derived.Test.YtpbepmipfjcjbaaChecked
import GoSem.Claim
import GoSem.ClaimJoined
import GoSem.ClaimMapViews
import Derived.JoinedTies
import Derived.KernelRfl
namespace Go.Proofs.Ytpbepmipfjcjbaa
/- THE CELL 'sum', in the pinned program and in every row, IS THE sha256 OF THE DUMP (.gsa) THAT YtpbepmipfjcjbaaProg.lean LOADS. Nothing in Lean hashes anything: it is a label: what it is worth is what the hold of that sum in a sandbox is worth. -/
noncomputable def Try.pinned : Pinned := { name := "ytpbepmipfjcjbaa", sum := "b27df1b1294d43d34c79b79c0e3afccfe0bb2e182e51888262323d5636510201", checked := Try.checked }
namespace Rows
def none {H : Type} : Left H := { results := [], args := [] }

/-- 'complinelaw09.PairheapPlays': WHATEVER THE INPUT: true; the input reads as it did. -/
def pairheapPlaysSpec : ChangeSpec := { name := "pairheapPlays", fn := fun _ => fun
  | [d1, d2, d3] => { results := [.lit (.bool true)], args := [d1, d2, d3] }
  | _ => none }
def pairheapPlaysRow : OpenClaim := { program := "ytpbepmipfjcjbaa", sum := "b27df1b1294d43d34c79b79c0e3afccfe0bb2e182e51888262323d5636510201", func := "compline/complinelaw09.PairheapPlays", spec := "pairheapPlays", unfollowed := true, recurses := true, apart := false }
def PairheapPlaysSaid : Prop := pairheapPlaysRow.holds Try.pinned (OpenSpec.ofChange pairheapPlaysSpec)

/-- ITS FALSE NEIGHBOUR: 'it returns false'. Refute it at one input. -/
def pairheapPlaysWrong : ChangeSpec := { name := "pairheapPlays", fn := fun _ => fun
  | [d1, d2, d3] => { results := [.lit (.bool false)], args := [d1, d2, d3] }
  | _ => none }
def PairheapPlaysWrongFalsely : Prop := pairheapPlaysRow.holds Try.pinned (OpenSpec.ofChange pairheapPlaysWrong)

/-- 'complinelaw09.PairheapMelds': WHATEVER THE INPUT: true; the input reads as it did. -/
def pairheapMeldsSpec : ChangeSpec := { name := "pairheapMelds", fn := fun _ => fun
  | [d1, d2, d3, d4, d5] => { results := [.lit (.bool true)], args := [d1, d2, d3, d4, d5] }
  | _ => none }
def pairheapMeldsRow : OpenClaim := { program := "ytpbepmipfjcjbaa", sum := "b27df1b1294d43d34c79b79c0e3afccfe0bb2e182e51888262323d5636510201", func := "compline/complinelaw09.PairheapMelds", spec := "pairheapMelds", unfollowed := true, recurses := true, apart := false }
def PairheapMeldsSaid : Prop := pairheapMeldsRow.holds Try.pinned (OpenSpec.ofChange pairheapMeldsSpec)

/-- ITS FALSE NEIGHBOUR: 'it returns false'. Refute it at one input. -/
def pairheapMeldsWrong : ChangeSpec := { name := "pairheapMelds", fn := fun _ => fun
  | [d1, d2, d3, d4, d5] => { results := [.lit (.bool false)], args := [d1, d2, d3, d4, d5] }
  | _ => none }
def PairheapMeldsWrongFalsely : Prop := pairheapMeldsRow.holds Try.pinned (OpenSpec.ofChange pairheapMeldsWrong)

/-- 'complinelaw09.PairheapCuts': WHATEVER THE INPUT: true; the input reads as it did. -/
def pairheapCutsSpec : ChangeSpec := { name := "pairheapCuts", fn := fun _ => fun
  | [d1, d2, d3] => { results := [.lit (.bool true)], args := [d1, d2, d3] }
  | _ => none }
def pairheapCutsRow : OpenClaim := { program := "ytpbepmipfjcjbaa", sum := "b27df1b1294d43d34c79b79c0e3afccfe0bb2e182e51888262323d5636510201", func := "compline/complinelaw09.PairheapCuts", spec := "pairheapCuts", unfollowed := true, recurses := true, apart := false }
def PairheapCutsSaid : Prop := pairheapCutsRow.holds Try.pinned (OpenSpec.ofChange pairheapCutsSpec)

/-- ITS FALSE NEIGHBOUR: 'it returns false'. Refute it at one input. -/
def pairheapCutsWrong : ChangeSpec := { name := "pairheapCuts", fn := fun _ => fun
  | [d1, d2, d3] => { results := [.lit (.bool false)], args := [d1, d2, d3] }
  | _ => none }
def PairheapCutsWrongFalsely : Prop := pairheapCutsRow.holds Try.pinned (OpenSpec.ofChange pairheapCutsWrong)

/-- 'complinelaw09.PairheapFirst': WHATEVER THE INPUT: true; the input reads as it did. -/
def pairheapFirstSpec : ChangeSpec := { name := "pairheapFirst", fn := fun _ => fun
  | [d1, d2, d3] => { results := [.lit (.bool true)], args := [d1, d2, d3] }
  | _ => none }
def pairheapFirstRow : OpenClaim := { program := "ytpbepmipfjcjbaa", sum := "b27df1b1294d43d34c79b79c0e3afccfe0bb2e182e51888262323d5636510201", func := "compline/complinelaw09.PairheapFirst", spec := "pairheapFirst", unfollowed := true, recurses := true, apart := false }
def PairheapFirstSaid : Prop := pairheapFirstRow.holds Try.pinned (OpenSpec.ofChange pairheapFirstSpec)

/-- ITS FALSE NEIGHBOUR: 'it returns false'. Refute it at one input. -/
def pairheapFirstWrong : ChangeSpec := { name := "pairheapFirst", fn := fun _ => fun
  | [d1, d2, d3] => { results := [.lit (.bool false)], args := [d1, d2, d3] }
  | _ => none }
def PairheapFirstWrongFalsely : Prop := pairheapFirstRow.holds Try.pinned (OpenSpec.ofChange pairheapFirstWrong)

/-- 'complinelaw09.PairheapMerged': WHATEVER THE INPUT: true; the input reads as it did. -/
def pairheapMergedSpec : ChangeSpec := { name := "pairheapMerged", fn := fun _ => fun
  | [d1, d2, d3, d4] => { results := [.lit (.bool true)], args := [d1, d2, d3, d4] }
  | _ => none }
def pairheapMergedRow : OpenClaim := { program := "ytpbepmipfjcjbaa", sum := "b27df1b1294d43d34c79b79c0e3afccfe0bb2e182e51888262323d5636510201", func := "compline/complinelaw09.PairheapMerged", spec := "pairheapMerged", unfollowed := true, recurses := true, apart := false }
def PairheapMergedSaid : Prop := pairheapMergedRow.holds Try.pinned (OpenSpec.ofChange pairheapMergedSpec)

/-- ITS FALSE NEIGHBOUR: 'it returns false'. Refute it at one input. -/
def pairheapMergedWrong : ChangeSpec := { name := "pairheapMerged", fn := fun _ => fun
  | [d1, d2, d3, d4] => { results := [.lit (.bool false)], args := [d1, d2, d3, d4] }
  | _ => none }
def PairheapMergedWrongFalsely : Prop := pairheapMergedRow.holds Try.pinned (OpenSpec.ofChange pairheapMergedWrong)

/- THE SECOND FORM. 'bulk': how many values and letters a reading holds, each counted each time it is reached (what is shared counts as often as it is met; a slice's spare places count too). A statement '..UptoSaid' is the law's where the arguments, and the package variables that the reading takes, are together of bulk at most 1048576: NARROWER than '..Said'. Prove '..Said' where nothing that the law and all that it calls make is longer than what came in: it says more and counts as full. Else prove '..UptoSaid'. A law counts once. -/
mutual
def uptoBulk {H : Type} : DataW H → Nat
  | .lit (.string bytes) => bytes.length + 1
  | .lit _ => 1
  | .nil => 1
  | .ptr d => uptoBulk d + 1
  | .slice elems spare => uptoBulkAll elems + uptoBulkAll spare + 1
  | .agg parts => uptoBulkAll parts + 1
  | .iface _ d => uptoBulk d + 1
  | .map entries => uptoBulkEntries entries + 1
  | .held _ => 1
def uptoBulkAll {H : Type} : List (DataW H) → Nat
  | [] => 0
  | d :: r => uptoBulk d + uptoBulkAll r
def uptoBulkEntries {H : Type} : List (Lit × DataW H) → Nat
  | [] => 0
  | x :: r => uptoBulkEntry x + uptoBulkEntries r
def uptoBulkEntry {H : Type} : Lit × DataW H → Nat
  | (.string bytes, d) => bytes.length + uptoBulk d + 1
  | (_, d) => uptoBulk d + 1
 end
def uptoSmall : (H : Type) → List (DataW H) → Bool := fun _ ds => decide (uptoBulkAll ds ≤ 1048576)
def OpenSpec.upto (s : _root_.Go.ChangeSpec) : _root_.Go.OpenSpec := { _root_.Go.OpenSpec.ofChange s with cond := some uptoSmall }

/-- 'complinelaw09.PairheapPlays', WHERE WHAT IT READS IS OF BULK AT MOST 1048576: true; the input reads as it did. -/
def pairheapPlaysUptoRow : OpenClaim := { program := "ytpbepmipfjcjbaa", sum := "b27df1b1294d43d34c79b79c0e3afccfe0bb2e182e51888262323d5636510201", func := "compline/complinelaw09.PairheapPlays", spec := "pairheapPlays", unfollowed := true, recurses := true, apart := false, narrowed := true }
def PairheapPlaysUptoSaid : Prop := pairheapPlaysUptoRow.holds Try.pinned (OpenSpec.upto pairheapPlaysSpec)

/-- 'complinelaw09.PairheapMelds', WHERE WHAT IT READS IS OF BULK AT MOST 1048576: true; the input reads as it did. -/
def pairheapMeldsUptoRow : OpenClaim := { program := "ytpbepmipfjcjbaa", sum := "b27df1b1294d43d34c79b79c0e3afccfe0bb2e182e51888262323d5636510201", func := "compline/complinelaw09.PairheapMelds", spec := "pairheapMelds", unfollowed := true, recurses := true, apart := false, narrowed := true }
def PairheapMeldsUptoSaid : Prop := pairheapMeldsUptoRow.holds Try.pinned (OpenSpec.upto pairheapMeldsSpec)

/-- 'complinelaw09.PairheapCuts', WHERE WHAT IT READS IS OF BULK AT MOST 1048576: true; the input reads as it did. -/
def pairheapCutsUptoRow : OpenClaim := { program := "ytpbepmipfjcjbaa", sum := "b27df1b1294d43d34c79b79c0e3afccfe0bb2e182e51888262323d5636510201", func := "compline/complinelaw09.PairheapCuts", spec := "pairheapCuts", unfollowed := true, recurses := true, apart := false, narrowed := true }
def PairheapCutsUptoSaid : Prop := pairheapCutsUptoRow.holds Try.pinned (OpenSpec.upto pairheapCutsSpec)

/-- 'complinelaw09.PairheapFirst', WHERE WHAT IT READS IS OF BULK AT MOST 1048576: true; the input reads as it did. -/
def pairheapFirstUptoRow : OpenClaim := { program := "ytpbepmipfjcjbaa", sum := "b27df1b1294d43d34c79b79c0e3afccfe0bb2e182e51888262323d5636510201", func := "compline/complinelaw09.PairheapFirst", spec := "pairheapFirst", unfollowed := true, recurses := true, apart := false, narrowed := true }
def PairheapFirstUptoSaid : Prop := pairheapFirstUptoRow.holds Try.pinned (OpenSpec.upto pairheapFirstSpec)

/-- 'complinelaw09.PairheapMerged', WHERE WHAT IT READS IS OF BULK AT MOST 1048576: true; the input reads as it did. -/
def pairheapMergedUptoRow : OpenClaim := { program := "ytpbepmipfjcjbaa", sum := "b27df1b1294d43d34c79b79c0e3afccfe0bb2e182e51888262323d5636510201", func := "compline/complinelaw09.PairheapMerged", spec := "pairheapMerged", unfollowed := true, recurses := true, apart := false, narrowed := true }
def PairheapMergedUptoSaid : Prop := pairheapMergedUptoRow.holds Try.pinned (OpenSpec.upto pairheapMergedSpec)

end Rows
end Go.Proofs.Ytpbepmipfjcjbaa
