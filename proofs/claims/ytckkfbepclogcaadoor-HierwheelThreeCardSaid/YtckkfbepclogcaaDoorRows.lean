/-
  NARROWER THAN 'FOR EVERY INPUT', by the rows' own cells (each row's printed sentence says how): HashwheelPlays: laid · HashwheelLooks: laid · HashwheelSoon: laid · HashwheelAny: laid · HashwheelSteps: laid · HierwheelWhere: laid · HierwheelThree: laid · HierwheelFew: laid · HierwheelJumps: laid.
  DERIVED. THE GIVEN ROWS OF THIS SEAT. 9 by the template 'for every input the law returns true; each argument reads behind the call as it read before'; 0 by the template 'total and deterministic' (their statements: YtckkfbepclogcaaDoorTotals.lean).
  GIVEN WITH THE SEED: the statements are not yours to turn. If you find one false, say at which input.
  Laid BY PROGRAM, IN A SANDBOX (cutbox-rows.mjs): the forced cells as the released guide's own fill.sh prints them over the translation 21cdd041c39b9aa5… (all of the seat's roots in one cut). By AI agents, Wed Nov 11 2026. No macro, syntax, notation, axiom, sorry.
-/
import Derived.Test.YtckkfbepclogcaaDoorChecked
import GoSem.Claim
import GoSem.ClaimJoined
import GoSem.ClaimMapViews
import Derived.JoinedTies
import Derived.KernelRfl
namespace Go.Proofs.YtckkfbepclogcaaDoor
/- THE CELL 'sum', in the pinned program and in every row, IS THE sha256 OF THE DUMP (.gsa) THAT YtckkfbepclogcaaDoorProg.lean LOADS. Nothing in Lean hashes anything: it is a label: what it is worth is what the hold of that sum in a sandbox is worth. -/
noncomputable def Tryd.pinned : Pinned := { name := "ytckkfbepclogcaadoor", sum := "21cdd041c39b9aa5f4ce880f1447f44425542efbf7b952e0d8cb3db392b5fdbe", checked := Tryd.checked }
namespace Rows
def none {H : Type} : Left H := { results := [], args := [] }

/- WHAT THE LISTED PACKAGE-LEVEL VARIABLES READ AS WHEN THE CALL BEGINS. Each datum BY PROGRAM (the guide's laid-datum.mjs) off the statement by which the dump's own 'gosem.cut.vars' lays the variable. In a bare row this is a premise. The card (YtckkfbepclogcaaDoorCards.lean) ties it to the program's text. -/
def laid_math_bits_deBruijn64tab {H : Type} : DataW H := .agg [.lit (.int .u8 0), .lit (.int .u8 1), .lit (.int .u8 56), .lit (.int .u8 2), .lit (.int .u8 57), .lit (.int .u8 49), .lit (.int .u8 28), .lit (.int .u8 3), .lit (.int .u8 61), .lit (.int .u8 58), .lit (.int .u8 42), .lit (.int .u8 50), .lit (.int .u8 38), .lit (.int .u8 29), .lit (.int .u8 17), .lit (.int .u8 4), .lit (.int .u8 62), .lit (.int .u8 47), .lit (.int .u8 59), .lit (.int .u8 36), .lit (.int .u8 45), .lit (.int .u8 43), .lit (.int .u8 51), .lit (.int .u8 22), .lit (.int .u8 53), .lit (.int .u8 39), .lit (.int .u8 33), .lit (.int .u8 30), .lit (.int .u8 24), .lit (.int .u8 18), .lit (.int .u8 12), .lit (.int .u8 5), .lit (.int .u8 63), .lit (.int .u8 55), .lit (.int .u8 48), .lit (.int .u8 27), .lit (.int .u8 60), .lit (.int .u8 41), .lit (.int .u8 37), .lit (.int .u8 16), .lit (.int .u8 46), .lit (.int .u8 35), .lit (.int .u8 44), .lit (.int .u8 21), .lit (.int .u8 52), .lit (.int .u8 32), .lit (.int .u8 23), .lit (.int .u8 11), .lit (.int .u8 54), .lit (.int .u8 26), .lit (.int .u8 40), .lit (.int .u8 15), .lit (.int .u8 34), .lit (.int .u8 20), .lit (.int .u8 31), .lit (.int .u8 10), .lit (.int .u8 25), .lit (.int .u8 14), .lit (.int .u8 19), .lit (.int .u8 9), .lit (.int .u8 13), .lit (.int .u8 8), .lit (.int .u8 7), .lit (.int .u8 6)]

/-- 'complinelaw10.HashwheelPlays': WHATEVER THE INPUT: true; the input reads as it did. -/
def hashwheelPlaysSpec : ChangeSpec := { name := "hashwheelPlays", fn := fun _ => fun
  | [d1, d2, d3, d4, d5] => { results := [.lit (.bool true)], args := [d1, d2, d3, d4, d5] }
  | _ => none }
def hashwheelPlaysRow : OpenClaim := { program := "ytckkfbepclogcaadoor", sum := "21cdd041c39b9aa5f4ce880f1447f44425542efbf7b952e0d8cb3db392b5fdbe", func := "compline/complinelaw10.HashwheelPlays", spec := "hashwheelPlays", unfollowed := true, recurses := true, named := ["math/bits.deBruijn64tab"], apart := false, laid := [("math/bits.deBruijn64tab", laid_math_bits_deBruijn64tab)] }
def HashwheelPlaysSaid : Prop := hashwheelPlaysRow.holds Tryd.pinned (OpenSpec.ofChange hashwheelPlaysSpec)

/-- ITS FALSE NEIGHBOUR: 'it returns false'. Refute it at one input. -/
def hashwheelPlaysWrong : ChangeSpec := { name := "hashwheelPlays", fn := fun _ => fun
  | [d1, d2, d3, d4, d5] => { results := [.lit (.bool false)], args := [d1, d2, d3, d4, d5] }
  | _ => none }
def HashwheelPlaysWrongFalsely : Prop := hashwheelPlaysRow.holds Tryd.pinned (OpenSpec.ofChange hashwheelPlaysWrong)

/-- 'complinelaw10.HashwheelLooks': WHATEVER THE INPUT: true; the input reads as it did. -/
def hashwheelLooksSpec : ChangeSpec := { name := "hashwheelLooks", fn := fun _ => fun
  | [d1, d2, d3, d4, d5] => { results := [.lit (.bool true)], args := [d1, d2, d3, d4, d5] }
  | _ => none }
def hashwheelLooksRow : OpenClaim := { program := "ytckkfbepclogcaadoor", sum := "21cdd041c39b9aa5f4ce880f1447f44425542efbf7b952e0d8cb3db392b5fdbe", func := "compline/complinelaw10.HashwheelLooks", spec := "hashwheelLooks", unfollowed := true, recurses := true, named := ["math/bits.deBruijn64tab"], apart := false, laid := [("math/bits.deBruijn64tab", laid_math_bits_deBruijn64tab)] }
def HashwheelLooksSaid : Prop := hashwheelLooksRow.holds Tryd.pinned (OpenSpec.ofChange hashwheelLooksSpec)

/-- ITS FALSE NEIGHBOUR: 'it returns false'. Refute it at one input. -/
def hashwheelLooksWrong : ChangeSpec := { name := "hashwheelLooks", fn := fun _ => fun
  | [d1, d2, d3, d4, d5] => { results := [.lit (.bool false)], args := [d1, d2, d3, d4, d5] }
  | _ => none }
def HashwheelLooksWrongFalsely : Prop := hashwheelLooksRow.holds Tryd.pinned (OpenSpec.ofChange hashwheelLooksWrong)

/-- 'complinelaw10.HashwheelSoon': WHATEVER THE INPUT: true; the input reads as it did. -/
def hashwheelSoonSpec : ChangeSpec := { name := "hashwheelSoon", fn := fun _ => fun
  | [d1, d2, d3, d4, d5] => { results := [.lit (.bool true)], args := [d1, d2, d3, d4, d5] }
  | _ => none }
def hashwheelSoonRow : OpenClaim := { program := "ytckkfbepclogcaadoor", sum := "21cdd041c39b9aa5f4ce880f1447f44425542efbf7b952e0d8cb3db392b5fdbe", func := "compline/complinelaw10.HashwheelSoon", spec := "hashwheelSoon", unfollowed := true, recurses := true, named := ["math/bits.deBruijn64tab"], apart := false, laid := [("math/bits.deBruijn64tab", laid_math_bits_deBruijn64tab)] }
def HashwheelSoonSaid : Prop := hashwheelSoonRow.holds Tryd.pinned (OpenSpec.ofChange hashwheelSoonSpec)

/-- ITS FALSE NEIGHBOUR: 'it returns false'. Refute it at one input. -/
def hashwheelSoonWrong : ChangeSpec := { name := "hashwheelSoon", fn := fun _ => fun
  | [d1, d2, d3, d4, d5] => { results := [.lit (.bool false)], args := [d1, d2, d3, d4, d5] }
  | _ => none }
def HashwheelSoonWrongFalsely : Prop := hashwheelSoonRow.holds Tryd.pinned (OpenSpec.ofChange hashwheelSoonWrong)

/-- 'complinelaw10.HashwheelAny': WHATEVER THE INPUT: true; the input reads as it did. -/
def hashwheelAnySpec : ChangeSpec := { name := "hashwheelAny", fn := fun _ => fun
  | [d1, d2, d3, d4, d5, d6] => { results := [.lit (.bool true)], args := [d1, d2, d3, d4, d5, d6] }
  | _ => none }
def hashwheelAnyRow : OpenClaim := { program := "ytckkfbepclogcaadoor", sum := "21cdd041c39b9aa5f4ce880f1447f44425542efbf7b952e0d8cb3db392b5fdbe", func := "compline/complinelaw10.HashwheelAny", spec := "hashwheelAny", unfollowed := true, recurses := true, named := ["math/bits.deBruijn64tab"], apart := false, laid := [("math/bits.deBruijn64tab", laid_math_bits_deBruijn64tab)] }
def HashwheelAnySaid : Prop := hashwheelAnyRow.holds Tryd.pinned (OpenSpec.ofChange hashwheelAnySpec)

/-- ITS FALSE NEIGHBOUR: 'it returns false'. Refute it at one input. -/
def hashwheelAnyWrong : ChangeSpec := { name := "hashwheelAny", fn := fun _ => fun
  | [d1, d2, d3, d4, d5, d6] => { results := [.lit (.bool false)], args := [d1, d2, d3, d4, d5, d6] }
  | _ => none }
def HashwheelAnyWrongFalsely : Prop := hashwheelAnyRow.holds Tryd.pinned (OpenSpec.ofChange hashwheelAnyWrong)

/-- 'complinelaw10.HashwheelSteps': WHATEVER THE INPUT: true; the input reads as it did. -/
def hashwheelStepsSpec : ChangeSpec := { name := "hashwheelSteps", fn := fun _ => fun
  | [d1, d2, d3, d4, d5] => { results := [.lit (.bool true)], args := [d1, d2, d3, d4, d5] }
  | _ => none }
def hashwheelStepsRow : OpenClaim := { program := "ytckkfbepclogcaadoor", sum := "21cdd041c39b9aa5f4ce880f1447f44425542efbf7b952e0d8cb3db392b5fdbe", func := "compline/complinelaw10.HashwheelSteps", spec := "hashwheelSteps", unfollowed := true, recurses := true, named := ["math/bits.deBruijn64tab"], apart := false, laid := [("math/bits.deBruijn64tab", laid_math_bits_deBruijn64tab)] }
def HashwheelStepsSaid : Prop := hashwheelStepsRow.holds Tryd.pinned (OpenSpec.ofChange hashwheelStepsSpec)

/-- ITS FALSE NEIGHBOUR: 'it returns false'. Refute it at one input. -/
def hashwheelStepsWrong : ChangeSpec := { name := "hashwheelSteps", fn := fun _ => fun
  | [d1, d2, d3, d4, d5] => { results := [.lit (.bool false)], args := [d1, d2, d3, d4, d5] }
  | _ => none }
def HashwheelStepsWrongFalsely : Prop := hashwheelStepsRow.holds Tryd.pinned (OpenSpec.ofChange hashwheelStepsWrong)

/-- 'complinelaw11.HierwheelWhere': WHATEVER THE INPUT: true; the input reads as it did. -/
def hierwheelWhereSpec : ChangeSpec := { name := "hierwheelWhere", fn := fun _ => fun
  | [d1, d2, d3, d4] => { results := [.lit (.bool true)], args := [d1, d2, d3, d4] }
  | _ => none }
def hierwheelWhereRow : OpenClaim := { program := "ytckkfbepclogcaadoor", sum := "21cdd041c39b9aa5f4ce880f1447f44425542efbf7b952e0d8cb3db392b5fdbe", func := "compline/complinelaw11.HierwheelWhere", spec := "hierwheelWhere", unfollowed := true, recurses := true, named := ["math/bits.deBruijn64tab"], apart := false, laid := [("math/bits.deBruijn64tab", laid_math_bits_deBruijn64tab)] }
def HierwheelWhereSaid : Prop := hierwheelWhereRow.holds Tryd.pinned (OpenSpec.ofChange hierwheelWhereSpec)

/-- ITS FALSE NEIGHBOUR: 'it returns false'. Refute it at one input. -/
def hierwheelWhereWrong : ChangeSpec := { name := "hierwheelWhere", fn := fun _ => fun
  | [d1, d2, d3, d4] => { results := [.lit (.bool false)], args := [d1, d2, d3, d4] }
  | _ => none }
def HierwheelWhereWrongFalsely : Prop := hierwheelWhereRow.holds Tryd.pinned (OpenSpec.ofChange hierwheelWhereWrong)

/-- 'complinelaw11.HierwheelThree': WHATEVER THE INPUT: true; the input reads as it did. -/
def hierwheelThreeSpec : ChangeSpec := { name := "hierwheelThree", fn := fun _ => fun
  | [d1, d2, d3, d4] => { results := [.lit (.bool true)], args := [d1, d2, d3, d4] }
  | _ => none }
def hierwheelThreeRow : OpenClaim := { program := "ytckkfbepclogcaadoor", sum := "21cdd041c39b9aa5f4ce880f1447f44425542efbf7b952e0d8cb3db392b5fdbe", func := "compline/complinelaw11.HierwheelThree", spec := "hierwheelThree", unfollowed := true, recurses := true, named := ["math/bits.deBruijn64tab"], apart := false, laid := [("math/bits.deBruijn64tab", laid_math_bits_deBruijn64tab)] }
def HierwheelThreeSaid : Prop := hierwheelThreeRow.holds Tryd.pinned (OpenSpec.ofChange hierwheelThreeSpec)

/-- ITS FALSE NEIGHBOUR: 'it returns false'. Refute it at one input. -/
def hierwheelThreeWrong : ChangeSpec := { name := "hierwheelThree", fn := fun _ => fun
  | [d1, d2, d3, d4] => { results := [.lit (.bool false)], args := [d1, d2, d3, d4] }
  | _ => none }
def HierwheelThreeWrongFalsely : Prop := hierwheelThreeRow.holds Tryd.pinned (OpenSpec.ofChange hierwheelThreeWrong)

/-- 'complinelaw11.HierwheelFew': WHATEVER THE INPUT: true; the input reads as it did. -/
def hierwheelFewSpec : ChangeSpec := { name := "hierwheelFew", fn := fun _ => fun
  | [d1, d2, d3, d4] => { results := [.lit (.bool true)], args := [d1, d2, d3, d4] }
  | _ => none }
def hierwheelFewRow : OpenClaim := { program := "ytckkfbepclogcaadoor", sum := "21cdd041c39b9aa5f4ce880f1447f44425542efbf7b952e0d8cb3db392b5fdbe", func := "compline/complinelaw11.HierwheelFew", spec := "hierwheelFew", unfollowed := true, recurses := true, named := ["math/bits.deBruijn64tab"], apart := false, laid := [("math/bits.deBruijn64tab", laid_math_bits_deBruijn64tab)] }
def HierwheelFewSaid : Prop := hierwheelFewRow.holds Tryd.pinned (OpenSpec.ofChange hierwheelFewSpec)

/-- ITS FALSE NEIGHBOUR: 'it returns false'. Refute it at one input. -/
def hierwheelFewWrong : ChangeSpec := { name := "hierwheelFew", fn := fun _ => fun
  | [d1, d2, d3, d4] => { results := [.lit (.bool false)], args := [d1, d2, d3, d4] }
  | _ => none }
def HierwheelFewWrongFalsely : Prop := hierwheelFewRow.holds Tryd.pinned (OpenSpec.ofChange hierwheelFewWrong)

/-- 'complinelaw11.HierwheelJumps': WHATEVER THE INPUT: true; the input reads as it did. -/
def hierwheelJumpsSpec : ChangeSpec := { name := "hierwheelJumps", fn := fun _ => fun
  | [d1, d2, d3, d4] => { results := [.lit (.bool true)], args := [d1, d2, d3, d4] }
  | _ => none }
def hierwheelJumpsRow : OpenClaim := { program := "ytckkfbepclogcaadoor", sum := "21cdd041c39b9aa5f4ce880f1447f44425542efbf7b952e0d8cb3db392b5fdbe", func := "compline/complinelaw11.HierwheelJumps", spec := "hierwheelJumps", unfollowed := true, recurses := true, named := ["math/bits.deBruijn64tab"], apart := false, laid := [("math/bits.deBruijn64tab", laid_math_bits_deBruijn64tab)] }
def HierwheelJumpsSaid : Prop := hierwheelJumpsRow.holds Tryd.pinned (OpenSpec.ofChange hierwheelJumpsSpec)

/-- ITS FALSE NEIGHBOUR: 'it returns false'. Refute it at one input. -/
def hierwheelJumpsWrong : ChangeSpec := { name := "hierwheelJumps", fn := fun _ => fun
  | [d1, d2, d3, d4] => { results := [.lit (.bool false)], args := [d1, d2, d3, d4] }
  | _ => none }
def HierwheelJumpsWrongFalsely : Prop := hierwheelJumpsRow.holds Tryd.pinned (OpenSpec.ofChange hierwheelJumpsWrong)

/- THE SECOND FORM. 'bulk': how many values and letters a reading holds, each counted each time it is reached (what is shared counts as often as it is met; a slice's spare places count too). A statement '..UptoSaid' is the law's where the arguments, and the package variables that the reading takes, are together of bulk at most 1048576: NARROWER than '..Said'. Prove '..Said' where nothing that the law and all that it calls make is longer than what came in: it says more and counts as full. Else prove '..UptoSaid'. A law counts once. -/
mutual
def uptoBulk {H : Type} : DataW H → Nat
  | .lit (.string bytes) => bytes.length + 1
  | .lit _ => 1
  | .nil => 1
  | .ptr d => uptoBulk d + 1
  | .slice elems spare => uptoBulkAll elems + uptoBulkAll spare + 1
  | .agg parts => uptoBulkAll parts + 1
  | .iface _ d => uptoBulk d + 1
  | .map entries => uptoBulkEntries entries + 1
  | .held _ => 1
def uptoBulkAll {H : Type} : List (DataW H) → Nat
  | [] => 0
  | d :: r => uptoBulk d + uptoBulkAll r
def uptoBulkEntries {H : Type} : List (Lit × DataW H) → Nat
  | [] => 0
  | x :: r => uptoBulkEntry x + uptoBulkEntries r
def uptoBulkEntry {H : Type} : Lit × DataW H → Nat
  | (.string bytes, d) => bytes.length + uptoBulk d + 1
  | (_, d) => uptoBulk d + 1
 end
def uptoSmall : (H : Type) → List (DataW H) → Bool := fun _ ds => decide (uptoBulkAll ds ≤ 1048576)
def OpenSpec.upto (s : _root_.Go.ChangeSpec) : _root_.Go.OpenSpec := { _root_.Go.OpenSpec.ofChange s with cond := some uptoSmall }

/-- 'complinelaw10.HashwheelPlays', WHERE WHAT IT READS IS OF BULK AT MOST 1048576: true; the input reads as it did. -/
def hashwheelPlaysUptoRow : OpenClaim := { program := "ytckkfbepclogcaadoor", sum := "21cdd041c39b9aa5f4ce880f1447f44425542efbf7b952e0d8cb3db392b5fdbe", func := "compline/complinelaw10.HashwheelPlays", spec := "hashwheelPlays", unfollowed := true, recurses := true, named := ["math/bits.deBruijn64tab"], apart := false, laid := [("math/bits.deBruijn64tab", laid_math_bits_deBruijn64tab)], narrowed := true }
def HashwheelPlaysUptoSaid : Prop := hashwheelPlaysUptoRow.holds Tryd.pinned (OpenSpec.upto hashwheelPlaysSpec)

/-- 'complinelaw10.HashwheelLooks', WHERE WHAT IT READS IS OF BULK AT MOST 1048576: true; the input reads as it did. -/
def hashwheelLooksUptoRow : OpenClaim := { program := "ytckkfbepclogcaadoor", sum := "21cdd041c39b9aa5f4ce880f1447f44425542efbf7b952e0d8cb3db392b5fdbe", func := "compline/complinelaw10.HashwheelLooks", spec := "hashwheelLooks", unfollowed := true, recurses := true, named := ["math/bits.deBruijn64tab"], apart := false, laid := [("math/bits.deBruijn64tab", laid_math_bits_deBruijn64tab)], narrowed := true }
def HashwheelLooksUptoSaid : Prop := hashwheelLooksUptoRow.holds Tryd.pinned (OpenSpec.upto hashwheelLooksSpec)

/-- 'complinelaw10.HashwheelSoon', WHERE WHAT IT READS IS OF BULK AT MOST 1048576: true; the input reads as it did. -/
def hashwheelSoonUptoRow : OpenClaim := { program := "ytckkfbepclogcaadoor", sum := "21cdd041c39b9aa5f4ce880f1447f44425542efbf7b952e0d8cb3db392b5fdbe", func := "compline/complinelaw10.HashwheelSoon", spec := "hashwheelSoon", unfollowed := true, recurses := true, named := ["math/bits.deBruijn64tab"], apart := false, laid := [("math/bits.deBruijn64tab", laid_math_bits_deBruijn64tab)], narrowed := true }
def HashwheelSoonUptoSaid : Prop := hashwheelSoonUptoRow.holds Tryd.pinned (OpenSpec.upto hashwheelSoonSpec)

/-- 'complinelaw10.HashwheelAny', WHERE WHAT IT READS IS OF BULK AT MOST 1048576: true; the input reads as it did. -/
def hashwheelAnyUptoRow : OpenClaim := { program := "ytckkfbepclogcaadoor", sum := "21cdd041c39b9aa5f4ce880f1447f44425542efbf7b952e0d8cb3db392b5fdbe", func := "compline/complinelaw10.HashwheelAny", spec := "hashwheelAny", unfollowed := true, recurses := true, named := ["math/bits.deBruijn64tab"], apart := false, laid := [("math/bits.deBruijn64tab", laid_math_bits_deBruijn64tab)], narrowed := true }
def HashwheelAnyUptoSaid : Prop := hashwheelAnyUptoRow.holds Tryd.pinned (OpenSpec.upto hashwheelAnySpec)

/-- 'complinelaw10.HashwheelSteps', WHERE WHAT IT READS IS OF BULK AT MOST 1048576: true; the input reads as it did. -/
def hashwheelStepsUptoRow : OpenClaim := { program := "ytckkfbepclogcaadoor", sum := "21cdd041c39b9aa5f4ce880f1447f44425542efbf7b952e0d8cb3db392b5fdbe", func := "compline/complinelaw10.HashwheelSteps", spec := "hashwheelSteps", unfollowed := true, recurses := true, named := ["math/bits.deBruijn64tab"], apart := false, laid := [("math/bits.deBruijn64tab", laid_math_bits_deBruijn64tab)], narrowed := true }
def HashwheelStepsUptoSaid : Prop := hashwheelStepsUptoRow.holds Tryd.pinned (OpenSpec.upto hashwheelStepsSpec)

/-- 'complinelaw11.HierwheelWhere', WHERE WHAT IT READS IS OF BULK AT MOST 1048576: true; the input reads as it did. -/
def hierwheelWhereUptoRow : OpenClaim := { program := "ytckkfbepclogcaadoor", sum := "21cdd041c39b9aa5f4ce880f1447f44425542efbf7b952e0d8cb3db392b5fdbe", func := "compline/complinelaw11.HierwheelWhere", spec := "hierwheelWhere", unfollowed := true, recurses := true, named := ["math/bits.deBruijn64tab"], apart := false, laid := [("math/bits.deBruijn64tab", laid_math_bits_deBruijn64tab)], narrowed := true }
def HierwheelWhereUptoSaid : Prop := hierwheelWhereUptoRow.holds Tryd.pinned (OpenSpec.upto hierwheelWhereSpec)

/-- 'complinelaw11.HierwheelThree', WHERE WHAT IT READS IS OF BULK AT MOST 1048576: true; the input reads as it did. -/
def hierwheelThreeUptoRow : OpenClaim := { program := "ytckkfbepclogcaadoor", sum := "21cdd041c39b9aa5f4ce880f1447f44425542efbf7b952e0d8cb3db392b5fdbe", func := "compline/complinelaw11.HierwheelThree", spec := "hierwheelThree", unfollowed := true, recurses := true, named := ["math/bits.deBruijn64tab"], apart := false, laid := [("math/bits.deBruijn64tab", laid_math_bits_deBruijn64tab)], narrowed := true }
def HierwheelThreeUptoSaid : Prop := hierwheelThreeUptoRow.holds Tryd.pinned (OpenSpec.upto hierwheelThreeSpec)

/-- 'complinelaw11.HierwheelFew', WHERE WHAT IT READS IS OF BULK AT MOST 1048576: true; the input reads as it did. -/
def hierwheelFewUptoRow : OpenClaim := { program := "ytckkfbepclogcaadoor", sum := "21cdd041c39b9aa5f4ce880f1447f44425542efbf7b952e0d8cb3db392b5fdbe", func := "compline/complinelaw11.HierwheelFew", spec := "hierwheelFew", unfollowed := true, recurses := true, named := ["math/bits.deBruijn64tab"], apart := false, laid := [("math/bits.deBruijn64tab", laid_math_bits_deBruijn64tab)], narrowed := true }
def HierwheelFewUptoSaid : Prop := hierwheelFewUptoRow.holds Tryd.pinned (OpenSpec.upto hierwheelFewSpec)

/-- 'complinelaw11.HierwheelJumps', WHERE WHAT IT READS IS OF BULK AT MOST 1048576: true; the input reads as it did. -/
def hierwheelJumpsUptoRow : OpenClaim := { program := "ytckkfbepclogcaadoor", sum := "21cdd041c39b9aa5f4ce880f1447f44425542efbf7b952e0d8cb3db392b5fdbe", func := "compline/complinelaw11.HierwheelJumps", spec := "hierwheelJumps", unfollowed := true, recurses := true, named := ["math/bits.deBruijn64tab"], apart := false, laid := [("math/bits.deBruijn64tab", laid_math_bits_deBruijn64tab)], narrowed := true }
def HierwheelJumpsUptoSaid : Prop := hierwheelJumpsUptoRow.holds Tryd.pinned (OpenSpec.upto hierwheelJumpsSpec)

end Rows
end Go.Proofs.YtckkfbepclogcaaDoor
