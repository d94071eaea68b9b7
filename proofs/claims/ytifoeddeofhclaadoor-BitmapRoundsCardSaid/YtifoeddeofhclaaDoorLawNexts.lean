/- Layer 2 (bitmap): BitmapNexts, BitmapRounds answers true, whatever it is asked. -/
import Derived.Test.YtifoeddeofhclaaDoorNexts
import Derived.Test.YtifoeddeofhclaaDoorWorks3
namespace Go.Proofs.YtifoeddeofhclaaDoor
open Go.RowKit
theorem nexts_all (b : Bits) (i : Int) (w : World) (hb : b.Ok) (hT : TabAt w) : Calls Tryd.prog 6 #[b.val, .int .i64 i] w fun e w' => e = .returned (.bool true) ∧ Below w.heap.size w w' := nexts_walk works_any b i w hb hT
theorem rounds_all (b : Bits) (i n : Int) (w : World) (hb : b.Ok) (hT : TabAt w) : Calls Tryd.prog 7 #[b.val, .int .i64 i, .int .i64 n] w fun e w' => e = .returned (.bool true) ∧ Below w.heap.size w w' := rounds_walk works_any b i n w hb hT
end Go.Proofs.YtifoeddeofhclaaDoor
