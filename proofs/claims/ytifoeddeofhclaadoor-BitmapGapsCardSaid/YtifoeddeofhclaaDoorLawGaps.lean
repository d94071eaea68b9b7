/- Layer 2 (bitmap): BitmapGaps answers true, whatever it is asked. -/
import Derived.Test.YtifoeddeofhclaaDoorGaps
import Derived.Test.YtifoeddeofhclaaDoorWorks3
namespace Go.Proofs.YtifoeddeofhclaaDoor
open Go.RowKit
theorem gaps_all (b : Bits) (i : Int) (w : World) (hb : b.Ok) (hT : TabAt w) : Calls Tryd.prog 8 #[b.val, .int .i64 i] w fun e w' => e = .returned (.bool true) ∧ Below w.heap.size w w' := gaps_walk works_any b i w hb hT
end Go.Proofs.YtifoeddeofhclaaDoor
