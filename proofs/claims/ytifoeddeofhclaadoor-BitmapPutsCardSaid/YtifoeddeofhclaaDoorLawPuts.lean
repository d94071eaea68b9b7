/- Layer 2 (bitmap): BitmapPuts answers true, whatever it is asked. -/
import Derived.Test.YtifoeddeofhclaaDoorPuts
namespace Go.Proofs.YtifoeddeofhclaaDoor
open Go.RowKit
theorem puts_walk (b : Bits) (i j : Int) (w : World) (hb : b.Ok) (hT : TabAt w) : Calls Tryd.prog 3 #[b.val, .int .i64 i, .int .i64 j] w fun e w' => e = .returned (.bool true) ∧ Below w.heap.size w w' :=
  puts_core b (b.put i) (b.drop i) i j _ _ _ w hb (hb.put i) (hb.drop i) hT (Lib.hid rfl) (Lib.hid rfl) (Lib.hid rfl) (Lib.hid rfl) (Lib.hid rfl)
end Go.Proofs.YtifoeddeofhclaaDoor
