/- Order: order.Sorted. -/
import Derived.Test.YtfdbimkddkohnaaIsSo
namespace Go.Proofs.Ytfdbimkddkohnaa
open Go.RowKit
set_option maxRecDepth 100000 in
set_option maxHeartbeats 2000000 in
theorem sorted_any (A : Option Addr) (l : List Timer) (c : Nat) (w : World) (h : TmAt w w.heap.size A l) (hl : l.length ≤ 1000000) :
    Calls Try.prog 36 #[.slice A l.length c] w fun e w' => e = .returned (.bool (srtB l)) ∧ Below w.heap.size w w' := by
  have hs := issorted_any A l c w h hl
  go_enter Try.func36, Try.ntmps36
  go_wp2_with fail
  refine hs.mono ?_
  rintro e w1 ⟨rfl, hx⟩
  go_wp2_with fail
  go_ret
  exact ⟨rfl, hx⟩
end Go.Proofs.Ytfdbimkddkohnaa
