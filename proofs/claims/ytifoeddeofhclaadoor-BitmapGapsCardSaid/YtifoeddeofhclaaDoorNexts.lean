/- Layer 2 (bitmap): the statements' walks: Nexts, Rounds. -/
import Derived.Test.YtifoeddeofhclaaDoorLast
namespace Go.Proofs.YtifoeddeofhclaaDoor
open Go.RowKit

def Works : Prop := ∀ w, TabAt w → Calls Tryd.prog 9 #[] w fun e w' => e = .returned (.bool true) ∧ Below w.heap.size w w'
set_option maxRecDepth 100000 in
set_option maxHeartbeats 4000000 in
theorem nexts_walk (hwk : Works) (b : Bits) (i : Int) (w : World) (hb : b.Ok) (hT : TabAt w) : Calls Tryd.prog 6 #[b.val, .int .i64 i] w fun e w' => e = .returned (.bool true) ∧ Below w.heap.size w w' := by
  have hcells : b.cells = #[.int .u64 b.w0, .int .u64 b.w1, .int .u64 b.w2, .int .u64 b.w3] := rfl
  have hgl := glob_lt hT
  have g0 : Below w.heap.size w (w.alloc (.cells b.cells 24)) := (Below.refl _ _).alloc (Nat.le_refl _) _
  have B0 : Blk (w.alloc (.cells b.cells 24)) w.heap.size 24 b.cells := Blk.new w 24 b.cells
  have l0 := B0.lt
  have hwk0 := hwk _ (hT.below g0 hgl)
  unfold Bits.val
  go_enter Tryd.func6, Tryd.ntmps6
  go_wp2_with fail
  refine (hwk0).mono ?_
  rintro e w1 ⟨rfl, hx⟩
  try clear hc
  have g1 : Below w.heap.size w w1 := g0.trans (Below.mono (hx) g0.size)
  have B1 : Blk w1 w.heap.size 24 b.cells := Blk.below B0 (hx) l0
  have l1 := B1.lt
  have hc := B1.cell
  rw [hcells] at hc
  clear hx g0 B0 l0
  skip
  go_wp2_with fail
  refine (next_any b i _ hb (hT.below g1 hgl)).mono ?_
  rintro e w2 ⟨rfl, hx⟩
  try clear hc
  have g2 : Below w.heap.size w w2 := g1.trans (Below.mono (hx) g1.size)
  have B2 : Blk w2 w.heap.size 24 b.cells := Blk.below B1 (hx) l1
  have l2 := B2.lt
  have hc := B2.cell
  rw [hcells] at hc
  clear hx g1 B1 l1
  unfold pairV
  go_wp2_with fail
  refine (rnext_any b i _ hb).mono ?_
  rintro e w3 ⟨rfl, hx⟩
  try clear hc
  have g3 : Below w.heap.size w w3 := g2.trans (Below.mono (hx) g2.size)
  have B3 : Blk w3 w.heap.size 24 b.cells := Blk.below B2 (hx) l2
  have l3 := B3.lt
  have hc := B3.cell
  rw [hcells] at hc
  clear hx g2 B2 l2
  unfold pairV
  go_wp2_with fail
  refine (last_any b i _ hb).mono ?_
  rintro e w4 ⟨rfl, hx⟩
  try clear hc
  have g4 : Below w.heap.size w w4 := g3.trans (Below.mono (hx) g3.size)
  have B4 : Blk w4 w.heap.size 24 b.cells := Blk.below B3 (hx) l3
  have l4 := B4.lt
  have hc := B4.cell
  rw [hcells] at hc
  clear hx g3 B3 l3
  unfold pairV
  go_wp2_with fail
  refine (rlast_any b i _ hb).mono ?_
  rintro e w5 ⟨rfl, hx⟩
  try clear hc
  have g5 : Below w.heap.size w w5 := g4.trans (Below.mono (hx) g4.size)
  have B5 : Blk w5 w.heap.size 24 b.cells := Blk.below B4 (hx) l4
  have l5 := B5.lt
  have hc := B5.cell
  rw [hcells] at hc
  clear hx g4 B4 l4
  unfold pairV
  go_wp2_with fail
  go_ret
  exact ⟨rfl, g5⟩
set_option maxRecDepth 100000 in
set_option maxHeartbeats 4000000 in
theorem rounds_walk (hwk : Works) (b : Bits) (i n : Int) (w : World) (hb : b.Ok) (hT : TabAt w) : Calls Tryd.prog 7 #[b.val, .int .i64 i, .int .i64 n] w fun e w' => e = .returned (.bool true) ∧ Below w.heap.size w w' := by
  have hcells : b.cells = #[.int .u64 b.w0, .int .u64 b.w1, .int .u64 b.w2, .int .u64 b.w3] := rfl
  have hgl := glob_lt hT
  have g0 : Below w.heap.size w (w.alloc (.cells b.cells 24)) := (Below.refl _ _).alloc (Nat.le_refl _) _
  have B0 : Blk (w.alloc (.cells b.cells 24)) w.heap.size 24 b.cells := Blk.new w 24 b.cells
  have l0 := B0.lt
  have hwk0 := hwk _ (hT.below g0 hgl)
  unfold Bits.val
  go_enter Tryd.func7, Tryd.ntmps7
  go_wp2_with fail
  refine (hwk0).mono ?_
  rintro e w1 ⟨rfl, hx⟩
  try clear hc
  have g1 : Below w.heap.size w w1 := g0.trans (Below.mono (hx) g0.size)
  have B1 : Blk w1 w.heap.size 24 b.cells := Blk.below B0 (hx) l0
  have l1 := B1.lt
  have hc := B1.cell
  rw [hcells] at hc
  clear hx g0 B0 l0
  skip
  go_wp2_with fail
  refine (round_any b i n _ hb (hT.below g1 hgl)).mono ?_
  rintro e w2 ⟨rfl, hx⟩
  try clear hc
  have g2 : Below w.heap.size w w2 := g1.trans (Below.mono (hx) g1.size)
  have B2 : Blk w2 w.heap.size 24 b.cells := Blk.below B1 (hx) l1
  have l2 := B2.lt
  have hc := B2.cell
  rw [hcells] at hc
  clear hx g1 B1 l1
  unfold pairV
  go_wp2_with fail
  refine (rround_any b i n _ hb).mono ?_
  rintro e w3 ⟨rfl, hx⟩
  try clear hc
  have g3 : Below w.heap.size w w3 := g2.trans (Below.mono (hx) g2.size)
  have B3 : Blk w3 w.heap.size 24 b.cells := Blk.below B2 (hx) l2
  have l3 := B3.lt
  have hc := B3.cell
  rw [hcells] at hc
  clear hx g2 B2 l2
  unfold pairV
  go_wp2_with fail
  go_ret
  exact ⟨rfl, g3⟩
end Go.Proofs.YtifoeddeofhclaaDoor
