/- Layer 2 (bitmap): the statement Gaps, walked. -/
import Derived.Test.YtifoeddeofhclaaDoorNexts
import Derived.Test.YtifoeddeofhclaaDoorPlain2
namespace Go.Proofs.YtifoeddeofhclaaDoor
open Go.RowKit

set_option maxRecDepth 100000 in
set_option maxHeartbeats 4000000 in
theorem gaps_none (hwk : Works) (b : Bits) (i : Int) (w : World) (hb : b.Ok) (hT : TabAt w) (HO : Hid (b.next i = none)) : Calls Tryd.prog 8 #[b.val, .int .i64 i] w fun e w' => e = .returned (.bool true) ∧ Below w.heap.size w w' := by
  have HN : Hid ((b.next i).getD 256 = 256) := Lib.hid (by rw [HO.out]; rfl)
  have hcells : b.cells = #[.int .u64 b.w0, .int .u64 b.w1, .int .u64 b.w2, .int .u64 b.w3] := rfl
  have hgl := glob_lt hT
  have g0 : Below w.heap.size w (w.alloc (.cells b.cells 24)) := (Below.refl _ _).alloc (Nat.le_refl _) _
  have B0 : Blk (w.alloc (.cells b.cells 24)) w.heap.size 24 b.cells := Blk.new w 24 b.cells
  have l0 := B0.lt
  have hwk0 := hwk _ (hT.below g0 hgl)
  unfold Bits.val
  go_enter Tryd.func8, Tryd.ntmps8
  go_wp2_with fail
  refine (hwk0).mono ?_
  rintro e w1 ⟨rfl, hx⟩
  try clear hc
  have g1 : Below w.heap.size w w1 := g0.trans (Below.mono (hx) g0.size)
  have B1 : Blk w1 w.heap.size 24 b.cells := Blk.below B0 (hx) l0
  have l1 := B1.lt
  have hc := B1.cell
  rw [hcells] at hc
  clear hx g0 B0 l0
  skip
  go_wp2_with fail
  refine (next_any b i _ hb (hT.below g1 hgl)).mono ?_
  rintro e w2 ⟨rfl, hx⟩
  try clear hc
  have g2 : Below w.heap.size w w2 := g1.trans (Below.mono (hx) g1.size)
  have B2 : Blk w2 w.heap.size 24 b.cells := Blk.below B1 (hx) l1
  have l2 := B2.lt
  have hc := B2.cell
  rw [hcells] at hc
  clear hx g1 B1 l1
  rw [HO.out]; unfold pairV
  go_wp2_with fail
  go_loopw [8, 9] (fun p _ wr => ∃ k : Nat, (k : Int) ≤ (256 : Int) ∧ p = .int .i64 k ∧ Blk wr w.heap.size 24 b.cells ∧ Below w.heap.size w wr) (fun p _ _ => 256 - (intOf p).toNat)
  case atStart => exact ⟨0, by omega, rfl, B2, g2⟩
  case round =>
    obtain ⟨k, hk, rfl, Br, gr⟩ := hrel
    clear B2 g2 l2 hc
    have lr := Br.lt
    have hc := Br.cell
    rw [hcells] at hc
    by_cases hkN : (k : Int) < (256 : Int)
    · have hk256 : (k : Int) < 256 := by omega
      go_wp2_with fail
      refine (has_any b k _ hb).mono ?_
      rintro e w8 ⟨rfl, hx⟩
      have B8 := Blk.below Br hx lr
      have g8 := gr.trans (Below.mono hx gr.size)
      clear hx Br gr lr hc
      by_cases hf : i ≤ (k : Int)
      · have hh : b.has k = false := gap_none b i k (by rw [HN.out]; exact hkN) hf
        go_wp2_with fail
        go_roundw
        case rel => exact ⟨k + 1, by omega, by go_num, B8, g8⟩
        case measure => simp [intOf]; omega
      · go_wp2_with fail
        go_roundw
        case rel => exact ⟨k + 1, by omega, by go_num, B8, g8⟩
        case measure => simp [intOf]; omega
    · obtain rfl : k = 256 := by omega
      clear hk hkN
      go_wp2_with fail
      refine (last_any b 255 _ hb).mono ?_
      rintro e w8 ⟨rfl, hx⟩
      have g8 := gr.trans (Below.mono hx gr.size)
      clear hx Br gr lr hc
      cases hl : b.last 255 with
      | none =>
        unfold pairV
        go_wp2_with fail
        go_ret
        exact ⟨rfl, g8⟩
      | some y =>
        have hy : y < i := gap_last b i y (by rw [HN.out]; exact hl)
        unfold pairV
        go_wp2_with fail
        go_ret
        exact ⟨rfl, g8⟩
set_option maxRecDepth 100000 in
set_option maxHeartbeats 4000000 in
theorem gaps_some (hwk : Works) (b : Bits) (i x : Int) (w : World) (hb : b.Ok) (hT : TabAt w) (HO : Hid (b.next i = some x)) (hix : i ≤ x) (hx0 : 0 ≤ x ∧ x < 256) (HX : Hid (b.has x = true)) : Calls Tryd.prog 8 #[b.val, .int .i64 i] w fun e w' => e = .returned (.bool true) ∧ Below w.heap.size w w' := by
  have HN : Hid ((b.next i).getD 256 = x) := Lib.hid (by rw [HO.out]; rfl)
  have hcells : b.cells = #[.int .u64 b.w0, .int .u64 b.w1, .int .u64 b.w2, .int .u64 b.w3] := rfl
  have hgl := glob_lt hT
  have g0 : Below w.heap.size w (w.alloc (.cells b.cells 24)) := (Below.refl _ _).alloc (Nat.le_refl _) _
  have B0 : Blk (w.alloc (.cells b.cells 24)) w.heap.size 24 b.cells := Blk.new w 24 b.cells
  have l0 := B0.lt
  have hwk0 := hwk _ (hT.below g0 hgl)
  unfold Bits.val
  go_enter Tryd.func8, Tryd.ntmps8
  go_wp2_with fail
  refine (hwk0).mono ?_
  rintro e w1 ⟨rfl, hx⟩
  try clear hc
  have g1 : Below w.heap.size w w1 := g0.trans (Below.mono (hx) g0.size)
  have B1 : Blk w1 w.heap.size 24 b.cells := Blk.below B0 (hx) l0
  have l1 := B1.lt
  have hc := B1.cell
  rw [hcells] at hc
  clear hx g0 B0 l0
  skip
  go_wp2_with fail
  refine (next_any b i _ hb (hT.below g1 hgl)).mono ?_
  rintro e w2 ⟨rfl, hx⟩
  try clear hc
  have g2 : Below w.heap.size w w2 := g1.trans (Below.mono (hx) g1.size)
  have B2 : Blk w2 w.heap.size 24 b.cells := Blk.below B1 (hx) l1
  have l2 := B2.lt
  have hc := B2.cell
  rw [hcells] at hc
  clear hx g1 B1 l1
  rw [HO.out]; unfold pairV
  go_wp2_with fail
  refine (has_any b x _ hb).mono ?_
  rintro e w3 ⟨rfl, hx⟩
  try clear hc
  have g3 : Below w.heap.size w w3 := g2.trans (Below.mono (hx) g2.size)
  have B3 : Blk w3 w.heap.size 24 b.cells := Blk.below B2 (hx) l2
  have l3 := B3.lt
  have hc := B3.cell
  rw [hcells] at hc
  clear hx g2 B2 l2
  rw [HX.out]
  go_wp2_with fail
  go_loopw [8, 9] (fun p _ wr => ∃ k : Nat, (k : Int) ≤ x ∧ p = .int .i64 k ∧ Blk wr w.heap.size 24 b.cells ∧ Below w.heap.size w wr) (fun p _ _ => 256 - (intOf p).toNat)
  case atStart => exact ⟨0, by omega, rfl, B3, g3⟩
  case round =>
    obtain ⟨k, hk, rfl, Br, gr⟩ := hrel
    clear B3 g3 l3 hc
    have lr := Br.lt
    have hc := Br.cell
    rw [hcells] at hc
    by_cases hkN : (k : Int) < x
    · have hk256 : (k : Int) < 256 := by omega
      go_wp2_with fail
      refine (has_any b k _ hb).mono ?_
      rintro e w8 ⟨rfl, hx⟩
      have B8 := Blk.below Br hx lr
      have g8 := gr.trans (Below.mono hx gr.size)
      clear hx Br gr lr hc
      by_cases hf : i ≤ (k : Int)
      · have hh : b.has k = false := gap_none b i k (by rw [HN.out]; exact hkN) hf
        go_wp2_with fail
        go_roundw
        case rel => exact ⟨k + 1, by omega, by go_num, B8, g8⟩
        case measure => simp [intOf]; omega
      · go_wp2_with fail
        go_roundw
        case rel => exact ⟨k + 1, by omega, by go_num, B8, g8⟩
        case measure => simp [intOf]; omega
    · obtain rfl : x = (k : Int) := by omega
      clear hk hkN
      go_wp2_with fail
      refine (last_any b ((k : Int) - 1) _ hb).mono ?_
      rintro e w8 ⟨rfl, hx⟩
      have g8 := gr.trans (Below.mono hx gr.size)
      clear hx Br gr lr hc
      cases hl : b.last ((k : Int) - 1) with
      | none =>
        unfold pairV
        go_wp2_with fail
        go_ret
        exact ⟨rfl, g8⟩
      | some y =>
        have hy : y < i := gap_last b i y (by rw [HN.out]; exact hl)
        unfold pairV
        go_wp2_with fail
        go_ret
        exact ⟨rfl, g8⟩
theorem gaps_walk (hwk : Works) (b : Bits) (i : Int) (w : World) (hb : b.Ok) (hT : TabAt w) : Calls Tryd.prog 8 #[b.val, .int .i64 i] w fun e w' => e = .returned (.bool true) ∧ Below w.heap.size w w' := by
  cases ho : b.next i with
  | none => exact gaps_none hwk b i w hb hT (Lib.hid ho)
  | some x =>
    obtain ⟨hix, hhx⟩ := next_some b i x ho
    have hx0 : 0 ≤ x ∧ x < 256 := by
      unfold Bits.has at hhx
      rw [Bool.and_eq_true, decide_eq_true_iff] at hhx
      exact hhx.1
    exact gaps_some hwk b i x w hb hT (Lib.hid ho) hix hx0 (Lib.hid hhx)
end Go.Proofs.YtifoeddeofhclaaDoor
