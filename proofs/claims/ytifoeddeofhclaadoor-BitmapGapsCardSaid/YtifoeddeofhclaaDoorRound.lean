/- Layer 2 (bitmap): Round, walked. -/
import Derived.Test.YtifoeddeofhclaaDoorNext2
namespace Go.Proofs.YtifoeddeofhclaaDoor
open Go.RowKit

theorem round_any (b : Bits) (i n : Int) (w : World) (hb : b.Ok) (hT : TabAt w) : Calls Tryd.prog 27 #[b.val, .int .i64 i, .int .i64 n] w fun e w' => e = .returned (pairV (b.round i n)) ∧ Below w.heap.size w w' := by
  have hbl0 : Below w.heap.size w (w.alloc (.cells b.cells 24)) := (Below.refl _ _).alloc (Nat.le_refl _) _
  by_cases h0 : i < 0
  · have hR := Lib.hid (show b.round i n = none by unfold Bits.round; rw [if_pos (.inl h0)])
    unfold Bits.val
    go_enter Tryd.func27, Tryd.ntmps27
    go_wp2
    refine bodyPost_ret (v := pairV (none)) (by simp [results, Tryd.results27, go_sem, pairV]) rfl ⟨by rw [hR.out], ?_⟩
    exact hbl0
  by_cases h1 : n ≤ i
  · have hR := Lib.hid (show b.round i n = none by unfold Bits.round; rw [if_pos (.inr h1)])
    unfold Bits.val
    go_enter Tryd.func27, Tryd.ntmps27
    go_wp2
    refine bodyPost_ret (v := pairV (none)) (by simp [results, Tryd.results27, go_sem, pairV]) rfl ⟨by rw [hR.out], ?_⟩
    exact hbl0
  have hN : ¬ (i < 0 ∨ n ≤ i) := by omega
  have hB0 : Blk (w.alloc (.cells b.cells 24)) w.heap.size 24 b.cells := Blk.new _ _ _
  cases ho : b.next i with
  | some x =>
    by_cases hx : x < n
    · have hR := Lib.hid (show b.round i n = some x by unfold Bits.round; rw [if_neg hN, ho]; simp [hx])
      unfold Bits.val
      go_enter Tryd.func27, Tryd.ntmps27
      go_wp2_with fail
      refine (next_any b i _ hb (hT.below (by assumption) (glob_lt hT))).mono ?_
      rintro e w1 ⟨rfl, hb1⟩
      rw [ho]
      have hbl := hbl0.trans (hb1.mono (by simp))
      clear hb1 hbl0
      unfold pairV
      go_wp2
      refine bodyPost_ret (v := pairV (some x)) (by simp [results, Tryd.results27, go_sem, pairV]) rfl ⟨by rw [hR.out], ?_⟩
      exact hbl
    · have hR := Lib.hid (show b.round i n = (b.next 0).filter fun x => decide (x < n) by unfold Bits.round; rw [if_neg hN, ho]; simp only [hx, if_false])
      unfold Bits.val
      go_enter Tryd.func27, Tryd.ntmps27
      go_wp2_with fail
      refine (next_any b i _ hb (hT.below (by assumption) (glob_lt hT))).mono ?_
      rintro e w1 ⟨rfl, hb1⟩
      rw [ho]
      have hbl := hbl0.trans (hb1.mono (by simp))
      have hB1 := hB0.below hb1 (by simp)
      clear hb1 hbl0 hB0
      have hc := hB1.cell
      simp only [Bits.cells] at hc
      unfold pairV
      go_wp2_with fail
      refine (next_any b 0 w1 hb (hT.below (by assumption) (glob_lt hT))).mono ?_
      rintro e w2 ⟨rfl, hb2⟩
      have hbl2 := hbl.trans (hb2.mono hbl.size)
      clear hb2
      cases ho2 : b.next 0 with
      | some y =>
        by_cases hy : y < n
        · have hR := Lib.hid (show b.round i n = some y by rw [hR.out, ho2]; simp [Option.filter, hy])
          unfold pairV
          go_wp2
          refine bodyPost_ret (v := pairV (some y)) (by simp [results, Tryd.results27, go_sem, pairV]) rfl ⟨by rw [hR.out], ?_⟩
          exact hbl2
        · have hR := Lib.hid (show b.round i n = none by rw [hR.out, ho2]; simp [Option.filter, hy])
          unfold pairV
          go_wp2
          refine bodyPost_ret (v := pairV (none)) (by simp [results, Tryd.results27, go_sem, pairV]) rfl ⟨by rw [hR.out], ?_⟩
          exact hbl2
      | none =>
        have hR := Lib.hid (show b.round i n = none by rw [hR.out, ho2]; rfl)
        unfold pairV
        go_wp2
        refine bodyPost_ret (v := pairV (none)) (by simp [results, Tryd.results27, go_sem, pairV]) rfl ⟨by rw [hR.out], ?_⟩
        exact hbl2
  | none =>
    have hR := Lib.hid (show b.round i n = (b.next 0).filter fun x => decide (x < n) by unfold Bits.round; rw [if_neg hN, ho])
    unfold Bits.val
    go_enter Tryd.func27, Tryd.ntmps27
    go_wp2_with fail
    refine (next_any b i _ hb (hT.below (by assumption) (glob_lt hT))).mono ?_
    rintro e w1 ⟨rfl, hb1⟩
    rw [ho]
    have hbl := hbl0.trans (hb1.mono (by simp))
    have hB1 := hB0.below hb1 (by simp)
    clear hb1 hbl0 hB0
    have hc := hB1.cell
    simp only [Bits.cells] at hc
    unfold pairV
    go_wp2_with fail
    refine (next_any b 0 w1 hb (hT.below (by assumption) (glob_lt hT))).mono ?_
    rintro e w2 ⟨rfl, hb2⟩
    have hbl2 := hbl.trans (hb2.mono hbl.size)
    clear hb2
    cases ho2 : b.next 0 with
    | some y =>
      by_cases hy : y < n
      · have hR := Lib.hid (show b.round i n = some y by rw [hR.out, ho2]; simp [Option.filter, hy])
        unfold pairV
        go_wp2
        refine bodyPost_ret (v := pairV (some y)) (by simp [results, Tryd.results27, go_sem, pairV]) rfl ⟨by rw [hR.out], ?_⟩
        exact hbl2
      · have hR := Lib.hid (show b.round i n = none by rw [hR.out, ho2]; simp [Option.filter, hy])
        unfold pairV
        go_wp2
        refine bodyPost_ret (v := pairV (none)) (by simp [results, Tryd.results27, go_sem, pairV]) rfl ⟨by rw [hR.out], ?_⟩
        exact hbl2
    | none =>
      have hR := Lib.hid (show b.round i n = none by rw [hR.out, ho2]; rfl)
      unfold pairV
      go_wp2
      refine bodyPost_ret (v := pairV (none)) (by simp [results, Tryd.results27, go_sem, pairV]) rfl ⟨by rw [hR.out], ?_⟩
      exact hbl2
end Go.Proofs.YtifoeddeofhclaaDoor
