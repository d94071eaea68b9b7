/- Layer 2 (bitmap): counts, both, either, walked. -/
import Derived.Test.YtifoeddeofhclaaDoorBits2
namespace Go.Proofs.YtifoeddeofhclaaDoor
open Go.RowKit
def Bits.count (b : Bits) : Nat := pcount 64 b.w0 + pcount 64 b.w1 + pcount 64 b.w2 + pcount 64 b.w3
def Bits.upto (b : Bits) (k : Nat) : Nat := match k with
  | 0 => 0
  | 1 => pcount 64 b.w0
  | 2 => pcount 64 b.w0 + pcount 64 b.w1
  | 3 => pcount 64 b.w0 + pcount 64 b.w1 + pcount 64 b.w2
  | _ => b.count
theorem pcount_le (n x : Nat) : pcount n x ≤ n := by
  unfold pcount onesOf
  have := List.length_filter_le (fun i => x.testBit i) (List.range n)
  simpa using this
theorem count_any (b : Bits) (w : World) (hb : b.Ok) : Calls Tryd.prog 20 #[b.val] w fun e w' => e = .returned (.int .i64 b.count) ∧ Below w.heap.size w w' := by
  unfold Bits.val
  have c0 := pcount_le 64 b.w0
  have c1 := pcount_le 64 b.w1
  have c2 := pcount_le 64 b.w2
  have c3 := pcount_le 64 b.w3
  go_enter Tryd.func20, Tryd.ntmps20
  go_wp2
  go_loop [3, 5] (fun v i => ∃ k : Nat, k ≤ 4 ∧ i = .int .i64 k ∧ v = .int .i64 (b.upto k)) (fun _ i => 4 - (intOf i).toNat)
  case atStart => exact ⟨0, by omega, rfl, rfl⟩
  case round =>
    obtain ⟨k, hk, rfl, rfl⟩ := hrel
    have hkc : k = 0 ∨ k = 1 ∨ k = 2 ∨ k = 3 ∨ k = 4 := by omega
    rcases hkc with rfl | rfl | rfl | rfl | rfl
    · have hx := hb.h0
      simp only [Nat.reducePow] at hx
      go_wp2_with (go_at_call 32; refine (ones_any b.w0 _ hx).mono ?_; rintro e w' ⟨rfl, rfl⟩)
      go_round
      case rel => exact ⟨0 + 1, by omega, by go_num, by simp only [Bits.upto, Bits.count]; rw [IntWalk.wrap64_in _ (by omega)]; first | rfl | (congr 1; done) | (congr 1; omega)⟩
      case measure => simp [intOf]
    · have hx := hb.h1
      simp only [Nat.reducePow] at hx
      go_wp2_with (go_at_call 32; refine (ones_any b.w1 _ hx).mono ?_; rintro e w' ⟨rfl, rfl⟩)
      go_round
      case rel => exact ⟨1 + 1, by omega, by go_num, by simp only [Bits.upto, Bits.count]; rw [IntWalk.wrap64_in _ (by omega)]; first | rfl | (congr 1; done) | (congr 1; omega)⟩
      case measure => simp [intOf]
    · have hx := hb.h2
      simp only [Nat.reducePow] at hx
      go_wp2_with (go_at_call 32; refine (ones_any b.w2 _ hx).mono ?_; rintro e w' ⟨rfl, rfl⟩)
      go_round
      case rel => exact ⟨2 + 1, by omega, by go_num, by simp only [Bits.upto, Bits.count]; rw [IntWalk.wrap64_in _ (by omega)]; first | rfl | (congr 1; done) | (congr 1; omega)⟩
      case measure => simp [intOf]
    · have hx := hb.h3
      simp only [Nat.reducePow] at hx
      go_wp2_with (go_at_call 32; refine (ones_any b.w3 _ hx).mono ?_; rintro e w' ⟨rfl, rfl⟩)
      go_round
      case rel => exact ⟨3 + 1, by omega, by go_num, by simp only [Bits.upto, Bits.count]; rw [IntWalk.wrap64_in _ (by omega)]; first | rfl | (congr 1; done) | (congr 1; omega)⟩
      case measure => simp [intOf]
    · go_wp2
      go_ret
      exact ⟨rfl, (Below.refl _ _).alloc (Nat.le_refl _) _⟩
def Bits.mix (f : Nat → Nat → Nat) (k : Nat) (a b : Bits) : Bits := ⟨if 0 < k then f a.w0 b.w0 else a.w0, if 1 < k then f a.w1 b.w1 else a.w1, if 2 < k then f a.w2 b.w2 else a.w2, if 3 < k then f a.w3 b.w3 else a.w3⟩
def Bits.zero : Bits := ⟨0, 0, 0, 0⟩
theorem mix_zero (f : Nat → Nat → Nat) (a b : Bits) : a.mix f 0 b = a := by simp [Bits.mix]
theorem both_any (a b : Bits) (w : World) (ha : a.Ok) (hb : b.Ok) : Calls Tryd.prog 21 #[a.val, b.val] w fun e w' => e = .returned (a.mix (fun x y => x &&& y) 4 b).val ∧ Below w.heap.size w w' := by
  unfold Bits.val
  go_enter Tryd.func21, Tryd.ntmps21
  go_wp2
  have hA0 : Blk (w.alloc (.cells a.cells 24)) w.heap.size 24 a.cells := Blk.new _ _ _
  have hB0 : Blk ((w.alloc (.cells a.cells 24)).alloc (.cells b.cells 24)) (w.heap.size + 1) 24 b.cells := by simpa using Blk.new (w.alloc (.cells a.cells 24)) 24 b.cells
  have hZ0 : Blk (((w.alloc (.cells a.cells 24)).alloc (.cells b.cells 24)).alloc (.cells Bits.zero.cells 24)) (w.heap.size + 1 + 1) 24 Bits.zero.cells := by simpa using Blk.new ((w.alloc (.cells a.cells 24)).alloc (.cells b.cells 24)) 24 Bits.zero.cells
  go_loopw [6] (fun i wr => ∃ k : Nat, k ≤ 4 ∧ i = .int .i64 k ∧ Blk wr w.heap.size 24 (a.mix (fun x y => x &&& y) k b).cells ∧ Blk wr (w.heap.size + 1) 24 b.cells ∧ Blk wr (w.heap.size + 1 + 1) 24 Bits.zero.cells ∧ Below w.heap.size w wr) (fun i _ => 4 - (intOf i).toNat)
  case atStart => exact ⟨0, by omega, rfl, by rw [mix_zero]; exact (hA0.alloc _).alloc _, hB0.alloc _, hZ0, ((((Below.refl _ _).alloc (Nat.le_refl _) _).alloc (by simp) _)).alloc (by simp; omega) _⟩
  case round =>
    obtain ⟨k, hk, rfl, hra, hrb, hrz, hg⟩ := hrel
    clear hA0 hB0 hZ0
    have hc := hra.cell
    have hz := hra.frozen
    have hd := hrb.cell
    have hkc : k = 0 ∨ k = 1 ∨ k = 2 ∨ k = 3 ∨ k = 4 := by omega
    rcases hkc with rfl | rfl | rfl | rfl | rfl
    · have hA := ha.h0
      have hB := hb.h0
      simp only [Nat.reducePow] at hA hB
      have hop := u64_and_nat a.w0 b.w0 hA hB
      simp only [Bits.mix, Bits.cells, Nat.lt_irrefl, Nat.reduceLT, if_true, if_false, Nat.not_lt_zero] at hc hra hd
      go_wp2
      refine still_tail 8 (by kernel_rfl) (by kernel_rfl) ?_
      simp only [List.take_succ_cons, List.take_zero, List.drop_succ_cons, List.drop_zero]
      repeat still_step
      refine wpStill_nil ?_
      go_wp2
      go_roundw
      case rel => exact ⟨0 + 1, by omega, by go_num, by simpa [Bits.mix, Bits.cells] using (hra.put 0 (.int .u64 (a.w0 &&& b.w0 : Nat))).drew, (hrb.far (by simp) _).drew, (hrz.far (by simp; omega) _).drew, (hg.setCell (Nat.le_refl _) _).drew⟩
      case measure => simp [intOf]
    · have hA := ha.h1
      have hB := hb.h1
      simp only [Nat.reducePow] at hA hB
      have hop := u64_and_nat a.w1 b.w1 hA hB
      simp only [Bits.mix, Bits.cells, Nat.lt_irrefl, Nat.reduceLT, if_true, if_false, Nat.not_lt_zero] at hc hra hd
      go_wp2
      refine still_tail 8 (by kernel_rfl) (by kernel_rfl) ?_
      simp only [List.take_succ_cons, List.take_zero, List.drop_succ_cons, List.drop_zero]
      repeat still_step
      refine wpStill_nil ?_
      go_wp2
      go_roundw
      case rel => exact ⟨1 + 1, by omega, by go_num, by simpa [Bits.mix, Bits.cells] using (hra.put 1 (.int .u64 (a.w1 &&& b.w1 : Nat))).drew, (hrb.far (by simp) _).drew, (hrz.far (by simp; omega) _).drew, (hg.setCell (Nat.le_refl _) _).drew⟩
      case measure => simp [intOf]
    · have hA := ha.h2
      have hB := hb.h2
      simp only [Nat.reducePow] at hA hB
      have hop := u64_and_nat a.w2 b.w2 hA hB
      simp only [Bits.mix, Bits.cells, Nat.lt_irrefl, Nat.reduceLT, if_true, if_false, Nat.not_lt_zero] at hc hra hd
      go_wp2
      refine still_tail 8 (by kernel_rfl) (by kernel_rfl) ?_
      simp only [List.take_succ_cons, List.take_zero, List.drop_succ_cons, List.drop_zero]
      repeat still_step
      refine wpStill_nil ?_
      go_wp2
      go_roundw
      case rel => exact ⟨2 + 1, by omega, by go_num, by simpa [Bits.mix, Bits.cells] using (hra.put 2 (.int .u64 (a.w2 &&& b.w2 : Nat))).drew, (hrb.far (by simp) _).drew, (hrz.far (by simp; omega) _).drew, (hg.setCell (Nat.le_refl _) _).drew⟩
      case measure => simp [intOf]
    · have hA := ha.h3
      have hB := hb.h3
      simp only [Nat.reducePow] at hA hB
      have hop := u64_and_nat a.w3 b.w3 hA hB
      simp only [Bits.mix, Bits.cells, Nat.lt_irrefl, Nat.reduceLT, if_true, if_false, Nat.not_lt_zero] at hc hra hd
      go_wp2
      refine still_tail 8 (by kernel_rfl) (by kernel_rfl) ?_
      simp only [List.take_succ_cons, List.take_zero, List.drop_succ_cons, List.drop_zero]
      repeat still_step
      refine wpStill_nil ?_
      go_wp2
      go_roundw
      case rel => exact ⟨3 + 1, by omega, by go_num, by simpa [Bits.mix, Bits.cells] using (hra.put 3 (.int .u64 (a.w3 &&& b.w3 : Nat))).drew, (hrb.far (by simp) _).drew, (hrz.far (by simp; omega) _).drew, (hg.setCell (Nat.le_refl _) _).drew⟩
      case measure => simp [intOf]
    · have hc2 := hrz.cell
      have hz2 := hrz.frozen
      simp only [Bits.mix, Bits.cells, Bits.zero, Nat.lt_irrefl, Nat.reduceLT, if_true, if_false, Nat.not_lt_zero] at hc hra hd hc2 ⊢
      go_wp2
      have hQ := (((hrz.put 0 (.int .u64 (a.w0 &&& b.w0 : Nat))).put 1 (.int .u64 (a.w1 &&& b.w1 : Nat))).put 2 (.int .u64 (a.w2 &&& b.w2 : Nat))).put 3 (.int .u64 (a.w3 &&& b.w3 : Nat))
      have hG : Below w.heap.size w ((((wr.setCell ⟨w.heap.size + 1 + 1, 0, none⟩ (.int .u64 (a.w0 &&& b.w0 : Nat))).setCell ⟨w.heap.size + 1 + 1, 1, none⟩ (.int .u64 (a.w1 &&& b.w1 : Nat))).setCell ⟨w.heap.size + 1 + 1, 2, none⟩ (.int .u64 (a.w2 &&& b.w2 : Nat))).setCell ⟨w.heap.size + 1 + 1, 3, none⟩ (.int .u64 (a.w3 &&& b.w3 : Nat))) := ((((hg.setCell (by simp; omega) _).setCell (by simp; omega) _).setCell (by simp; omega) _)).setCell (by simp; omega) _
      generalize (((wr.setCell ⟨w.heap.size + 1 + 1, 0, none⟩ (.int .u64 (a.w0 &&& b.w0 : Nat))).setCell ⟨w.heap.size + 1 + 1, 1, none⟩ (.int .u64 (a.w1 &&& b.w1 : Nat))).setCell ⟨w.heap.size + 1 + 1, 2, none⟩ (.int .u64 (a.w2 &&& b.w2 : Nat))).setCell ⟨w.heap.size + 1 + 1, 3, none⟩ (.int .u64 (a.w3 &&& b.w3 : Nat)) = wz at *
      have hQc := hQ.cell
      simp only [Bits.zero, Bits.cells] at hQc
      exact bodyPost_ret (v := (a.mix (fun x y => x &&& y) 4 b).val) (by simp [results, Tryd.results21, go_sem, Bits.val, Bits.mix, hQc]) rfl ⟨rfl, hG⟩
theorem either_any (a b : Bits) (w : World) (ha : a.Ok) (hb : b.Ok) : Calls Tryd.prog 22 #[a.val, b.val] w fun e w' => e = .returned (a.mix (fun x y => x ||| y) 4 b).val ∧ Below w.heap.size w w' := by
  unfold Bits.val
  go_enter Tryd.func22, Tryd.ntmps22
  go_wp2
  have hA0 : Blk (w.alloc (.cells a.cells 24)) w.heap.size 24 a.cells := Blk.new _ _ _
  have hB0 : Blk ((w.alloc (.cells a.cells 24)).alloc (.cells b.cells 24)) (w.heap.size + 1) 24 b.cells := by simpa using Blk.new (w.alloc (.cells a.cells 24)) 24 b.cells
  have hZ0 : Blk (((w.alloc (.cells a.cells 24)).alloc (.cells b.cells 24)).alloc (.cells Bits.zero.cells 24)) (w.heap.size + 1 + 1) 24 Bits.zero.cells := by simpa using Blk.new ((w.alloc (.cells a.cells 24)).alloc (.cells b.cells 24)) 24 Bits.zero.cells
  go_loopw [6] (fun i wr => ∃ k : Nat, k ≤ 4 ∧ i = .int .i64 k ∧ Blk wr w.heap.size 24 (a.mix (fun x y => x ||| y) k b).cells ∧ Blk wr (w.heap.size + 1) 24 b.cells ∧ Blk wr (w.heap.size + 1 + 1) 24 Bits.zero.cells ∧ Below w.heap.size w wr) (fun i _ => 4 - (intOf i).toNat)
  case atStart => exact ⟨0, by omega, rfl, by rw [mix_zero]; exact (hA0.alloc _).alloc _, hB0.alloc _, hZ0, ((((Below.refl _ _).alloc (Nat.le_refl _) _).alloc (by simp) _)).alloc (by simp; omega) _⟩
  case round =>
    obtain ⟨k, hk, rfl, hra, hrb, hrz, hg⟩ := hrel
    clear hA0 hB0 hZ0
    have hc := hra.cell
    have hz := hra.frozen
    have hd := hrb.cell
    have hkc : k = 0 ∨ k = 1 ∨ k = 2 ∨ k = 3 ∨ k = 4 := by omega
    rcases hkc with rfl | rfl | rfl | rfl | rfl
    · have hA := ha.h0
      have hB := hb.h0
      simp only [Nat.reducePow] at hA hB
      have hop := u64_or_nat a.w0 b.w0 hA hB
      simp only [Bits.mix, Bits.cells, Nat.lt_irrefl, Nat.reduceLT, if_true, if_false, Nat.not_lt_zero] at hc hra hd
      go_wp2
      refine still_tail 8 (by kernel_rfl) (by kernel_rfl) ?_
      simp only [List.take_succ_cons, List.take_zero, List.drop_succ_cons, List.drop_zero]
      repeat still_step
      refine wpStill_nil ?_
      go_wp2
      go_roundw
      case rel => exact ⟨0 + 1, by omega, by go_num, by simpa [Bits.mix, Bits.cells] using (hra.put 0 (.int .u64 (a.w0 ||| b.w0 : Nat))).drew, (hrb.far (by simp) _).drew, (hrz.far (by simp; omega) _).drew, (hg.setCell (Nat.le_refl _) _).drew⟩
      case measure => simp [intOf]
    · have hA := ha.h1
      have hB := hb.h1
      simp only [Nat.reducePow] at hA hB
      have hop := u64_or_nat a.w1 b.w1 hA hB
      simp only [Bits.mix, Bits.cells, Nat.lt_irrefl, Nat.reduceLT, if_true, if_false, Nat.not_lt_zero] at hc hra hd
      go_wp2
      refine still_tail 8 (by kernel_rfl) (by kernel_rfl) ?_
      simp only [List.take_succ_cons, List.take_zero, List.drop_succ_cons, List.drop_zero]
      repeat still_step
      refine wpStill_nil ?_
      go_wp2
      go_roundw
      case rel => exact ⟨1 + 1, by omega, by go_num, by simpa [Bits.mix, Bits.cells] using (hra.put 1 (.int .u64 (a.w1 ||| b.w1 : Nat))).drew, (hrb.far (by simp) _).drew, (hrz.far (by simp; omega) _).drew, (hg.setCell (Nat.le_refl _) _).drew⟩
      case measure => simp [intOf]
    · have hA := ha.h2
      have hB := hb.h2
      simp only [Nat.reducePow] at hA hB
      have hop := u64_or_nat a.w2 b.w2 hA hB
      simp only [Bits.mix, Bits.cells, Nat.lt_irrefl, Nat.reduceLT, if_true, if_false, Nat.not_lt_zero] at hc hra hd
      go_wp2
      refine still_tail 8 (by kernel_rfl) (by kernel_rfl) ?_
      simp only [List.take_succ_cons, List.take_zero, List.drop_succ_cons, List.drop_zero]
      repeat still_step
      refine wpStill_nil ?_
      go_wp2
      go_roundw
      case rel => exact ⟨2 + 1, by omega, by go_num, by simpa [Bits.mix, Bits.cells] using (hra.put 2 (.int .u64 (a.w2 ||| b.w2 : Nat))).drew, (hrb.far (by simp) _).drew, (hrz.far (by simp; omega) _).drew, (hg.setCell (Nat.le_refl _) _).drew⟩
      case measure => simp [intOf]
    · have hA := ha.h3
      have hB := hb.h3
      simp only [Nat.reducePow] at hA hB
      have hop := u64_or_nat a.w3 b.w3 hA hB
      simp only [Bits.mix, Bits.cells, Nat.lt_irrefl, Nat.reduceLT, if_true, if_false, Nat.not_lt_zero] at hc hra hd
      go_wp2
      refine still_tail 8 (by kernel_rfl) (by kernel_rfl) ?_
      simp only [List.take_succ_cons, List.take_zero, List.drop_succ_cons, List.drop_zero]
      repeat still_step
      refine wpStill_nil ?_
      go_wp2
      go_roundw
      case rel => exact ⟨3 + 1, by omega, by go_num, by simpa [Bits.mix, Bits.cells] using (hra.put 3 (.int .u64 (a.w3 ||| b.w3 : Nat))).drew, (hrb.far (by simp) _).drew, (hrz.far (by simp; omega) _).drew, (hg.setCell (Nat.le_refl _) _).drew⟩
      case measure => simp [intOf]
    · have hc2 := hrz.cell
      have hz2 := hrz.frozen
      simp only [Bits.mix, Bits.cells, Bits.zero, Nat.lt_irrefl, Nat.reduceLT, if_true, if_false, Nat.not_lt_zero] at hc hra hd hc2 ⊢
      go_wp2
      have hQ := (((hrz.put 0 (.int .u64 (a.w0 ||| b.w0 : Nat))).put 1 (.int .u64 (a.w1 ||| b.w1 : Nat))).put 2 (.int .u64 (a.w2 ||| b.w2 : Nat))).put 3 (.int .u64 (a.w3 ||| b.w3 : Nat))
      have hG : Below w.heap.size w ((((wr.setCell ⟨w.heap.size + 1 + 1, 0, none⟩ (.int .u64 (a.w0 ||| b.w0 : Nat))).setCell ⟨w.heap.size + 1 + 1, 1, none⟩ (.int .u64 (a.w1 ||| b.w1 : Nat))).setCell ⟨w.heap.size + 1 + 1, 2, none⟩ (.int .u64 (a.w2 ||| b.w2 : Nat))).setCell ⟨w.heap.size + 1 + 1, 3, none⟩ (.int .u64 (a.w3 ||| b.w3 : Nat))) := ((((hg.setCell (by simp; omega) _).setCell (by simp; omega) _).setCell (by simp; omega) _)).setCell (by simp; omega) _
      generalize (((wr.setCell ⟨w.heap.size + 1 + 1, 0, none⟩ (.int .u64 (a.w0 ||| b.w0 : Nat))).setCell ⟨w.heap.size + 1 + 1, 1, none⟩ (.int .u64 (a.w1 ||| b.w1 : Nat))).setCell ⟨w.heap.size + 1 + 1, 2, none⟩ (.int .u64 (a.w2 ||| b.w2 : Nat))).setCell ⟨w.heap.size + 1 + 1, 3, none⟩ (.int .u64 (a.w3 ||| b.w3 : Nat)) = wz at *
      have hQc := hQ.cell
      simp only [Bits.zero, Bits.cells] at hQc
      exact bodyPost_ret (v := (a.mix (fun x y => x ||| y) 4 b).val) (by simp [results, Tryd.results22, go_sem, Bits.val, Bits.mix, hQc]) rfl ⟨rfl, hG⟩
end Go.Proofs.YtifoeddeofhclaaDoor
