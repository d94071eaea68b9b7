/- Layer 2 (bitmap): Next and Round: each contract at every index. -/
import Derived.Test.YtifoeddeofhclaaDoorNext
namespace Go.Proofs.YtifoeddeofhclaaDoor
open Go.RowKit Go.Shelf
attribute [local go_sem] Oper.semAt_some
theorem word_zap (b : Bits) (k j : Nat) (hj : j < 4) : (b.mix (fun _ _ => 0) k Bits.zero).word j = if j < k then 0 else b.word j := by
  have J : j = 0 ∨ j = 1 ∨ j = 2 ∨ j = 3 := by omega
  rcases J with rfl | rfl | rfl | rfl <;> rfl
theorem mask_bit (x r s : Nat) (hr : r < 64) (hs : s < 64) : (x &&& (18446744073709551615 - (2 ^ r - 1))).testBit s = (x.testBit s && decide (r ≤ s)) := by
  have hp := pow63 r hr
  have h0 := Nat.two_pow_pos r
  have e2 : 18446744073709551615 - (2 ^ r - 1) = 2 ^ 64 - ((2 ^ r - 1) + 1) := by simp
  rw [Nat.testBit_and, e2, Nat.testBit_two_pow_sub_succ (by omega), Nat.testBit_two_pow_sub_one]
  by_cases h : s < r
  · simp [h]
  · simp [h, hs]; intro _; omega
theorem cut_at (b : Bits) (n m : Nat) (hn : n < 256) (hm : m < 256) : (b.cut n).at m = (decide (n ≤ m) && b.at m) := by
  unfold Bits.at Bits.cut
  rw [word_zap _ _ _ (by omega), Bits.word_setw _ _ _ _ (by omega) (by omega)]
  by_cases h1 : m / 64 < n / 64
  · rw [if_pos h1]
    have : ¬ n ≤ m := by omega
    simp [this]
  · rw [if_neg h1]
    by_cases h2 : m / 64 = n / 64
    · rw [if_pos h2, mask_bit _ _ _ (Nat.mod_lt _ (by omega)) (Nat.mod_lt _ (by omega)), h2, Bool.and_comm]
      congr 1
      simp
      omega
    · rw [if_neg h2]
      have : n ≤ m := by omega
      simp [this]
theorem cut_head (b : Bits) (n : Nat) (hn : n < 256) : (b.cut n).list.head? = b.next n := by
  unfold Bits.next Bits.list Bits.upl
  have e : (List.range 256).filter (b.cut n).at = ((List.range 256).filter b.at).filter fun m => decide (n ≤ m) := by
    rw [List.filter_filter]
    apply List.filter_congr
    intro m hm
    rw [cut_at b n m hn (List.mem_range.1 hm)]
  rw [e, List.head?_map, List.head?_filter, List.find?_map]
  congr 1
  congr 1
  funext m
  simp
theorem next_neg0 (b : Bits) (i : Int) (h : i < 0) : b.next i = b.next 0 := by
  unfold Bits.next
  have : ∀ x ∈ b.list, decide (i ≤ x) = decide (0 ≤ x) := by
    intro x hx
    unfold Bits.list Bits.upl at hx
    obtain ⟨n, hn, rfl⟩ := List.mem_map.1 hx
    simp
    omega
  revert this
  generalize b.list = l
  intro this
  induction l with
  | nil => rfl
  | cons x l ih =>
    rw [List.find?_cons, List.find?_cons, this x (by simp), ih (fun y hy => this y (by simp [hy]))]
set_option maxRecDepth 100000 in
set_option maxHeartbeats 1000000 in
theorem next_hi (b : Bits) (i : Int) (w : World) (h : 256 ≤ i) : CallsIn Fence.wide 3 Tryd.prog 23 #[b.val, .int .i64 i] w fun e w' => e = .returned (pairV none) ∧ Below w.heap.size w w' := by
  unfold Bits.val
  have h1 : ¬ i < 0 := by omega
  have h2 : i ≥ 256 := h
  refine callsIn_of_wp_marks Tryd.func23 rfl trivial ?_ rfl
  simp only [Tryd.ntmps23, List.size_toArray, List.length_cons, List.length_nil, Nat.reduceAdd, Nat.reduceSub, Array.replicate_succ, Array.replicate_zero, List.push_toArray, List.append_toArray, List.nil_append, List.cons_append]
  gi_wp2_with fail
  refine ⟨pairV none, ?_, rfl, ?_⟩
  · simp [results, Tryd.results23, go_sem, pairV]
  · exact (((Below.refl _ _).alloc (Nat.le_refl _) _).alloc (by simp) _).alloc (by simp; omega) _
theorem next_any (b : Bits) (i : Int) (w : World) (hb : b.Ok) (hT : TabAt w) : Calls Tryd.prog 23 #[b.val, .int .i64 i] w fun e w' => e = .returned (pairV (b.next i)) ∧ Below w.heap.size w w' := by
  by_cases h1 : i < 0
  · rw [next_neg0 b i h1, ← Int.ofNat_zero, ← cut_head b 0 (by omega)]
    exact callsIn_wide.1 (next_neg i h1 b hb w hT)
  by_cases h2 : 256 ≤ i
  · rw [at_high b i h2]
    exact callsIn_wide.1 (next_hi b i w h2)
  obtain ⟨n, rfl⟩ := Int.eq_ofNat_of_zero_le (show 0 ≤ i by omega)
  rw [← cut_head b n (by omega)]
  have hq : n / 64 = 0 ∨ n / 64 = 1 ∨ n / 64 = 2 ∨ n / 64 = 3 := by omega
  rcases hq with hq | hq | hq | hq
  · exact callsIn_wide.1 (next_lo0 n b hb w (by omega) hT hq)
  · exact callsIn_wide.1 (next_lo1 n b hb w (by omega) hT hq)
  · exact callsIn_wide.1 (next_lo2 n b hb w (by omega) hT hq)
  · exact callsIn_wide.1 (next_lo3 n b hb w (by omega) hT hq)
end Go.Proofs.YtifoeddeofhclaaDoor
