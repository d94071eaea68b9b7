/- Layer 2 (bitmap), plain: the next one and the last one. -/
import Derived.Test.YtifoeddeofhclaaDoorNext2
namespace Go.Proofs.YtifoeddeofhclaaDoor
open Go.RowKit
theorem list_mem (b : Bits) (x : Int) : x ∈ b.list ↔ b.has x = true := by
  unfold Bits.list Bits.upl Bits.has
  rw [List.mem_map]
  constructor
  · rintro ⟨n, hn, rfl⟩
    obtain ⟨h1, h2⟩ := List.mem_filter.1 hn
    have h3 := List.mem_range.1 h1
    have h4 : (((n : Nat) : Int)).toNat = n := by omega
    rw [h4, h2, decide_eq_true (by omega)]
    rfl
  · intro h
    rw [Bool.and_eq_true, decide_eq_true_iff] at h
    obtain ⟨⟨h1, h2⟩, h3⟩ := h
    exact ⟨x.toNat, List.mem_filter.2 ⟨List.mem_range.2 (by omega), h3⟩, by omega⟩
theorem next_some (b : Bits) (i x : Int) (h : b.next i = some x) : i ≤ x ∧ b.has x = true := by
  unfold Bits.next at h
  have h1 := List.find?_some h
  have h2 := List.mem_of_find?_eq_some h
  exact ⟨by simpa using h1, (list_mem b x).1 h2⟩
theorem list_sorted (b : Bits) : b.list.Pairwise (· < ·) := by
  unfold Bits.list Bits.upl
  rw [List.pairwise_map]
  have : (List.range 256).Pairwise (· < ·) := List.pairwise_lt_range
  exact (this.filter _).imp fun h => by omega
theorem next_least (b : Bits) (i x y : Int) (h : b.next i = some x) (hy : b.has y = true) (hi : i ≤ y) : x ≤ y := by
  unfold Bits.next at h
  have hm := (list_mem b y).2 hy
  have hs := list_sorted b
  revert h hm hs
  generalize b.list = l
  intro h hm hs
  induction l with
  | nil => simp at hm
  | cons z l ih =>
    rw [List.find?_cons] at h
    rw [List.pairwise_cons] at hs
    by_cases hz : i ≤ z
    · rw [decide_eq_true hz] at h
      obtain rfl : z = x := by simpa using h
      rcases List.mem_cons.1 hm with rfl | hm
      · omega
      · have := hs.1 y hm
        omega
    · rw [decide_eq_false hz] at h
      rcases List.mem_cons.1 hm with rfl | hm
      · omega
      · exact ih h hm hs.2
theorem next_none (b : Bits) (i y : Int) (h : b.next i = none) (hy : b.has y = true) : y < i := by
  unfold Bits.next at h
  rw [List.find?_eq_none] at h
  have := h y ((list_mem b y).2 hy)
  simpa using this
theorem last_some (b : Bits) (i x : Int) (h : b.last i = some x) : x ≤ i ∧ b.has x = true := by
  unfold Bits.last at h
  have h1 := List.find?_some h
  have h2 := List.mem_of_find?_eq_some h
  exact ⟨by simpa using h1, (list_mem b x).1 (List.mem_reverse.1 h2)⟩
/-- The last one ahead of the next one lies ahead of from. -/
theorem gap_last (b : Bits) (i x : Int) (h : b.last ((b.next i).getD 256 - 1) = some x) : x < i := by
  obtain ⟨h1, h2⟩ := last_some b _ x h
  cases hn : b.next i with
  | none => exact next_none b i x hn h2
  | some y =>
    rw [hn] at h1
    simp only [Option.getD_some] at h1
    by_cases hi : i ≤ x
    · have := next_least b i y x hn h2 hi
      omega
    · omega
/-- Between from and the next one there is none. -/
theorem gap_none (b : Bits) (i y : Int) (h : y < (b.next i).getD 256) (hi : i ≤ y) : b.has y = false := by
  cases hy : b.has y with
  | false => rfl
  | true =>
    cases hn : b.next i with
    | none => have := next_none b i y hn hy; omega
    | some x =>
      rw [hn] at h
      simp only [Option.getD_some] at h
      have := next_least b i x y hn hy hi
      omega
end Go.Proofs.YtifoeddeofhclaaDoor
