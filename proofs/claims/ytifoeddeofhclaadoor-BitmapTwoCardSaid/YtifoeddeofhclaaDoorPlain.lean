/- Layer 2 (bitmap), plain: what the statements ask of lists, counts, both and either. -/
import Derived.Test.YtifoeddeofhclaaDoorBits6
namespace Go.Proofs.YtifoeddeofhclaaDoor
open Go.RowKit
theorem count_list (b : Bits) : b.count = b.list.length := by
  have h (k : Nat) : (b.upl (64 * (k + 1))).length = (b.upl (64 * k)).length + pcount 64 (b.word k) := by
    have e : (b.upl (64 * (k + 1))) = b.upl (64 * k) ++ ((List.range 64).filter fun i => (b.word k).testBit i).map fun t : Nat => 64 * (k : Int) + (t : Int) := by
      unfold Bits.upl
      rw [show 64 * (k + 1) = 64 * k + 64 by omega, List.range_add, List.filter_append, List.map_append, List.filter_map, List.map_map]
      congr 1
      have e2 : (List.range 64).filter (b.at ∘ fun x => 64 * k + x) = (List.range 64).filter fun i => (b.word k).testBit i := by
        apply List.filter_congr
        intro x hx
        have := List.mem_range.1 hx
        simp only [Function.comp, Bits.at]
        rw [show (64 * k + x) / 64 = k by omega, show (64 * k + x) % 64 = x by omega]
      rw [e2]
      apply List.map_congr_left
      intro x _
      simp
    rw [e, List.length_append, List.length_map]
    rfl
  have h0 := h 0
  have h1 := h 1
  have h2 := h 2
  have h3 := h 3
  have z : (b.upl (64 * 0)).length = 0 := rfl
  unfold Bits.list Bits.count
  have w0 : b.word 0 = b.w0 := rfl
  have w1 : b.word 1 = b.w1 := rfl
  have w2 : b.word 2 = b.w2 := rfl
  have w3 : b.word 3 = b.w3 := rfl
  rw [w0] at h0
  rw [w1] at h1
  rw [w2] at h2
  rw [w3] at h3
  simp only [Nat.reduceAdd, Nat.reduceMul] at *
  omega
theorem word_ext {a b : Nat} (ha : a < 2 ^ 64) (hb : b < 2 ^ 64) (h : ∀ s, s < 64 → a.testBit s = b.testBit s) : a = b := by
  apply Nat.eq_of_testBit_eq
  intro i
  by_cases hi : i < 64
  · exact h i hi
  · have hp : 2 ^ 64 ≤ 2 ^ i := Nat.pow_le_pow_right (by omega) (by omega)
    rw [Nat.testBit_lt_two_pow (Nat.lt_of_lt_of_le ha hp), Nat.testBit_lt_two_pow (Nat.lt_of_lt_of_le hb hp)]
theorem bits_ext {a b : Bits} (ha : a.Ok) (hb : b.Ok) (h : ∀ n, n < 256 → a.at n = b.at n) : a = b := by
  have hw : ∀ k, k < 4 → a.word k = b.word k := fun k hk => word_ext (ha.word k) (hb.word k) fun s hs => by
    have := h (64 * k + s) (by omega)
    unfold Bits.at at this
    rw [show (64 * k + s) / 64 = k by omega, show (64 * k + s) % 64 = s by omega] at this
    exact this
  have h0 : a.w0 = b.w0 := hw 0 (by omega)
  have h1 : a.w1 = b.w1 := hw 1 (by omega)
  have h2 : a.w2 = b.w2 := hw 2 (by omega)
  have h3 : a.w3 = b.w3 := hw 3 (by omega)
  cases a
  cases b
  simp_all
theorem put_at (b : Bits) (i : Int) (n : Nat) (hn : n < 256) : (b.put i).at n = (b.at n || decide (i = (n : Int))) := by
  unfold Bits.put
  by_cases h : 0 ≤ i ∧ i < 256
  · obtain ⟨m, rfl⟩ := Int.eq_ofNat_of_zero_le h.1
    rw [if_pos h]
    unfold Bits.at
    rw [show ((m : Int)).toNat = m from rfl, Bits.word_setw _ _ _ _ (by omega) (by omega)]
    by_cases hq : n / 64 = m / 64
    · rw [if_pos hq, Nat.testBit_or, Nat.testBit_two_pow, hq]
      congr 1
      by_cases e : m = n
      · subst e; simp
      · have : ¬ m % 64 = n % 64 := by omega
        simp [this]; omega
    · rw [if_neg hq]
      have : ¬ ((m : Int) = (n : Int)) := by omega
      simp [this]
  · rw [if_neg h]
    have : ¬ (i = (n : Int)) := by omega
    simp [this]
theorem fold_at (l : List Int) (n : Nat) (hn : n < 256) : ∀ b : Bits, (l.foldl Bits.put b).at n = (b.at n || decide ((n : Int) ∈ l)) := by
  induction l with
  | nil => intro b; simp
  | cons x l ih =>
    intro b
    rw [List.foldl_cons, ih, put_at _ _ _ hn, Bool.or_assoc]
    congr 1
    by_cases hx : x = (n : Int)
    · subst hx; simp
    · have : ¬ (n : Int) = x := fun e => hx e.symm
      simp [hx, this]
theorem mem_list (b : Bits) (n : Nat) (hn : n < 256) : (n : Int) ∈ b.list ↔ b.at n = true := by
  unfold Bits.list Bits.upl
  rw [List.mem_map]
  constructor
  · rintro ⟨m, hm, e⟩
    obtain rfl : m = n := by omega
    exact (List.mem_filter.1 hm).2
  · intro h
    exact ⟨n, List.mem_filter.2 ⟨List.mem_range.2 hn, h⟩, rfl⟩
theorem of_list (b : Bits) (hb : b.Ok) : ofL b.list = b := by
  apply bits_ext (of_ok _) hb
  intro n hn
  unfold ofL
  rw [fold_at _ n hn]
  have hz : Bits.zero.at n = false := by
    unfold Bits.at
    have : Bits.zero.word (n / 64) = 0 := by
      unfold Bits.word Bits.zero
      split
      · rfl
      split
      · rfl
      split <;> rfl
    rw [this, Nat.zero_testBit]
  rw [hz, Bool.false_or, Bool.eq_iff_iff, decide_eq_true_iff]
  exact mem_list b n hn
theorem pcount_two (n x y : Nat) : pcount n x + pcount n y = pcount n (x &&& y) + pcount n (x ||| y) := by
  unfold pcount onesOf
  generalize List.range n = l
  simp only [Nat.testBit_and, Nat.testBit_or]
  induction l with
  | nil => rfl
  | cons i l ih =>
    simp only [List.filter_cons]
    cases x.testBit i <;> cases y.testBit i <;> simp <;> omega
theorem count_two (a b : Bits) : a.count + b.count = (a.mix (fun x y => x &&& y) 4 b).count + (a.mix (fun x y => x ||| y) 4 b).count := by
  have h0 := pcount_two 64 a.w0 b.w0
  have h1 := pcount_two 64 a.w1 b.w1
  have h2 := pcount_two 64 a.w2 b.w2
  have h3 := pcount_two 64 a.w3 b.w3
  simp only [Bits.count, Bits.mix, Nat.reduceLT, if_true]
  omega
theorem mix_and_comm (a b : Bits) : a.mix (fun x y => x &&& y) 4 b = b.mix (fun x y => x &&& y) 4 a := by
  simp [Bits.mix, Nat.and_comm]
theorem mix_or_comm (a b : Bits) : a.mix (fun x y => x ||| y) 4 b = b.mix (fun x y => x ||| y) 4 a := by
  simp [Bits.mix, Nat.or_comm]
theorem mix_ok4 (f : Nat → Nat → Nat) (hf : ∀ x y, x < 2 ^ 64 → y < 2 ^ 64 → f x y < 2 ^ 64) (a b : Bits) (ha : a.Ok) (hb : b.Ok) : (a.mix f 4 b).Ok :=
  ⟨hf _ _ ha.h0 hb.h0, hf _ _ ha.h1 hb.h1, hf _ _ ha.h2 hb.h2, hf _ _ ha.h3 hb.h3⟩
theorem mix_and_ok (a b : Bits) (ha : a.Ok) (hb : b.Ok) : (a.mix (fun x y => x &&& y) 4 b).Ok := mix_ok4 _ (fun _ _ hx _ => Nat.lt_of_le_of_lt Nat.and_le_left hx) a b ha hb
theorem mix_or_ok (a b : Bits) (ha : a.Ok) (hb : b.Ok) : (a.mix (fun x y => x ||| y) 4 b).Ok := mix_ok4 _ (fun _ _ hx hy => Nat.or_lt_two_pow hx hy) a b ha hb
theorem mix_word (f : Nat → Nat → Nat) (a b : Bits) (k : Nat) (hk : k < 4) : (a.mix f 4 b).word k = f (a.word k) (b.word k) := by
  have H : k = 0 ∨ k = 1 ∨ k = 2 ∨ k = 3 := by omega
  rcases H with rfl | rfl | rfl | rfl <;> rfl
theorem has_and (a b : Bits) (i : Int) : (a.mix (fun x y => x &&& y) 4 b).has i = (a.has i && b.has i) := by
  unfold Bits.has
  by_cases h : 0 ≤ i ∧ i < 256
  · rw [decide_eq_true h]
    unfold Bits.at
    rw [mix_word _ _ _ _ (by omega), Nat.testBit_and]
    simp
  · rw [decide_eq_false h]
    simp
theorem has_or (a b : Bits) (i : Int) : (a.mix (fun x y => x ||| y) 4 b).has i = (a.has i || b.has i) := by
  unfold Bits.has
  by_cases h : 0 ≤ i ∧ i < 256
  · rw [decide_eq_true h]
    unfold Bits.at
    rw [mix_word _ _ _ _ (by omega), Nat.testBit_or]
    simp
  · rw [decide_eq_false h]
    simp
end Go.Proofs.YtifoeddeofhclaaDoor
