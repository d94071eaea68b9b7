/- Plain facts on natural numbers as rows of bits. -/
namespace Go.Proofs.YtifoeddeofhclaaDoor
/-- The places of a word's ones among its low n bits, rising. -/
def onesOf (n w : Nat) : List Nat := (List.range n).filter fun i => w.testBit i
theorem testBit_low (q t i : Nat) (b : Nat) (hb : b < 2 ^ t) : (2 ^ t * q + b).testBit i = if i < t then b.testBit i else q.testBit (i - t) := Nat.testBit_two_pow_mul_add q hb i
/-- A number with a lowest one. -/
theorem low_form (x : Nat) (h : x ≠ 0) : ∃ t q, x = 2 ^ (t + 1) * q + 2 ^ t := by
  induction x using Nat.strongRecOn with
  | _ x ih =>
    rcases Nat.mod_two_eq_zero_or_one x with h2 | h2
    · obtain ⟨t, q, e⟩ := ih (x / 2) (by omega) (by omega)
      refine ⟨t + 1, q, ?_⟩
      have : x = 2 * (x / 2) := by omega
      rw [this, e, Nat.pow_succ 2 (t + 1), Nat.pow_succ 2 t]
      generalize 2 ^ t = z
      rw [Nat.mul_add, ← Nat.mul_assoc, Nat.mul_comm 2 (z * 2)]
      omega
    · exact ⟨0, x / 2, by simp; omega⟩
theorem low_bits (t q i : Nat) : (2 ^ (t + 1) * q + 2 ^ t).testBit i = if i < t then false else if i = t then true else q.testBit (i - (t + 1)) := by
  rw [testBit_low q (t + 1) i (2 ^ t) (by rw [Nat.pow_succ]; have := Nat.two_pow_pos t; omega)]
  by_cases h1 : i < t
  · rw [if_pos (by omega), if_pos h1, Nat.testBit_two_pow]; simp; omega
  · by_cases h2 : i = t
    · subst h2; rw [if_pos (by omega), if_neg h1, if_pos rfl, Nat.testBit_two_pow]; simp
    · rw [if_neg (by omega), if_neg h1, if_neg h2]
theorem pred_bits (t q i : Nat) : (2 ^ (t + 1) * q + 2 ^ t - 1).testBit i = if i < t then true else if i = t then false else q.testBit (i - (t + 1)) := by
  have hp := Nat.two_pow_pos t
  have e : 2 ^ (t + 1) * q + 2 ^ t - 1 = 2 ^ (t + 1) * q + (2 ^ t - 1) := by omega
  rw [e, testBit_low q (t + 1) i (2 ^ t - 1) (by rw [Nat.pow_succ]; omega), Nat.testBit_two_pow_sub_one]
  by_cases h1 : i < t
  · rw [if_pos (by omega), if_pos h1]; simp [h1]
  · by_cases h2 : i = t
    · subst h2; rw [if_pos (by omega), if_neg h1, if_pos rfl]; simp
    · rw [if_neg (by omega), if_neg h1, if_neg h2]
/-- x & (x - 1): the lowest one is gone. -/
theorem clear_low (t q : Nat) : (2 ^ (t + 1) * q + 2 ^ t) &&& (2 ^ (t + 1) * q + 2 ^ t - 1) = 2 ^ (t + 1) * q := by
  apply Nat.eq_of_testBit_eq
  intro i
  rw [Nat.testBit_and, low_bits, pred_bits]
  have h0 := testBit_low q (t + 1) i 0 (Nat.two_pow_pos _)
  simp only [Nat.add_zero, Nat.zero_testBit] at h0
  rw [h0]
  by_cases h1 : i < t
  · rw [if_pos h1, if_pos h1, if_pos (by omega)]; rfl
  · by_cases h2 : i = t
    · rw [if_neg h1, if_pos h2, if_neg h1, if_pos h2, if_pos (by omega)]; rfl
    · rw [if_neg h1, if_neg h2, if_neg h1, if_neg h2, if_neg (by omega), Bool.and_self]
/-- x & -x, in n bits: the lowest one alone. -/
theorem only_low (t q n : Nat) (hx : 2 ^ (t + 1) * q + 2 ^ t < 2 ^ n) : (2 ^ (t + 1) * q + 2 ^ t) &&& (2 ^ n - (2 ^ (t + 1) * q + 2 ^ t)) = 2 ^ t := by
  apply Nat.eq_of_testBit_eq
  intro i
  have hp := Nat.two_pow_pos t
  have e : 2 ^ n - (2 ^ (t + 1) * q + 2 ^ t) = 2 ^ n - ((2 ^ (t + 1) * q + 2 ^ t - 1) + 1) := by omega
  rw [Nat.testBit_and, e, Nat.testBit_two_pow_sub_succ (by omega), low_bits, pred_bits, Nat.testBit_two_pow]
  by_cases h1 : i < t
  · rw [if_pos h1, if_pos h1]; simp; omega
  · by_cases h2 : i = t
    · have htn : t < n := by
        rcases Nat.lt_or_ge t n with h | h
        · exact h
        · have := Nat.pow_le_pow_right (n := 2) (by omega) h
          omega
      rw [if_neg h1, if_pos h2, if_neg h1, if_pos h2]; simp [h2, htn]
    · rw [if_neg h1, if_neg h2, if_neg h1, if_neg h2]
      have : ¬ t = i := fun e => h2 e.symm
      cases q.testBit (i - (t + 1)) <;> simp [this]
theorem ones_low (t q n : Nat) (ht : t < n) : onesOf n (2 ^ (t + 1) * q + 2 ^ t) = t :: onesOf n (2 ^ (t + 1) * q) := by
  have h0 : ∀ i, (2 ^ (t + 1) * q).testBit i = if i < t + 1 then false else q.testBit (i - (t + 1)) := by
    intro i
    have := testBit_low q (t + 1) i 0 (Nat.two_pow_pos _)
    simpa using this
  unfold onesOf
  have e : List.range n = List.range t ++ t :: (List.range (n - (t + 1))).map (t + 1 + ·) := by
    have e1 : n = t + (1 + (n - (t + 1))) := by omega
    conv => lhs; rw [e1]
    rw [List.range_add, List.range_add]
    simp [Nat.add_assoc]
  rw [e, List.filter_append, List.filter_append, List.filter_cons, List.filter_cons]
  have a1 : (List.range t).filter (fun i => (2 ^ (t + 1) * q + 2 ^ t).testBit i) = [] := by
    rw [List.filter_eq_nil_iff]
    intro i hi
    rw [low_bits, if_pos (List.mem_range.1 hi)]; simp
  have a2 : (List.range t).filter (fun i => (2 ^ (t + 1) * q).testBit i) = [] := by
    rw [List.filter_eq_nil_iff]
    intro i hi
    have := List.mem_range.1 hi
    rw [h0, if_pos (by omega)]; simp
  have a3 : (2 ^ (t + 1) * q + 2 ^ t).testBit t = true := by rw [low_bits, if_neg (by omega), if_pos rfl]
  have a4 : (2 ^ (t + 1) * q).testBit t = false := by rw [h0, if_pos (by omega)]
  rw [a1, a2, if_pos a3, if_neg (by rw [a4]; simp)]
  simp only [List.nil_append, List.cons.injEq, true_and]
  apply List.filter_congr
  intro i hi
  obtain ⟨j, _, rfl⟩ := List.mem_map.1 hi
  rw [low_bits, h0, if_neg (by omega), if_neg (by omega), if_neg (by omega)]
theorem ones_zero (n : Nat) : onesOf n 0 = [] := by
  unfold onesOf
  rw [List.filter_eq_nil_iff]
  intro i _
  simp
theorem ones_nil (n w : Nat) (hw : w < 2 ^ n) (h : onesOf n w = []) : w = 0 := by
  apply Nat.eq_of_testBit_eq
  intro i
  rw [Nat.zero_testBit]
  unfold onesOf at h
  rw [List.filter_eq_nil_iff] at h
  by_cases hi : i < n
  · have := h i (List.mem_range.2 hi)
    simpa using this
  · exact Nat.testBit_lt_two_pow (Nat.lt_of_lt_of_le hw (Nat.pow_le_pow_right (by omega) (by omega)))
/-- How many ones there are among the low n bits. -/
def pcount (n w : Nat) : Nat := (onesOf n w).length
theorem pcount_add (a b w : Nat) : pcount (a + b) w = pcount a w + pcount b (w / 2 ^ a) := by
  unfold pcount onesOf
  rw [List.range_add, List.filter_append, List.length_append, List.filter_map, List.length_map]
  congr 2
  apply List.filter_congr
  intro i _
  simp only [Function.comp]
  rw [Nat.testBit_div_two_pow]
  congr 1
  omega
theorem pcount_mod (n w : Nat) : pcount n (w % 2 ^ n) = pcount n w := by
  unfold pcount onesOf
  congr 1
  apply List.filter_congr
  intro i hi
  rw [Nat.testBit_mod_two_pow]
  simp [List.mem_range.1 hi]
end Go.Proofs.YtifoeddeofhclaaDoor
