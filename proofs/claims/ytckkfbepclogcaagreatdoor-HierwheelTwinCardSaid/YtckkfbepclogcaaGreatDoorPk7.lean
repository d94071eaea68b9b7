/- Part 7: the texts Nat Pop, laid end to end by a program. -/
/- Plain facts on natural numbers as rows of bits. -/
namespace Go.Proofs.YtckkfbepclogcaaGreatDoor
/-- The places of a word's ones among its low n bits, rising. -/
def onesOf (n w : Nat) : List Nat := (List.range n).filter fun i => w.testBit i
theorem testBit_low (q t i : Nat) (b : Nat) (hb : b < 2 ^ t) : (2 ^ t * q + b).testBit i = if i < t then b.testBit i else q.testBit (i - t) := Nat.testBit_two_pow_mul_add q hb i
/-- A number with a lowest one. -/
theorem low_form (x : Nat) (h : x ≠ 0) : ∃ t q, x = 2 ^ (t + 1) * q + 2 ^ t := by
  induction x using Nat.strongRecOn with
  | _ x ih =>
    rcases Nat.mod_two_eq_zero_or_one x with h2 | h2
    · obtain ⟨t, q, e⟩ := ih (x / 2) (by omega) (by omega)
      refine ⟨t + 1, q, ?_⟩
      have : x = 2 * (x / 2) := by omega
      rw [this, e, Nat.pow_succ 2 (t + 1), Nat.pow_succ 2 t]
      generalize 2 ^ t = z
      rw [Nat.mul_add, ← Nat.mul_assoc, Nat.mul_comm 2 (z * 2)]
      omega
    · exact ⟨0, x / 2, by simp; omega⟩
theorem low_bits (t q i : Nat) : (2 ^ (t + 1) * q + 2 ^ t).testBit i = if i < t then false else if i = t then true else q.testBit (i - (t + 1)) := by
  rw [testBit_low q (t + 1) i (2 ^ t) (by rw [Nat.pow_succ]; have := Nat.two_pow_pos t; omega)]
  by_cases h1 : i < t
  · rw [if_pos (by omega), if_pos h1, Nat.testBit_two_pow]; simp; omega
  · by_cases h2 : i = t
    · subst h2; rw [if_pos (by omega), if_neg h1, if_pos rfl, Nat.testBit_two_pow]; simp
    · rw [if_neg (by omega), if_neg h1, if_neg h2]
theorem pred_bits (t q i : Nat) : (2 ^ (t + 1) * q + 2 ^ t - 1).testBit i = if i < t then true else if i = t then false else q.testBit (i - (t + 1)) := by
  have hp := Nat.two_pow_pos t
  have e : 2 ^ (t + 1) * q + 2 ^ t - 1 = 2 ^ (t + 1) * q + (2 ^ t - 1) := by omega
  rw [e, testBit_low q (t + 1) i (2 ^ t - 1) (by rw [Nat.pow_succ]; omega), Nat.testBit_two_pow_sub_one]
  by_cases h1 : i < t
  · rw [if_pos (by omega), if_pos h1]; simp [h1]
  · by_cases h2 : i = t
    · subst h2; rw [if_pos (by omega), if_neg h1, if_pos rfl]; simp
    · rw [if_neg (by omega), if_neg h1, if_neg h2]
/-- x & (x - 1): the lowest one is gone. -/
theorem clear_low (t q : Nat) : (2 ^ (t + 1) * q + 2 ^ t) &&& (2 ^ (t + 1) * q + 2 ^ t - 1) = 2 ^ (t + 1) * q := by
  apply Nat.eq_of_testBit_eq
  intro i
  rw [Nat.testBit_and, low_bits, pred_bits]
  have h0 := testBit_low q (t + 1) i 0 (Nat.two_pow_pos _)
  simp only [Nat.add_zero, Nat.zero_testBit] at h0
  rw [h0]
  by_cases h1 : i < t
  · rw [if_pos h1, if_pos h1, if_pos (by omega)]; rfl
  · by_cases h2 : i = t
    · rw [if_neg h1, if_pos h2, if_neg h1, if_pos h2, if_pos (by omega)]; rfl
    · rw [if_neg h1, if_neg h2, if_neg h1, if_neg h2, if_neg (by omega), Bool.and_self]
/-- x & -x, in n bits: the lowest one alone. -/
theorem only_low (t q n : Nat) (hx : 2 ^ (t + 1) * q + 2 ^ t < 2 ^ n) : (2 ^ (t + 1) * q + 2 ^ t) &&& (2 ^ n - (2 ^ (t + 1) * q + 2 ^ t)) = 2 ^ t := by
  apply Nat.eq_of_testBit_eq
  intro i
  have hp := Nat.two_pow_pos t
  have e : 2 ^ n - (2 ^ (t + 1) * q + 2 ^ t) = 2 ^ n - ((2 ^ (t + 1) * q + 2 ^ t - 1) + 1) := by omega
  rw [Nat.testBit_and, e, Nat.testBit_two_pow_sub_succ (by omega), low_bits, pred_bits, Nat.testBit_two_pow]
  by_cases h1 : i < t
  · rw [if_pos h1, if_pos h1]; simp; omega
  · by_cases h2 : i = t
    · have htn : t < n := by
        rcases Nat.lt_or_ge t n with h | h
        · exact h
        · have := Nat.pow_le_pow_right (n := 2) (by omega) h
          omega
      rw [if_neg h1, if_pos h2, if_neg h1, if_pos h2]; simp [h2, htn]
    · rw [if_neg h1, if_neg h2, if_neg h1, if_neg h2]
      have : ¬ t = i := fun e => h2 e.symm
      cases q.testBit (i - (t + 1)) <;> simp [this]
theorem ones_low (t q n : Nat) (ht : t < n) : onesOf n (2 ^ (t + 1) * q + 2 ^ t) = t :: onesOf n (2 ^ (t + 1) * q) := by
  have h0 : ∀ i, (2 ^ (t + 1) * q).testBit i = if i < t + 1 then false else q.testBit (i - (t + 1)) := by
    intro i
    have := testBit_low q (t + 1) i 0 (Nat.two_pow_pos _)
    simpa using this
  unfold onesOf
  have e : List.range n = List.range t ++ t :: (List.range (n - (t + 1))).map (t + 1 + ·) := by
    have e1 : n = t + (1 + (n - (t + 1))) := by omega
    conv => lhs; rw [e1]
    rw [List.range_add, List.range_add]
    simp [Nat.add_assoc]
  rw [e, List.filter_append, List.filter_append, List.filter_cons, List.filter_cons]
  have a1 : (List.range t).filter (fun i => (2 ^ (t + 1) * q + 2 ^ t).testBit i) = [] := by
    rw [List.filter_eq_nil_iff]
    intro i hi
    rw [low_bits, if_pos (List.mem_range.1 hi)]; simp
  have a2 : (List.range t).filter (fun i => (2 ^ (t + 1) * q).testBit i) = [] := by
    rw [List.filter_eq_nil_iff]
    intro i hi
    have := List.mem_range.1 hi
    rw [h0, if_pos (by omega)]; simp
  have a3 : (2 ^ (t + 1) * q + 2 ^ t).testBit t = true := by rw [low_bits, if_neg (by omega), if_pos rfl]
  have a4 : (2 ^ (t + 1) * q).testBit t = false := by rw [h0, if_pos (by omega)]
  rw [a1, a2, if_pos a3, if_neg (by rw [a4]; simp)]
  simp only [List.nil_append, List.cons.injEq, true_and]
  apply List.filter_congr
  intro i hi
  obtain ⟨j, _, rfl⟩ := List.mem_map.1 hi
  rw [low_bits, h0, if_neg (by omega), if_neg (by omega), if_neg (by omega)]
theorem ones_zero (n : Nat) : onesOf n 0 = [] := by
  unfold onesOf
  rw [List.filter_eq_nil_iff]
  intro i _
  simp
theorem ones_nil (n w : Nat) (hw : w < 2 ^ n) (h : onesOf n w = []) : w = 0 := by
  apply Nat.eq_of_testBit_eq
  intro i
  rw [Nat.zero_testBit]
  unfold onesOf at h
  rw [List.filter_eq_nil_iff] at h
  by_cases hi : i < n
  · have := h i (List.mem_range.2 hi)
    simpa using this
  · exact Nat.testBit_lt_two_pow (Nat.lt_of_lt_of_le hw (Nat.pow_le_pow_right (by omega) (by omega)))
/-- How many ones there are among the low n bits. -/
def pcount (n w : Nat) : Nat := (onesOf n w).length
theorem pcount_add (a b w : Nat) : pcount (a + b) w = pcount a w + pcount b (w / 2 ^ a) := by
  unfold pcount onesOf
  rw [List.range_add, List.filter_append, List.length_append, List.filter_map, List.length_map]
  congr 2
  apply List.filter_congr
  intro i _
  simp only [Function.comp]
  rw [Nat.testBit_div_two_pow]
  congr 1
  omega
theorem pcount_mod (n w : Nat) : pcount n (w % 2 ^ n) = pcount n w := by
  unfold pcount onesOf
  congr 1
  apply List.filter_congr
  intro i hi
  rw [Nat.testBit_mod_two_pow]
  simp [List.mem_range.1 hi]
end Go.Proofs.YtckkfbepclogcaaGreatDoor
namespace Go.Proofs.YtckkfbepclogcaaGreatDoor
/-- A byte and what stands above it, under a mask byte by byte. -/
theorem mask_byte (a m b M : Nat) (ha : a < 256) (hm : m < 256) : (256 * b + a) &&& (256 * M + m) = 256 * (b &&& M) + (a &&& m) := by
  apply Nat.eq_of_testBit_eq
  intro i
  have ham : a &&& m < 2 ^ 8 := Nat.lt_of_le_of_lt Nat.and_le_left ha
  have e1 := testBit_low b 8 i a ha
  have e2 := testBit_low M 8 i m hm
  have e3 := testBit_low (b &&& M) 8 i (a &&& m) ham
  simp only [Nat.reducePow] at e1 e2 e3
  rw [Nat.testBit_and, e1, e2, e3]
  split <;> rw [Nat.testBit_and]
/-- A shift by k < 8, then a mask whose top k bits of each byte are off. -/
theorem shift_mask (k lo hi m M : Nat) (hlo : lo < 256) (hk : k ≤ 8) (hm : m < 2 ^ (8 - k)) : ((256 * hi + lo) / 2 ^ k) &&& (256 * M + m) = 256 * ((hi / 2 ^ k) &&& M) + ((lo / 2 ^ k) &&& m) := by
  apply Nat.eq_of_testBit_eq
  intro i
  have hm8 : m < 2 ^ 8 := Nat.lt_of_lt_of_le hm (Nat.pow_le_pow_right (by omega) (by omega))
  have ham : (lo / 2 ^ k) &&& m < 2 ^ 8 := Nat.lt_of_le_of_lt Nat.and_le_right hm8
  have e1 := testBit_low hi 8 (i + k) lo hlo
  have e2 := testBit_low M 8 i m hm8
  have e3 := testBit_low ((hi / 2 ^ k) &&& M) 8 i ((lo / 2 ^ k) &&& m) ham
  simp only [Nat.reducePow] at e1 e2 e3
  rw [Nat.testBit_and, Nat.testBit_div_two_pow, e1, e2, e3]
  by_cases h : i < 8
  · rw [if_pos h, if_pos h, Nat.testBit_and, Nat.testBit_div_two_pow]
    by_cases h2 : i + k < 8
    · rw [if_pos h2]
    · have : m.testBit i = false := Nat.testBit_lt_two_pow (Nat.lt_of_lt_of_le hm (Nat.pow_le_pow_right (by omega) (by omega)))
      rw [this, Bool.and_false, Bool.and_false]
  · rw [if_neg h, if_neg h, if_neg (by omega), Nat.testBit_and, Nat.testBit_div_two_pow]
    congr 2
    omega
def f1 (x M : Nat) : Nat := ((x / 2) &&& M) + (x &&& M)
def f2 (x M : Nat) : Nat := ((x / 4) &&& M) + (x &&& M)
def f3 (x M : Nat) : Nat := (x / 16 + x) &&& M
def rep (m : Nat) : Nat → Nat
  | 0 => 0
  | n + 1 => 256 * rep m n + m
theorem f1_byte (lo hi M : Nat) (h : lo < 256) : f1 (256 * hi + lo) (256 * M + 85) = 256 * f1 hi M + f1 lo 85 := by
  have e1 := shift_mask 1 lo hi 85 M h (by omega) (by omega)
  have e2 := mask_byte lo 85 hi M h (by omega)
  simp only [Nat.reducePow] at e1
  unfold f1
  rw [e1, e2]
  omega
theorem f2_byte (lo hi M : Nat) (h : lo < 256) : f2 (256 * hi + lo) (256 * M + 51) = 256 * f2 hi M + f2 lo 51 := by
  have e1 := shift_mask 2 lo hi 51 M h (by omega) (by omega)
  have e2 := mask_byte lo 51 hi M h (by omega)
  simp only [Nat.reducePow] at e1
  unfold f2
  rw [e1, e2]
  omega
theorem f3_byte (lo hi M : Nat) (h : lo < 256) (h1 : lo % 16 ≤ 4) (h2 : lo / 16 ≤ 4) (h3 : hi % 16 ≤ 4) : f3 (256 * hi + lo) (256 * M + 15) = 256 * f3 hi M + (lo % 16 + lo / 16) := by
  unfold f3
  have e : (256 * hi + lo) / 16 + (256 * hi + lo) = 256 * (hi / 16 + hi) + (16 * (lo / 16 + hi % 16) + (lo % 16 + lo / 16)) := by omega
  rw [e, mask_byte _ _ _ _ (by omega) (by omega)]
  congr 1
  rw [show (15 : Nat) = 2 ^ 4 - 1 from rfl, Nat.and_two_pow_sub_one_eq_mod]
  omega
/-- A byte's part of the first two sums, and of the third. -/
def g2 (b : Nat) : Nat := f2 (f1 b 85) 51
def g3 (b : Nat) : Nat := g2 b % 16 + g2 b / 16
theorem bytes_ok : ∀ b, b < 256 → f1 b 85 < 256 ∧ g2 b < 256 ∧ g2 b % 16 ≤ 4 ∧ g2 b / 16 ≤ 4 ∧ g3 b = pcount 8 b := by
  have h : (List.range 256).all (fun b => decide (f1 b 85 < 256 ∧ g2 b < 256 ∧ g2 b % 16 ≤ 4 ∧ g2 b / 16 ≤ 4 ∧ g3 b = pcount 8 b)) = true := by decide +kernel
  intro b hb
  exact of_decide_eq_true (List.all_eq_true.1 h b (List.mem_range.2 hb))
/-- The third step's number, byte by byte. -/
def sums : Nat → Nat → Nat
  | 0, _ => 0
  | n + 1, x => 256 * sums n (x / 256) + g3 (x % 256)
theorem three_steps (n : Nat) : ∀ x, x < 256 ^ n → f2 (f1 x (rep 85 n)) (rep 51 n) % 16 ≤ 4 ∧ f3 (f2 (f1 x (rep 85 n)) (rep 51 n)) (rep 15 n) = sums n x := by
  induction n with
  | zero =>
    intro x hx
    have : x = 0 := by simp at hx; exact hx
    subst this
    exact ⟨by decide, by decide⟩
  | succ n ih =>
    intro x hx
    have hx' : x / 256 < 256 ^ n := by rw [Nat.pow_succ] at hx; omega
    obtain ⟨i1, i2⟩ := ih (x / 256) hx'
    obtain ⟨b1, b2, b3, b4, b5⟩ := bytes_ok (x % 256) (Nat.mod_lt _ (by omega))
    have e : x = 256 * (x / 256) + x % 256 := by omega
    have e1 : f1 x (rep 85 (n + 1)) = 256 * f1 (x / 256) (rep 85 n) + f1 (x % 256) 85 := by
      conv => lhs; rw [e]
      exact f1_byte _ _ _ (Nat.mod_lt _ (by omega))
    have e2 : f2 (f1 x (rep 85 (n + 1))) (rep 51 (n + 1)) = 256 * f2 (f1 (x / 256) (rep 85 n)) (rep 51 n) + g2 (x % 256) := by
      rw [e1]
      exact f2_byte _ _ _ b1
    rw [e2]
    refine ⟨by omega, ?_⟩
    have e3 := f3_byte (g2 (x % 256)) (f2 (f1 (x / 256) (rep 85 n)) (rep 51 n)) (rep 15 n) b2 b3 b4 i1
    show f3 _ (256 * rep 15 n + 15) = _
    rw [e3, i2]
    rfl
theorem sums_count (n : Nat) : ∀ x, (∃ l : List Nat, l.length = n ∧ (∀ c ∈ l, c ≤ 8) ∧ sums n x = l.foldr (fun c a => 256 * a + c) 0 ∧ l.sum = pcount (8 * n) x) := by
  induction n with
  | zero => intro x; exact ⟨[], rfl, by simp, rfl, rfl⟩
  | succ n ih =>
    intro x
    obtain ⟨l, hl, h8, hs, hc⟩ := ih (x / 256)
    obtain ⟨_, _, _, _, b5⟩ := bytes_ok (x % 256) (Nat.mod_lt _ (by omega))
    have hp : pcount 8 (x % 256) = pcount 8 x := pcount_mod 8 x
    refine ⟨g3 (x % 256) :: l, by simp [hl], ?_, ?_, ?_⟩
    · intro c hcm
      rcases List.mem_cons.1 hcm with rfl | h
      · obtain ⟨_, _, b3, b4, _⟩ := bytes_ok (x % 256) (Nat.mod_lt _ (by omega))
        unfold g3; omega
      · exact h8 c h
    · show 256 * sums n (x / 256) + g3 (x % 256) = _
      rw [hs]; rfl
    · rw [List.sum_cons, hc, b5, hp, show 8 * (n + 1) = 8 + 8 * n from by omega, pcount_add]
theorem dv (b Q r : Nat) (h : r < b) : (b * Q + r) / b = Q := by
  rw [Nat.mul_add_div (by omega), Nat.div_eq_of_lt h, Nat.add_zero]
theorem pop_sum (c0 c1 c2 c3 c4 c5 c6 c7 : Nat) (a0 : c0 ≤ 8) (a1 : c1 ≤ 8) (a2 : c2 ≤ 8) (a3 : c3 ≤ 8) (a4 : c4 ≤ 8) (a5 : c5 ≤ 8) (a6 : c6 ≤ 8) (a7 : c7 ≤ 8) :
    256 * (256 * (256 * (256 * (256 * (256 * (256 * (256 * 0 + c7) + c6) + c5) + c4) + c3) + c2) + c1) + c0 ≤ 578721382704613384 ∧
    (let y := 256 * (256 * (256 * (256 * (256 * (256 * (256 * (256 * 0 + c7) + c6) + c5) + c4) + c3) + c2) + c1) + c0
     let y1 := y + y / 256
     let y2 := y1 + y1 / 65536
     let y3 := y2 + y2 / 4294967296
     y3 % 128) = c0 + (c1 + (c2 + (c3 + (c4 + (c5 + (c6 + (c7 + 0))))))) := by
  refine ⟨by omega, ?_⟩
  dsimp only
  obtain ⟨R7, h7⟩ : ∃ R, R = 256 * 0 + c7 := ⟨_, rfl⟩
  rw [← h7]
  obtain ⟨R6, h6⟩ : ∃ R, R = 256 * R7 + c6 := ⟨_, rfl⟩
  rw [← h6]
  obtain ⟨R5, h5⟩ : ∃ R, R = 256 * R6 + c5 := ⟨_, rfl⟩
  rw [← h5]
  obtain ⟨R4, h4⟩ : ∃ R, R = 256 * R5 + c4 := ⟨_, rfl⟩
  rw [← h4]
  obtain ⟨R3, h3⟩ : ∃ R, R = 256 * R4 + c3 := ⟨_, rfl⟩
  rw [← h3]
  obtain ⟨R2, h2⟩ : ∃ R, R = 256 * R3 + c2 := ⟨_, rfl⟩
  rw [← h2]
  obtain ⟨R1, h1⟩ : ∃ R, R = 256 * R2 + c1 := ⟨_, rfl⟩
  rw [← h1, dv 256 R1 c0 (by omega)]
  have e1 : 256 * R1 + c0 + R1 = 65536 * (R2 + R3) + (256 * (c1 + c2) + (c0 + c1)) := by omega
  rw [e1, dv 65536 (R2 + R3) _ (by omega)]
  have e2 : 65536 * (R2 + R3) + (256 * (c1 + c2) + (c0 + c1)) + (R2 + R3) = 4294967296 * (R4 + R5 + R6 + R7) + (16777216 * (c3 + c4 + c5 + c6) + 65536 * (c2 + c3 + c4 + c5) + 256 * (c1 + c2 + c3 + c4) + (c0 + c1 + c2 + c3)) := by omega
  rw [e2, dv 4294967296 (R4 + R5 + R6 + R7) _ (by omega)]
  obtain ⟨K, hK⟩ : ∃ K, 4294967296 * (R4 + R5 + R6 + R7) + (16777216 * (c3 + c4 + c5 + c6) + 65536 * (c2 + c3 + c4 + c5) + 256 * (c1 + c2 + c3 + c4) + (c0 + c1 + c2 + c3)) + (R4 + R5 + R6 + R7) = 128 * K + (c0 + (c1 + (c2 + (c3 + (c4 + (c5 + (c6 + (c7 + 0)))))))) :=
    ⟨33554432 * (R4 + R5 + R6 + R7) + 131072 * (c3 + c4 + c5 + c6) + 512 * (c2 + c3 + c4 + c5) + 2 * (c1 + c2 + c3 + c4) + 2 * R5 + 2 * R6 + 2 * R7, by omega⟩
  rw [hK, Nat.mul_add_mod, Nat.mod_eq_of_lt (by omega)]
/-- OnesCount64, as the text reckons it. -/
def pop64 (x : Nat) : Nat :=
  let y := f3 (f2 (f1 x 6148914691236517205) 3689348814741910323) 1085102592571150095
  let y1 := y + y / 256
  let y2 := y1 + y1 / 65536
  let y3 := y2 + y2 / 4294967296
  y3 % 128
theorem pop_bounds (x : Nat) (hx : x < 2 ^ 64) : f3 (f2 (f1 x 6148914691236517205) 3689348814741910323) 1085102592571150095 ≤ 578721382704613384 ∧ pop64 x = pcount 64 x := by
  have h := (three_steps 8 x (by simpa using hx)).2
  have e1 : rep 85 8 = 6148914691236517205 := by decide
  have e2 : rep 51 8 = 3689348814741910323 := by decide
  have e3 : rep 15 8 = 1085102592571150095 := by decide
  rw [e1, e2, e3] at h
  obtain ⟨l, hl, h8, hs, hc⟩ := sums_count 8 x
  unfold pop64
  rw [h, hs]
  match l, hl with
  | [c0, c1, c2, c3, c4, c5, c6, c7], _ =>
    have a0 := h8 c0 (by simp); have a1 := h8 c1 (by simp); have a2 := h8 c2 (by simp); have a3 := h8 c3 (by simp)
    have a4 := h8 c4 (by simp); have a5 := h8 c5 (by simp); have a6 := h8 c6 (by simp); have a7 := h8 c7 (by simp)
    simp only [List.foldr_cons, List.foldr_nil, List.sum_cons, List.sum_nil] at hc ⊢
    rw [show 8 * 8 = 64 from rfl] at hc
    rw [← hc]
    exact pop_sum c0 c1 c2 c3 c4 c5 c6 c7 a0 a1 a2 a3 a4 a5 a6 a7
end Go.Proofs.YtckkfbepclogcaaGreatDoor
