/- Plain: the ones of 64 bits, counted by sums of neighbours (math/bits.OnesCount64's way). -/
import Derived.Test.YtifoeddeofhclaaDoorNat
namespace Go.Proofs.YtifoeddeofhclaaDoor
/-- A byte and what stands above it, under a mask byte by byte. -/
theorem mask_byte (a m b M : Nat) (ha : a < 256) (hm : m < 256) : (256 * b + a) &&& (256 * M + m) = 256 * (b &&& M) + (a &&& m) := by
  apply Nat.eq_of_testBit_eq
  intro i
  have ham : a &&& m < 2 ^ 8 := Nat.lt_of_le_of_lt Nat.and_le_left ha
  have e1 := testBit_low b 8 i a ha
  have e2 := testBit_low M 8 i m hm
  have e3 := testBit_low (b &&& M) 8 i (a &&& m) ham
  simp only [Nat.reducePow] at e1 e2 e3
  rw [Nat.testBit_and, e1, e2, e3]
  split <;> rw [Nat.testBit_and]
/-- A shift by k < 8, then a mask whose top k bits of each byte are off. -/
theorem shift_mask (k lo hi m M : Nat) (hlo : lo < 256) (hk : k ≤ 8) (hm : m < 2 ^ (8 - k)) : ((256 * hi + lo) / 2 ^ k) &&& (256 * M + m) = 256 * ((hi / 2 ^ k) &&& M) + ((lo / 2 ^ k) &&& m) := by
  apply Nat.eq_of_testBit_eq
  intro i
  have hm8 : m < 2 ^ 8 := Nat.lt_of_lt_of_le hm (Nat.pow_le_pow_right (by omega) (by omega))
  have ham : (lo / 2 ^ k) &&& m < 2 ^ 8 := Nat.lt_of_le_of_lt Nat.and_le_right hm8
  have e1 := testBit_low hi 8 (i + k) lo hlo
  have e2 := testBit_low M 8 i m hm8
  have e3 := testBit_low ((hi / 2 ^ k) &&& M) 8 i ((lo / 2 ^ k) &&& m) ham
  simp only [Nat.reducePow] at e1 e2 e3
  rw [Nat.testBit_and, Nat.testBit_div_two_pow, e1, e2, e3]
  by_cases h : i < 8
  · rw [if_pos h, if_pos h, Nat.testBit_and, Nat.testBit_div_two_pow]
    by_cases h2 : i + k < 8
    · rw [if_pos h2]
    · have : m.testBit i = false := Nat.testBit_lt_two_pow (Nat.lt_of_lt_of_le hm (Nat.pow_le_pow_right (by omega) (by omega)))
      rw [this, Bool.and_false, Bool.and_false]
  · rw [if_neg h, if_neg h, if_neg (by omega), Nat.testBit_and, Nat.testBit_div_two_pow]
    congr 2
    omega
def f1 (x M : Nat) : Nat := ((x / 2) &&& M) + (x &&& M)
def f2 (x M : Nat) : Nat := ((x / 4) &&& M) + (x &&& M)
def f3 (x M : Nat) : Nat := (x / 16 + x) &&& M
def rep (m : Nat) : Nat → Nat
  | 0 => 0
  | n + 1 => 256 * rep m n + m
theorem f1_byte (lo hi M : Nat) (h : lo < 256) : f1 (256 * hi + lo) (256 * M + 85) = 256 * f1 hi M + f1 lo 85 := by
  have e1 := shift_mask 1 lo hi 85 M h (by omega) (by omega)
  have e2 := mask_byte lo 85 hi M h (by omega)
  simp only [Nat.reducePow] at e1
  unfold f1
  rw [e1, e2]
  omega
theorem f2_byte (lo hi M : Nat) (h : lo < 256) : f2 (256 * hi + lo) (256 * M + 51) = 256 * f2 hi M + f2 lo 51 := by
  have e1 := shift_mask 2 lo hi 51 M h (by omega) (by omega)
  have e2 := mask_byte lo 51 hi M h (by omega)
  simp only [Nat.reducePow] at e1
  unfold f2
  rw [e1, e2]
  omega
theorem f3_byte (lo hi M : Nat) (h : lo < 256) (h1 : lo % 16 ≤ 4) (h2 : lo / 16 ≤ 4) (h3 : hi % 16 ≤ 4) : f3 (256 * hi + lo) (256 * M + 15) = 256 * f3 hi M + (lo % 16 + lo / 16) := by
  unfold f3
  have e : (256 * hi + lo) / 16 + (256 * hi + lo) = 256 * (hi / 16 + hi) + (16 * (lo / 16 + hi % 16) + (lo % 16 + lo / 16)) := by omega
  rw [e, mask_byte _ _ _ _ (by omega) (by omega)]
  congr 1
  rw [show (15 : Nat) = 2 ^ 4 - 1 from rfl, Nat.and_two_pow_sub_one_eq_mod]
  omega
/-- A byte's part of the first two sums, and of the third. -/
def g2 (b : Nat) : Nat := f2 (f1 b 85) 51
def g3 (b : Nat) : Nat := g2 b % 16 + g2 b / 16
theorem bytes_ok : ∀ b, b < 256 → f1 b 85 < 256 ∧ g2 b < 256 ∧ g2 b % 16 ≤ 4 ∧ g2 b / 16 ≤ 4 ∧ g3 b = pcount 8 b := by
  have h : (List.range 256).all (fun b => decide (f1 b 85 < 256 ∧ g2 b < 256 ∧ g2 b % 16 ≤ 4 ∧ g2 b / 16 ≤ 4 ∧ g3 b = pcount 8 b)) = true := by decide +kernel
  intro b hb
  exact of_decide_eq_true (List.all_eq_true.1 h b (List.mem_range.2 hb))
/-- The third step's number, byte by byte. -/
def sums : Nat → Nat → Nat
  | 0, _ => 0
  | n + 1, x => 256 * sums n (x / 256) + g3 (x % 256)
theorem three_steps (n : Nat) : ∀ x, x < 256 ^ n → f2 (f1 x (rep 85 n)) (rep 51 n) % 16 ≤ 4 ∧ f3 (f2 (f1 x (rep 85 n)) (rep 51 n)) (rep 15 n) = sums n x := by
  induction n with
  | zero =>
    intro x hx
    have : x = 0 := by simp at hx; exact hx
    subst this
    exact ⟨by decide, by decide⟩
  | succ n ih =>
    intro x hx
    have hx' : x / 256 < 256 ^ n := by rw [Nat.pow_succ] at hx; omega
    obtain ⟨i1, i2⟩ := ih (x / 256) hx'
    obtain ⟨b1, b2, b3, b4, b5⟩ := bytes_ok (x % 256) (Nat.mod_lt _ (by omega))
    have e : x = 256 * (x / 256) + x % 256 := by omega
    have e1 : f1 x (rep 85 (n + 1)) = 256 * f1 (x / 256) (rep 85 n) + f1 (x % 256) 85 := by
      conv => lhs; rw [e]
      exact f1_byte _ _ _ (Nat.mod_lt _ (by omega))
    have e2 : f2 (f1 x (rep 85 (n + 1))) (rep 51 (n + 1)) = 256 * f2 (f1 (x / 256) (rep 85 n)) (rep 51 n) + g2 (x % 256) := by
      rw [e1]
      exact f2_byte _ _ _ b1
    rw [e2]
    refine ⟨by omega, ?_⟩
    have e3 := f3_byte (g2 (x % 256)) (f2 (f1 (x / 256) (rep 85 n)) (rep 51 n)) (rep 15 n) b2 b3 b4 i1
    show f3 _ (256 * rep 15 n + 15) = _
    rw [e3, i2]
    rfl
theorem sums_count (n : Nat) : ∀ x, (∃ l : List Nat, l.length = n ∧ (∀ c ∈ l, c ≤ 8) ∧ sums n x = l.foldr (fun c a => 256 * a + c) 0 ∧ l.sum = pcount (8 * n) x) := by
  induction n with
  | zero => intro x; exact ⟨[], rfl, by simp, rfl, rfl⟩
  | succ n ih =>
    intro x
    obtain ⟨l, hl, h8, hs, hc⟩ := ih (x / 256)
    obtain ⟨_, _, _, _, b5⟩ := bytes_ok (x % 256) (Nat.mod_lt _ (by omega))
    have hp : pcount 8 (x % 256) = pcount 8 x := pcount_mod 8 x
    refine ⟨g3 (x % 256) :: l, by simp [hl], ?_, ?_, ?_⟩
    · intro c hcm
      rcases List.mem_cons.1 hcm with rfl | h
      · obtain ⟨_, _, b3, b4, _⟩ := bytes_ok (x % 256) (Nat.mod_lt _ (by omega))
        unfold g3; omega
      · exact h8 c h
    · show 256 * sums n (x / 256) + g3 (x % 256) = _
      rw [hs]; rfl
    · rw [List.sum_cons, hc, b5, hp, show 8 * (n + 1) = 8 + 8 * n from by omega, pcount_add]
theorem dv (b Q r : Nat) (h : r < b) : (b * Q + r) / b = Q := by
  rw [Nat.mul_add_div (by omega), Nat.div_eq_of_lt h, Nat.add_zero]
theorem pop_sum (c0 c1 c2 c3 c4 c5 c6 c7 : Nat) (a0 : c0 ≤ 8) (a1 : c1 ≤ 8) (a2 : c2 ≤ 8) (a3 : c3 ≤ 8) (a4 : c4 ≤ 8) (a5 : c5 ≤ 8) (a6 : c6 ≤ 8) (a7 : c7 ≤ 8) :
    256 * (256 * (256 * (256 * (256 * (256 * (256 * (256 * 0 + c7) + c6) + c5) + c4) + c3) + c2) + c1) + c0 ≤ 578721382704613384 ∧
    (let y := 256 * (256 * (256 * (256 * (256 * (256 * (256 * (256 * 0 + c7) + c6) + c5) + c4) + c3) + c2) + c1) + c0
     let y1 := y + y / 256
     let y2 := y1 + y1 / 65536
     let y3 := y2 + y2 / 4294967296
     y3 % 128) = c0 + (c1 + (c2 + (c3 + (c4 + (c5 + (c6 + (c7 + 0))))))) := by
  refine ⟨by omega, ?_⟩
  dsimp only
  obtain ⟨R7, h7⟩ : ∃ R, R = 256 * 0 + c7 := ⟨_, rfl⟩
  rw [← h7]
  obtain ⟨R6, h6⟩ : ∃ R, R = 256 * R7 + c6 := ⟨_, rfl⟩
  rw [← h6]
  obtain ⟨R5, h5⟩ : ∃ R, R = 256 * R6 + c5 := ⟨_, rfl⟩
  rw [← h5]
  obtain ⟨R4, h4⟩ : ∃ R, R = 256 * R5 + c4 := ⟨_, rfl⟩
  rw [← h4]
  obtain ⟨R3, h3⟩ : ∃ R, R = 256 * R4 + c3 := ⟨_, rfl⟩
  rw [← h3]
  obtain ⟨R2, h2⟩ : ∃ R, R = 256 * R3 + c2 := ⟨_, rfl⟩
  rw [← h2]
  obtain ⟨R1, h1⟩ : ∃ R, R = 256 * R2 + c1 := ⟨_, rfl⟩
  rw [← h1, dv 256 R1 c0 (by omega)]
  have e1 : 256 * R1 + c0 + R1 = 65536 * (R2 + R3) + (256 * (c1 + c2) + (c0 + c1)) := by omega
  rw [e1, dv 65536 (R2 + R3) _ (by omega)]
  have e2 : 65536 * (R2 + R3) + (256 * (c1 + c2) + (c0 + c1)) + (R2 + R3) = 4294967296 * (R4 + R5 + R6 + R7) + (16777216 * (c3 + c4 + c5 + c6) + 65536 * (c2 + c3 + c4 + c5) + 256 * (c1 + c2 + c3 + c4) + (c0 + c1 + c2 + c3)) := by omega
  rw [e2, dv 4294967296 (R4 + R5 + R6 + R7) _ (by omega)]
  obtain ⟨K, hK⟩ : ∃ K, 4294967296 * (R4 + R5 + R6 + R7) + (16777216 * (c3 + c4 + c5 + c6) + 65536 * (c2 + c3 + c4 + c5) + 256 * (c1 + c2 + c3 + c4) + (c0 + c1 + c2 + c3)) + (R4 + R5 + R6 + R7) = 128 * K + (c0 + (c1 + (c2 + (c3 + (c4 + (c5 + (c6 + (c7 + 0)))))))) :=
    ⟨33554432 * (R4 + R5 + R6 + R7) + 131072 * (c3 + c4 + c5 + c6) + 512 * (c2 + c3 + c4 + c5) + 2 * (c1 + c2 + c3 + c4) + 2 * R5 + 2 * R6 + 2 * R7, by omega⟩
  rw [hK, Nat.mul_add_mod, Nat.mod_eq_of_lt (by omega)]
/-- OnesCount64, as the text reckons it. -/
def pop64 (x : Nat) : Nat :=
  let y := f3 (f2 (f1 x 6148914691236517205) 3689348814741910323) 1085102592571150095
  let y1 := y + y / 256
  let y2 := y1 + y1 / 65536
  let y3 := y2 + y2 / 4294967296
  y3 % 128
theorem pop_bounds (x : Nat) (hx : x < 2 ^ 64) : f3 (f2 (f1 x 6148914691236517205) 3689348814741910323) 1085102592571150095 ≤ 578721382704613384 ∧ pop64 x = pcount 64 x := by
  have h := (three_steps 8 x (by simpa using hx)).2
  have e1 : rep 85 8 = 6148914691236517205 := by decide
  have e2 : rep 51 8 = 3689348814741910323 := by decide
  have e3 : rep 15 8 = 1085102592571150095 := by decide
  rw [e1, e2, e3] at h
  obtain ⟨l, hl, h8, hs, hc⟩ := sums_count 8 x
  unfold pop64
  rw [h, hs]
  match l, hl with
  | [c0, c1, c2, c3, c4, c5, c6, c7], _ =>
    have a0 := h8 c0 (by simp); have a1 := h8 c1 (by simp); have a2 := h8 c2 (by simp); have a3 := h8 c3 (by simp)
    have a4 := h8 c4 (by simp); have a5 := h8 c5 (by simp); have a6 := h8 c6 (by simp); have a7 := h8 c7 (by simp)
    simp only [List.foldr_cons, List.foldr_nil, List.sum_cons, List.sum_nil] at hc ⊢
    rw [show 8 * 8 = 64 from rfl] at hc
    rw [← hc]
    exact pop_sum c0 c1 c2 c3 c4 c5 c6 c7 a0 a1 a2 a3 a4 a5 a6 a7
end Go.Proofs.YtifoeddeofhclaaDoor
