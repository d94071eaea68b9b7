/- Layer 2 (bitmap): Last, walked. -/
import Derived.Test.YtifoeddeofhclaaDoorRound
import Derived.Lib.BitFns
import Derived.Test.YtifoeddeofhclaaDoorShelf
namespace Go.Proofs.YtifoeddeofhclaaDoor
open Go.RowKit
theorem len_top (x t : Nat) (ht : t < 64) (h1 : 2 ^ t ≤ x) (h2 : x < 2 ^ (t + 1)) : Lib.bitLen x = t + 1 := by
  have h64 : 2 ^ (t + 1) ≤ 2 ^ 64 := Nat.pow_le_pow_right (by omega) (by omega)
  rw [Lib.bitLen_shift t x h1 (by omega)]
  have : x / 2 ^ t = 1 := by
    have hp := Nat.two_pow_pos t
    rw [Nat.pow_succ] at h2
    exact Nat.div_eq_of_lt_le (by omega) (by omega)
  rw [this]
  rfl
theorem ones_top (x t : Nat) (ht : t < 64) (h1 : 2 ^ t ≤ x) (h2 : x < 2 ^ (t + 1)) : ∃ l, onesOf 64 x = l ++ [t] := by
  have hp := Nat.two_pow_pos t
  have h3 : x.testBit t = true := by
    rw [Nat.testBit_eq_decide_div_mod_eq]
    have : x / 2 ^ t = 1 := by
      rw [Nat.pow_succ] at h2
      exact Nat.div_eq_of_lt_le (by omega) (by omega)
    rw [this]
    rfl
  refine ⟨(List.range t).filter fun i => x.testBit i, ?_⟩
  unfold onesOf
  have e : 64 = (t + 1) + (63 - t) := by omega
  rw [e, List.range_add, List.filter_append, List.range_succ, List.filter_append]
  have e3 : ((List.range (63 - t)).map fun y => t + 1 + y).filter (fun i => x.testBit i) = [] := by
    rw [List.filter_eq_nil_iff]
    intro i hi
    obtain ⟨y, _, rfl⟩ := List.mem_map.1 hi
    rw [Nat.testBit_lt_two_pow (Nat.lt_of_lt_of_le h2 (Nat.pow_le_pow_right (by omega) (by omega)))]
    simp
  rw [e3]
  simp [h3]
theorem top_form (x : Nat) (h : x ≠ 0) (hx : x < 2 ^ 64) : ∃ t, t < 64 ∧ 2 ^ t ≤ x ∧ x < 2 ^ (t + 1) := by
  refine ⟨x.log2, ?_, Nat.log2_self_le h, Nat.lt_log2_self⟩
  exact (Nat.log2_lt h).2 hx
theorem len_any (x t : Nat) (w : World) (ht : t < 64) (h1 : 2 ^ t ≤ x) (h2 : x < 2 ^ (t + 1)) : Calls Tryd.prog 33 #[.int .u64 (x : Nat)] w fun e w' => e = .returned (.int .i64 ((t : Int) + 1)) ∧ w = w' := by
  have h64 : 2 ^ (t + 1) ≤ 2 ^ 64 := Nat.pow_le_pow_right (by omega) (by omega)
  refine (Tryd.bits_Len64 x w (by omega) (by simp only [Nat.reducePow] at h64; omega)).mono ?_
  rintro e w' ⟨rfl, rfl⟩
  rw [Int.toNat_natCast, len_top x t ht h1 h2]
  exact ⟨ret_int (by simp), rfl⟩
theorem shift_ok (x r : Nat) (hr : r < 64) : IntKind.u64.wrap ((x : Int) * 2 ^ (63 - r)) / 2 ^ (63 - r) = ((x % 2 ^ (r + 1) : Nat) : Int) := by
  have e : (2 : Nat) ^ 64 = 2 ^ (r + 1) * 2 ^ (63 - r) := by rw [← Nat.pow_add]; congr 1; omega
  have e2 : ((2 : Int) ^ (63 - r)) = ((2 ^ (63 - r) : Nat) : Int) := by simp
  have hp := Nat.two_pow_pos (63 - r)
  rw [e2, IntKind.wrap_u64, show (18446744073709551616 : Int) = ((2 ^ 64 : Nat) : Int) from rfl, e]
  generalize 2 ^ (63 - r) = z at *
  generalize 2 ^ (r + 1) = y at *
  have : (x : Int) * (z : Int) % ((y * z : Nat) : Int) / (z : Int) = ((x * z % (y * z) / z : Nat) : Int) := by simp
  rw [this, Nat.mul_mod_mul_right, Nat.mul_div_cancel _ hp]
theorem ones_mod (x r : Nat) (hr : r < 64) : onesOf 64 (x % 2 ^ (r + 1)) = onesOf (r + 1) x := by
  unfold onesOf
  have e : 64 = (r + 1) + (63 - r) := by omega
  rw [e, List.range_add, List.filter_append]
  have e3 : ((List.range (63 - r)).map fun y => r + 1 + y).filter (fun i => (x % 2 ^ (r + 1)).testBit i) = [] := by
    rw [List.filter_eq_nil_iff]
    intro i hi
    obtain ⟨y, _, rfl⟩ := List.mem_map.1 hi
    rw [Nat.testBit_mod_two_pow]
    simp
    intro h
    omega
  rw [e3, List.append_nil]
  apply List.filter_congr
  intro i hi
  have := List.mem_range.1 hi
  rw [Nat.testBit_mod_two_pow]
  simp [this]
theorem upl_part (b : Bits) (n : Nat) : b.upl (n + 1) = b.upl (64 * (n / 64)) ++ (onesOf 64 (b.word (n / 64) % 2 ^ (n % 64 + 1))).map fun t : Nat => 64 * ((n / 64 : Nat) : Int) + (t : Int) := by
  rw [ones_mod _ _ (Nat.mod_lt _ (by omega))]
  unfold Bits.upl onesOf
  rw [show n + 1 = 64 * (n / 64) + (n % 64 + 1) by omega, List.range_add, List.filter_append, List.map_append, List.filter_map, List.map_map]
  congr 1
  have hm : n % 64 < 64 := Nat.mod_lt _ (by omega)
  have e2 : (List.range (n % 64 + 1)).filter (b.at ∘ fun x => 64 * (n / 64) + x) = (List.range (n % 64 + 1)).filter fun i => (b.word (n / 64)).testBit i := by
    apply List.filter_congr
    intro x hx
    have := List.mem_range.1 hx
    simp only [Function.comp, Bits.at]
    rw [show (64 * (n / 64) + x) / 64 = n / 64 by omega, show (64 * (n / 64) + x) % 64 = x by omega]
  rw [e2]
  apply List.map_congr_left
  intro x _
  simp
theorem last_upl (b : Bits) (n : Nat) (hn : n < 256) : b.last n = (b.upl (n + 1)).getLast? := by
  unfold Bits.last
  obtain ⟨rest, e, h1⟩ : ∃ rest, b.list = b.upl (n + 1) ++ rest ∧ ∀ x ∈ rest, ¬ x ≤ (n : Int) := by
    refine ⟨(((List.range (255 - n)).map fun x => n + 1 + x).filter b.at).map fun m => ((m : Nat) : Int), ?_, ?_⟩
    · unfold Bits.list Bits.upl
      rw [← List.map_append, ← List.filter_append, ← List.range_add, show n + 1 + (255 - n) = 256 by omega]
    · intro x hx
      obtain ⟨m, hm, rfl⟩ := List.mem_map.1 hx
      obtain ⟨y, _, rfl⟩ := List.mem_map.1 (List.mem_filter.1 hm).1
      omega
  have h2 : ∀ x ∈ b.upl (n + 1), x ≤ (n : Int) := by
    intro x hx
    unfold Bits.upl at hx
    obtain ⟨m, hm, rfl⟩ := List.mem_map.1 hx
    have := List.mem_range.1 (List.mem_filter.1 hm).1
    omega
  rw [e, List.reverse_append, List.find?_append]
  have h3 : rest.reverse.find? (fun x => decide (x ≤ (n : Int))) = none := by
    rw [List.find?_eq_none]
    intro x hx
    simpa using h1 x (List.mem_reverse.1 hx)
  rw [h3]
  simp only [Option.none_or]
  rw [List.getLast?_eq_head?_reverse]
  cases hl : (b.upl (n + 1)).reverse with
  | nil => rfl
  | cons y l =>
    have : y ∈ b.upl (n + 1) := List.mem_reverse.1 (by rw [hl]; simp)
    rw [List.find?_cons_of_pos (by simpa using h2 y this)]
    rfl
set_option maxRecDepth 100000 in
theorem last_lo0 (n : Nat) (i : Int) (b : Bits) (hb : b.Ok) (w : World) (hi : i = n) (hn : n < 256) (hq : n / 64 = 0) :
    Calls Tryd.prog 25 #[b.val, .int .i64 n] w fun e w' => e = .returned (pairV (b.last i)) ∧ Below w.heap.size w w' := by
  obtain ⟨last, hlast⟩ : ∃ o, o = b.last i := ⟨_, rfl⟩
  rw [← hlast]
  have hbw : ∀ k, b.word k < 18446744073709551616 := fun k => by have := hb.word k; simpa using this
  have hqi : (n : Int) / 64 = 0 := by omega
  have hmn : min (n : Int) 255 = n := by omega
  have hsh := shift_ok b.w0 (n % 64) (Nat.mod_lt _ (by omega))
  have hinit : Hid (last = (b.upl (64 * 0) ++ (onesOf 64 (b.w0 % 2 ^ (n % 64 + 1))).map (fun t : Nat => 64 * ((0 : Nat) : Int) + (t : Int))).getLast?) := Lib.hid (by rw [hlast, hi, last_upl b n hn, upl_part, hq]; rfl)
  have hwlt : b.w0 % 2 ^ (n % 64 + 1) < 18446744073709551616 := Nat.lt_of_le_of_lt (Nat.mod_le _ _) (by have := hb.h0; simpa using this)
  clear hlast
  unfold Bits.val
  go_enter Tryd.func25, Tryd.ntmps25
  go_wp2_with fail
  go_loop [6, 7] (fun v p => ∃ k x : Nat, k ≤ 0 + 1 ∧ p = .int .i64 ((k : Int) - 1) ∧ v = .int .u64 x ∧ x < 18446744073709551616 ∧ Hid (last = match k with | 0 => none | j + 1 => (b.upl (64 * j) ++ (onesOf 64 x).map (fun t : Nat => 64 * (j : Int) + (t : Int))).getLast?)) (fun _ p => (intOf p + 1).toNat)
  case atStart => exact ⟨0 + 1, _, by omega, by go_num, congrArg (Value.int .u64) hsh, hwlt, hinit⟩
  case round =>
    obtain ⟨k, x, hk, rfl, rfl, hx, hL⟩ := hrel
    have hkc : k = 0 ∨ k = 1 := by omega
    clear hinit hwlt
    rcases hkc with rfl | rfl
    · have hL2 : Hid (last = none) := hL
      clear hL
      go_wp2_with fail
      refine bodyPost_ret (v := pairV none) (by simp [results, Tryd.results25, go_sem, pairV]) rfl ⟨by rw [hL2.out], ?_⟩
      exact (Below.refl _ _).alloc (Nat.le_refl _) _
    · have hxc : x = 0 ∨ x ≠ 0 := by omega
      rcases hxc with rfl | hx0
      · have hL2 : Hid (last = (b.upl (64 * 0)).getLast?) := Lib.hid (by rw [hL.out, ones_zero]; simp)
        clear hL
        go_wp2_with fail
        (go_round; (case rel => exact ⟨0, 0, by omega, by go_num, by rfl, by omega, hL2⟩); (case measure => simp [intOf]))
      · obtain ⟨t, ht, ht1, ht2⟩ := top_form x hx0 (by simpa using hx)
        obtain ⟨l, hl⟩ := ones_top x t ht ht1 ht2
        have hL2 : Hid (last = some (64 * (0 : Int) + (t : Int))) := Lib.hid (by rw [hL.out, hl]; simp)
        have hle := fun w => len_any x t w ht ht1 ht2
        have hx3 : ((x : Int) != 0) = true := by simp; omega
        clear hL hl ht1 ht2
        go_wp2_with (go_at_call 33; refine (hle _).mono ?_; rintro e w' ⟨rfl, rfl⟩)
        refine bodyPost_ret (v := pairV (some (64 * (0 : Int) + (t : Int)))) (by simp [results, Tryd.results25, go_sem, pairV] <;> omega) rfl ⟨by rw [hL2.out], ?_⟩
        exact (Below.refl _ _).alloc (Nat.le_refl _) _
set_option maxRecDepth 100000 in
theorem last_lo1 (n : Nat) (i : Int) (b : Bits) (hb : b.Ok) (w : World) (hi : i = n) (hn : n < 256) (hq : n / 64 = 1) :
    Calls Tryd.prog 25 #[b.val, .int .i64 n] w fun e w' => e = .returned (pairV (b.last i)) ∧ Below w.heap.size w w' := by
  obtain ⟨last, hlast⟩ : ∃ o, o = b.last i := ⟨_, rfl⟩
  rw [← hlast]
  have hbw : ∀ k, b.word k < 18446744073709551616 := fun k => by have := hb.word k; simpa using this
  have hqi : (n : Int) / 64 = 1 := by omega
  have hmn : min (n : Int) 255 = n := by omega
  have hsh := shift_ok b.w1 (n % 64) (Nat.mod_lt _ (by omega))
  have hinit : Hid (last = (b.upl (64 * 1) ++ (onesOf 64 (b.w1 % 2 ^ (n % 64 + 1))).map (fun t : Nat => 64 * ((1 : Nat) : Int) + (t : Int))).getLast?) := Lib.hid (by rw [hlast, hi, last_upl b n hn, upl_part, hq]; rfl)
  have hwlt : b.w1 % 2 ^ (n % 64 + 1) < 18446744073709551616 := Nat.lt_of_le_of_lt (Nat.mod_le _ _) (by have := hb.h1; simpa using this)
  clear hlast
  unfold Bits.val
  go_enter Tryd.func25, Tryd.ntmps25
  go_wp2_with fail
  go_loop [6, 7] (fun v p => ∃ k x : Nat, k ≤ 1 + 1 ∧ p = .int .i64 ((k : Int) - 1) ∧ v = .int .u64 x ∧ x < 18446744073709551616 ∧ Hid (last = match k with | 0 => none | j + 1 => (b.upl (64 * j) ++ (onesOf 64 x).map (fun t : Nat => 64 * (j : Int) + (t : Int))).getLast?)) (fun _ p => (intOf p + 1).toNat)
  case atStart => exact ⟨1 + 1, _, by omega, by go_num, congrArg (Value.int .u64) hsh, hwlt, hinit⟩
  case round =>
    obtain ⟨k, x, hk, rfl, rfl, hx, hL⟩ := hrel
    have hkc : k = 0 ∨ k = 1 ∨ k = 2 := by omega
    clear hinit hwlt
    rcases hkc with rfl | rfl | rfl
    · have hL2 : Hid (last = none) := hL
      clear hL
      go_wp2_with fail
      refine bodyPost_ret (v := pairV none) (by simp [results, Tryd.results25, go_sem, pairV]) rfl ⟨by rw [hL2.out], ?_⟩
      exact (Below.refl _ _).alloc (Nat.le_refl _) _
    · have hxc : x = 0 ∨ x ≠ 0 := by omega
      rcases hxc with rfl | hx0
      · have hL2 : Hid (last = (b.upl (64 * 0)).getLast?) := Lib.hid (by rw [hL.out, ones_zero]; simp)
        clear hL
        go_wp2_with fail
        (go_round; (case rel => exact ⟨0, 0, by omega, by go_num, by rfl, by omega, hL2⟩); (case measure => simp [intOf]))
      · obtain ⟨t, ht, ht1, ht2⟩ := top_form x hx0 (by simpa using hx)
        obtain ⟨l, hl⟩ := ones_top x t ht ht1 ht2
        have hL2 : Hid (last = some (64 * (0 : Int) + (t : Int))) := Lib.hid (by rw [hL.out, hl]; simp)
        have hle := fun w => len_any x t w ht ht1 ht2
        have hx3 : ((x : Int) != 0) = true := by simp; omega
        clear hL hl ht1 ht2
        go_wp2_with (go_at_call 33; refine (hle _).mono ?_; rintro e w' ⟨rfl, rfl⟩)
        refine bodyPost_ret (v := pairV (some (64 * (0 : Int) + (t : Int)))) (by simp [results, Tryd.results25, go_sem, pairV] <;> omega) rfl ⟨by rw [hL2.out], ?_⟩
        exact (Below.refl _ _).alloc (Nat.le_refl _) _
    · have hxc : x = 0 ∨ x ≠ 0 := by omega
      rcases hxc with rfl | hx0
      · have hL2 : Hid (last = (b.upl (64 * 1)).getLast?) := Lib.hid (by rw [hL.out, ones_zero]; simp)
        clear hL
        go_wp2_with fail
        (go_round; (case rel => exact ⟨1, b.word 0, by omega, by go_num, by rfl, hbw 0, Lib.hid (by rw [hL2.out]; exact congrArg List.getLast? (upl_word b 0))⟩); (case measure => simp [intOf]))
      · obtain ⟨t, ht, ht1, ht2⟩ := top_form x hx0 (by simpa using hx)
        obtain ⟨l, hl⟩ := ones_top x t ht ht1 ht2
        have hL2 : Hid (last = some (64 * (1 : Int) + (t : Int))) := Lib.hid (by rw [hL.out, hl]; simp)
        have hle := fun w => len_any x t w ht ht1 ht2
        have hx3 : ((x : Int) != 0) = true := by simp; omega
        clear hL hl ht1 ht2
        go_wp2_with (go_at_call 33; refine (hle _).mono ?_; rintro e w' ⟨rfl, rfl⟩)
        refine bodyPost_ret (v := pairV (some (64 * (1 : Int) + (t : Int)))) (by simp [results, Tryd.results25, go_sem, pairV] <;> omega) rfl ⟨by rw [hL2.out], ?_⟩
        exact (Below.refl _ _).alloc (Nat.le_refl _) _
set_option maxRecDepth 100000 in
theorem last_lo2 (n : Nat) (i : Int) (b : Bits) (hb : b.Ok) (w : World) (hi : i = n) (hn : n < 256) (hq : n / 64 = 2) :
    Calls Tryd.prog 25 #[b.val, .int .i64 n] w fun e w' => e = .returned (pairV (b.last i)) ∧ Below w.heap.size w w' := by
  obtain ⟨last, hlast⟩ : ∃ o, o = b.last i := ⟨_, rfl⟩
  rw [← hlast]
  have hbw : ∀ k, b.word k < 18446744073709551616 := fun k => by have := hb.word k; simpa using this
  have hqi : (n : Int) / 64 = 2 := by omega
  have hmn : min (n : Int) 255 = n := by omega
  have hsh := shift_ok b.w2 (n % 64) (Nat.mod_lt _ (by omega))
  have hinit : Hid (last = (b.upl (64 * 2) ++ (onesOf 64 (b.w2 % 2 ^ (n % 64 + 1))).map (fun t : Nat => 64 * ((2 : Nat) : Int) + (t : Int))).getLast?) := Lib.hid (by rw [hlast, hi, last_upl b n hn, upl_part, hq]; rfl)
  have hwlt : b.w2 % 2 ^ (n % 64 + 1) < 18446744073709551616 := Nat.lt_of_le_of_lt (Nat.mod_le _ _) (by have := hb.h2; simpa using this)
  clear hlast
  unfold Bits.val
  go_enter Tryd.func25, Tryd.ntmps25
  go_wp2_with fail
  go_loop [6, 7] (fun v p => ∃ k x : Nat, k ≤ 2 + 1 ∧ p = .int .i64 ((k : Int) - 1) ∧ v = .int .u64 x ∧ x < 18446744073709551616 ∧ Hid (last = match k with | 0 => none | j + 1 => (b.upl (64 * j) ++ (onesOf 64 x).map (fun t : Nat => 64 * (j : Int) + (t : Int))).getLast?)) (fun _ p => (intOf p + 1).toNat)
  case atStart => exact ⟨2 + 1, _, by omega, by go_num, congrArg (Value.int .u64) hsh, hwlt, hinit⟩
  case round =>
    obtain ⟨k, x, hk, rfl, rfl, hx, hL⟩ := hrel
    have hkc : k = 0 ∨ k = 1 ∨ k = 2 ∨ k = 3 := by omega
    clear hinit hwlt
    rcases hkc with rfl | rfl | rfl | rfl
    · have hL2 : Hid (last = none) := hL
      clear hL
      go_wp2_with fail
      refine bodyPost_ret (v := pairV none) (by simp [results, Tryd.results25, go_sem, pairV]) rfl ⟨by rw [hL2.out], ?_⟩
      exact (Below.refl _ _).alloc (Nat.le_refl _) _
    · have hxc : x = 0 ∨ x ≠ 0 := by omega
      rcases hxc with rfl | hx0
      · have hL2 : Hid (last = (b.upl (64 * 0)).getLast?) := Lib.hid (by rw [hL.out, ones_zero]; simp)
        clear hL
        go_wp2_with fail
        (go_round; (case rel => exact ⟨0, 0, by omega, by go_num, by rfl, by omega, hL2⟩); (case measure => simp [intOf]))
      · obtain ⟨t, ht, ht1, ht2⟩ := top_form x hx0 (by simpa using hx)
        obtain ⟨l, hl⟩ := ones_top x t ht ht1 ht2
        have hL2 : Hid (last = some (64 * (0 : Int) + (t : Int))) := Lib.hid (by rw [hL.out, hl]; simp)
        have hle := fun w => len_any x t w ht ht1 ht2
        have hx3 : ((x : Int) != 0) = true := by simp; omega
        clear hL hl ht1 ht2
        go_wp2_with (go_at_call 33; refine (hle _).mono ?_; rintro e w' ⟨rfl, rfl⟩)
        refine bodyPost_ret (v := pairV (some (64 * (0 : Int) + (t : Int)))) (by simp [results, Tryd.results25, go_sem, pairV] <;> omega) rfl ⟨by rw [hL2.out], ?_⟩
        exact (Below.refl _ _).alloc (Nat.le_refl _) _
    · have hxc : x = 0 ∨ x ≠ 0 := by omega
      rcases hxc with rfl | hx0
      · have hL2 : Hid (last = (b.upl (64 * 1)).getLast?) := Lib.hid (by rw [hL.out, ones_zero]; simp)
        clear hL
        go_wp2_with fail
        (go_round; (case rel => exact ⟨1, b.word 0, by omega, by go_num, by rfl, hbw 0, Lib.hid (by rw [hL2.out]; exact congrArg List.getLast? (upl_word b 0))⟩); (case measure => simp [intOf]))
      · obtain ⟨t, ht, ht1, ht2⟩ := top_form x hx0 (by simpa using hx)
        obtain ⟨l, hl⟩ := ones_top x t ht ht1 ht2
        have hL2 : Hid (last = some (64 * (1 : Int) + (t : Int))) := Lib.hid (by rw [hL.out, hl]; simp)
        have hle := fun w => len_any x t w ht ht1 ht2
        have hx3 : ((x : Int) != 0) = true := by simp; omega
        clear hL hl ht1 ht2
        go_wp2_with (go_at_call 33; refine (hle _).mono ?_; rintro e w' ⟨rfl, rfl⟩)
        refine bodyPost_ret (v := pairV (some (64 * (1 : Int) + (t : Int)))) (by simp [results, Tryd.results25, go_sem, pairV] <;> omega) rfl ⟨by rw [hL2.out], ?_⟩
        exact (Below.refl _ _).alloc (Nat.le_refl _) _
    · have hxc : x = 0 ∨ x ≠ 0 := by omega
      rcases hxc with rfl | hx0
      · have hL2 : Hid (last = (b.upl (64 * 2)).getLast?) := Lib.hid (by rw [hL.out, ones_zero]; simp)
        clear hL
        go_wp2_with fail
        (go_round; (case rel => exact ⟨2, b.word 1, by omega, by go_num, by rfl, hbw 1, Lib.hid (by rw [hL2.out]; exact congrArg List.getLast? (upl_word b 1))⟩); (case measure => simp [intOf]))
      · obtain ⟨t, ht, ht1, ht2⟩ := top_form x hx0 (by simpa using hx)
        obtain ⟨l, hl⟩ := ones_top x t ht ht1 ht2
        have hL2 : Hid (last = some (64 * (2 : Int) + (t : Int))) := Lib.hid (by rw [hL.out, hl]; simp)
        have hle := fun w => len_any x t w ht ht1 ht2
        have hx3 : ((x : Int) != 0) = true := by simp; omega
        clear hL hl ht1 ht2
        go_wp2_with (go_at_call 33; refine (hle _).mono ?_; rintro e w' ⟨rfl, rfl⟩)
        refine bodyPost_ret (v := pairV (some (64 * (2 : Int) + (t : Int)))) (by simp [results, Tryd.results25, go_sem, pairV] <;> omega) rfl ⟨by rw [hL2.out], ?_⟩
        exact (Below.refl _ _).alloc (Nat.le_refl _) _
set_option maxRecDepth 100000 in
theorem last_lo3 (n : Nat) (i : Int) (b : Bits) (hb : b.Ok) (w : World) (hi : i = n) (hn : n < 256) (hq : n / 64 = 3) :
    Calls Tryd.prog 25 #[b.val, .int .i64 n] w fun e w' => e = .returned (pairV (b.last i)) ∧ Below w.heap.size w w' := by
  obtain ⟨last, hlast⟩ : ∃ o, o = b.last i := ⟨_, rfl⟩
  rw [← hlast]
  have hbw : ∀ k, b.word k < 18446744073709551616 := fun k => by have := hb.word k; simpa using this
  have hqi : (n : Int) / 64 = 3 := by omega
  have hmn : min (n : Int) 255 = n := by omega
  have hsh := shift_ok b.w3 (n % 64) (Nat.mod_lt _ (by omega))
  have hinit : Hid (last = (b.upl (64 * 3) ++ (onesOf 64 (b.w3 % 2 ^ (n % 64 + 1))).map (fun t : Nat => 64 * ((3 : Nat) : Int) + (t : Int))).getLast?) := Lib.hid (by rw [hlast, hi, last_upl b n hn, upl_part, hq]; rfl)
  have hwlt : b.w3 % 2 ^ (n % 64 + 1) < 18446744073709551616 := Nat.lt_of_le_of_lt (Nat.mod_le _ _) (by have := hb.h3; simpa using this)
  clear hlast
  unfold Bits.val
  go_enter Tryd.func25, Tryd.ntmps25
  go_wp2_with fail
  go_loop [6, 7] (fun v p => ∃ k x : Nat, k ≤ 3 + 1 ∧ p = .int .i64 ((k : Int) - 1) ∧ v = .int .u64 x ∧ x < 18446744073709551616 ∧ Hid (last = match k with | 0 => none | j + 1 => (b.upl (64 * j) ++ (onesOf 64 x).map (fun t : Nat => 64 * (j : Int) + (t : Int))).getLast?)) (fun _ p => (intOf p + 1).toNat)
  case atStart => exact ⟨3 + 1, _, by omega, by go_num, congrArg (Value.int .u64) hsh, hwlt, hinit⟩
  case round =>
    obtain ⟨k, x, hk, rfl, rfl, hx, hL⟩ := hrel
    have hkc : k = 0 ∨ k = 1 ∨ k = 2 ∨ k = 3 ∨ k = 4 := by omega
    clear hinit hwlt
    rcases hkc with rfl | rfl | rfl | rfl | rfl
    · have hL2 : Hid (last = none) := hL
      clear hL
      go_wp2_with fail
      refine bodyPost_ret (v := pairV none) (by simp [results, Tryd.results25, go_sem, pairV]) rfl ⟨by rw [hL2.out], ?_⟩
      exact (Below.refl _ _).alloc (Nat.le_refl _) _
    · have hxc : x = 0 ∨ x ≠ 0 := by omega
      rcases hxc with rfl | hx0
      · have hL2 : Hid (last = (b.upl (64 * 0)).getLast?) := Lib.hid (by rw [hL.out, ones_zero]; simp)
        clear hL
        go_wp2_with fail
        (go_round; (case rel => exact ⟨0, 0, by omega, by go_num, by rfl, by omega, hL2⟩); (case measure => simp [intOf]))
      · obtain ⟨t, ht, ht1, ht2⟩ := top_form x hx0 (by simpa using hx)
        obtain ⟨l, hl⟩ := ones_top x t ht ht1 ht2
        have hL2 : Hid (last = some (64 * (0 : Int) + (t : Int))) := Lib.hid (by rw [hL.out, hl]; simp)
        have hle := fun w => len_any x t w ht ht1 ht2
        have hx3 : ((x : Int) != 0) = true := by simp; omega
        clear hL hl ht1 ht2
        go_wp2_with (go_at_call 33; refine (hle _).mono ?_; rintro e w' ⟨rfl, rfl⟩)
        refine bodyPost_ret (v := pairV (some (64 * (0 : Int) + (t : Int)))) (by simp [results, Tryd.results25, go_sem, pairV] <;> omega) rfl ⟨by rw [hL2.out], ?_⟩
        exact (Below.refl _ _).alloc (Nat.le_refl _) _
    · have hxc : x = 0 ∨ x ≠ 0 := by omega
      rcases hxc with rfl | hx0
      · have hL2 : Hid (last = (b.upl (64 * 1)).getLast?) := Lib.hid (by rw [hL.out, ones_zero]; simp)
        clear hL
        go_wp2_with fail
        (go_round; (case rel => exact ⟨1, b.word 0, by omega, by go_num, by rfl, hbw 0, Lib.hid (by rw [hL2.out]; exact congrArg List.getLast? (upl_word b 0))⟩); (case measure => simp [intOf]))
      · obtain ⟨t, ht, ht1, ht2⟩ := top_form x hx0 (by simpa using hx)
        obtain ⟨l, hl⟩ := ones_top x t ht ht1 ht2
        have hL2 : Hid (last = some (64 * (1 : Int) + (t : Int))) := Lib.hid (by rw [hL.out, hl]; simp)
        have hle := fun w => len_any x t w ht ht1 ht2
        have hx3 : ((x : Int) != 0) = true := by simp; omega
        clear hL hl ht1 ht2
        go_wp2_with (go_at_call 33; refine (hle _).mono ?_; rintro e w' ⟨rfl, rfl⟩)
        refine bodyPost_ret (v := pairV (some (64 * (1 : Int) + (t : Int)))) (by simp [results, Tryd.results25, go_sem, pairV] <;> omega) rfl ⟨by rw [hL2.out], ?_⟩
        exact (Below.refl _ _).alloc (Nat.le_refl _) _
    · have hxc : x = 0 ∨ x ≠ 0 := by omega
      rcases hxc with rfl | hx0
      · have hL2 : Hid (last = (b.upl (64 * 2)).getLast?) := Lib.hid (by rw [hL.out, ones_zero]; simp)
        clear hL
        go_wp2_with fail
        (go_round; (case rel => exact ⟨2, b.word 1, by omega, by go_num, by rfl, hbw 1, Lib.hid (by rw [hL2.out]; exact congrArg List.getLast? (upl_word b 1))⟩); (case measure => simp [intOf]))
      · obtain ⟨t, ht, ht1, ht2⟩ := top_form x hx0 (by simpa using hx)
        obtain ⟨l, hl⟩ := ones_top x t ht ht1 ht2
        have hL2 : Hid (last = some (64 * (2 : Int) + (t : Int))) := Lib.hid (by rw [hL.out, hl]; simp)
        have hle := fun w => len_any x t w ht ht1 ht2
        have hx3 : ((x : Int) != 0) = true := by simp; omega
        clear hL hl ht1 ht2
        go_wp2_with (go_at_call 33; refine (hle _).mono ?_; rintro e w' ⟨rfl, rfl⟩)
        refine bodyPost_ret (v := pairV (some (64 * (2 : Int) + (t : Int)))) (by simp [results, Tryd.results25, go_sem, pairV] <;> omega) rfl ⟨by rw [hL2.out], ?_⟩
        exact (Below.refl _ _).alloc (Nat.le_refl _) _
    · have hxc : x = 0 ∨ x ≠ 0 := by omega
      rcases hxc with rfl | hx0
      · have hL2 : Hid (last = (b.upl (64 * 3)).getLast?) := Lib.hid (by rw [hL.out, ones_zero]; simp)
        clear hL
        go_wp2_with fail
        (go_round; (case rel => exact ⟨3, b.word 2, by omega, by go_num, by rfl, hbw 2, Lib.hid (by rw [hL2.out]; exact congrArg List.getLast? (upl_word b 2))⟩); (case measure => simp [intOf]))
      · obtain ⟨t, ht, ht1, ht2⟩ := top_form x hx0 (by simpa using hx)
        obtain ⟨l, hl⟩ := ones_top x t ht ht1 ht2
        have hL2 : Hid (last = some (64 * (3 : Int) + (t : Int))) := Lib.hid (by rw [hL.out, hl]; simp)
        have hle := fun w => len_any x t w ht ht1 ht2
        have hx3 : ((x : Int) != 0) = true := by simp; omega
        clear hL hl ht1 ht2
        go_wp2_with (go_at_call 33; refine (hle _).mono ?_; rintro e w' ⟨rfl, rfl⟩)
        refine bodyPost_ret (v := pairV (some (64 * (3 : Int) + (t : Int)))) (by simp [results, Tryd.results25, go_sem, pairV] <;> omega) rfl ⟨by rw [hL2.out], ?_⟩
        exact (Below.refl _ _).alloc (Nat.le_refl _) _
theorem last_cap (b : Bits) (i : Int) (h : 255 ≤ i) : b.last i = b.last 255 := by
  unfold Bits.last
  have : ∀ x ∈ b.list.reverse, decide (x ≤ i) = decide (x ≤ 255) := by
    intro x hx
    have hx := List.mem_reverse.1 hx
    unfold Bits.list Bits.upl at hx
    obtain ⟨n, hn, rfl⟩ := List.mem_map.1 hx
    have := List.mem_range.1 (List.mem_filter.1 hn).1
    simp
    omega
  revert this
  generalize b.list.reverse = l
  intro this
  induction l with
  | nil => rfl
  | cons x l ih =>
    rw [List.find?_cons, List.find?_cons, this x (by simp), ih (fun y hy => this y (by simp [hy]))]
theorem last_low (b : Bits) (i : Int) (h : i < 0) : b.last i = none := by
  unfold Bits.last
  rw [List.find?_eq_none]
  intro x hx
  have hx := List.mem_reverse.1 hx
  unfold Bits.list Bits.upl at hx
  obtain ⟨n, hn, rfl⟩ := List.mem_map.1 hx
  simp
  omega
set_option maxRecDepth 100000 in
theorem last_hi (i : Int) (b : Bits) (hb : b.Ok) (w : World) (hi : 255 < i) :
    Calls Tryd.prog 25 #[b.val, .int .i64 i] w fun e w' => e = .returned (pairV (b.last i)) ∧ Below w.heap.size w w' := by
  obtain ⟨last, hlast⟩ : ∃ o, o = b.last i := ⟨_, rfl⟩
  rw [← hlast]
  have hbw : ∀ k, b.word k < 18446744073709551616 := fun k => by have := hb.word k; simpa using this
  have hmn : min i 255 = 255 := by omega
  have hne : ¬ i < 0 := by omega
  have hw3 : b.w3 < 18446744073709551616 := by have := hb.h3; simpa using this
  have hsh : IntKind.u64.wrap (b.w3 : Int) = (b.w3 : Int) := IntWalk.u64_in _ (by omega)
  have hinit : Hid (last = (b.upl (64 * 3) ++ (onesOf 64 b.w3).map (fun t : Nat => 64 * ((3 : Nat) : Int) + (t : Int))).getLast?) := Lib.hid (by
    rw [hlast, last_cap b i (by omega)]
    have := last_upl b 255 (by omega)
    rw [upl_part] at this
    rw [Nat.mod_eq_of_lt (show b.word (255 / 64) < 2 ^ (255 % 64 + 1) from hb.h3)] at this
    exact this)
  have hwlt : b.w3 < 18446744073709551616 := hw3
  clear hlast
  unfold Bits.val
  go_enter Tryd.func25, Tryd.ntmps25
  go_wp2_with fail
  go_loop [6, 7] (fun v p => ∃ k x : Nat, k ≤ 3 + 1 ∧ p = .int .i64 ((k : Int) - 1) ∧ v = .int .u64 x ∧ x < 18446744073709551616 ∧ Hid (last = match k with | 0 => none | j + 1 => (b.upl (64 * j) ++ (onesOf 64 x).map (fun t : Nat => 64 * (j : Int) + (t : Int))).getLast?)) (fun _ p => (intOf p + 1).toNat)
  case atStart => exact ⟨3 + 1, _, by omega, by go_num, by go_num, hwlt, hinit⟩
  case round =>
    obtain ⟨k, x, hk, rfl, rfl, hx, hL⟩ := hrel
    have hkc : k = 0 ∨ k = 1 ∨ k = 2 ∨ k = 3 ∨ k = 4 := by omega
    clear hinit hwlt
    rcases hkc with rfl | rfl | rfl | rfl | rfl
    · have hL2 : Hid (last = none) := hL
      clear hL
      go_wp2_with fail
      refine bodyPost_ret (v := pairV none) (by simp [results, Tryd.results25, go_sem, pairV]) rfl ⟨by rw [hL2.out], ?_⟩
      exact (Below.refl _ _).alloc (Nat.le_refl _) _
    · have hxc : x = 0 ∨ x ≠ 0 := by omega
      rcases hxc with rfl | hx0
      · have hL2 : Hid (last = (b.upl (64 * 0)).getLast?) := Lib.hid (by rw [hL.out, ones_zero]; simp)
        clear hL
        go_wp2_with fail
        (go_round; (case rel => exact ⟨0, 0, by omega, by go_num, by rfl, by omega, hL2⟩); (case measure => simp [intOf]))
      · obtain ⟨t, ht, ht1, ht2⟩ := top_form x hx0 (by simpa using hx)
        obtain ⟨l, hl⟩ := ones_top x t ht ht1 ht2
        have hL2 : Hid (last = some (64 * (0 : Int) + (t : Int))) := Lib.hid (by rw [hL.out, hl]; simp)
        have hle := fun w => len_any x t w ht ht1 ht2
        have hx3 : ((x : Int) != 0) = true := by simp; omega
        clear hL hl ht1 ht2
        go_wp2_with (go_at_call 33; refine (hle _).mono ?_; rintro e w' ⟨rfl, rfl⟩)
        refine bodyPost_ret (v := pairV (some (64 * (0 : Int) + (t : Int)))) (by simp [results, Tryd.results25, go_sem, pairV] <;> omega) rfl ⟨by rw [hL2.out], ?_⟩
        exact (Below.refl _ _).alloc (Nat.le_refl _) _
    · have hxc : x = 0 ∨ x ≠ 0 := by omega
      rcases hxc with rfl | hx0
      · have hL2 : Hid (last = (b.upl (64 * 1)).getLast?) := Lib.hid (by rw [hL.out, ones_zero]; simp)
        clear hL
        go_wp2_with fail
        (go_round; (case rel => exact ⟨1, b.word 0, by omega, by go_num, by rfl, hbw 0, Lib.hid (by rw [hL2.out]; exact congrArg List.getLast? (upl_word b 0))⟩); (case measure => simp [intOf]))
      · obtain ⟨t, ht, ht1, ht2⟩ := top_form x hx0 (by simpa using hx)
        obtain ⟨l, hl⟩ := ones_top x t ht ht1 ht2
        have hL2 : Hid (last = some (64 * (1 : Int) + (t : Int))) := Lib.hid (by rw [hL.out, hl]; simp)
        have hle := fun w => len_any x t w ht ht1 ht2
        have hx3 : ((x : Int) != 0) = true := by simp; omega
        clear hL hl ht1 ht2
        go_wp2_with (go_at_call 33; refine (hle _).mono ?_; rintro e w' ⟨rfl, rfl⟩)
        refine bodyPost_ret (v := pairV (some (64 * (1 : Int) + (t : Int)))) (by simp [results, Tryd.results25, go_sem, pairV] <;> omega) rfl ⟨by rw [hL2.out], ?_⟩
        exact (Below.refl _ _).alloc (Nat.le_refl _) _
    · have hxc : x = 0 ∨ x ≠ 0 := by omega
      rcases hxc with rfl | hx0
      · have hL2 : Hid (last = (b.upl (64 * 2)).getLast?) := Lib.hid (by rw [hL.out, ones_zero]; simp)
        clear hL
        go_wp2_with fail
        (go_round; (case rel => exact ⟨2, b.word 1, by omega, by go_num, by rfl, hbw 1, Lib.hid (by rw [hL2.out]; exact congrArg List.getLast? (upl_word b 1))⟩); (case measure => simp [intOf]))
      · obtain ⟨t, ht, ht1, ht2⟩ := top_form x hx0 (by simpa using hx)
        obtain ⟨l, hl⟩ := ones_top x t ht ht1 ht2
        have hL2 : Hid (last = some (64 * (2 : Int) + (t : Int))) := Lib.hid (by rw [hL.out, hl]; simp)
        have hle := fun w => len_any x t w ht ht1 ht2
        have hx3 : ((x : Int) != 0) = true := by simp; omega
        clear hL hl ht1 ht2
        go_wp2_with (go_at_call 33; refine (hle _).mono ?_; rintro e w' ⟨rfl, rfl⟩)
        refine bodyPost_ret (v := pairV (some (64 * (2 : Int) + (t : Int)))) (by simp [results, Tryd.results25, go_sem, pairV] <;> omega) rfl ⟨by rw [hL2.out], ?_⟩
        exact (Below.refl _ _).alloc (Nat.le_refl _) _
    · have hxc : x = 0 ∨ x ≠ 0 := by omega
      rcases hxc with rfl | hx0
      · have hL2 : Hid (last = (b.upl (64 * 3)).getLast?) := Lib.hid (by rw [hL.out, ones_zero]; simp)
        clear hL
        go_wp2_with fail
        (go_round; (case rel => exact ⟨3, b.word 2, by omega, by go_num, by rfl, hbw 2, Lib.hid (by rw [hL2.out]; exact congrArg List.getLast? (upl_word b 2))⟩); (case measure => simp [intOf]))
      · obtain ⟨t, ht, ht1, ht2⟩ := top_form x hx0 (by simpa using hx)
        obtain ⟨l, hl⟩ := ones_top x t ht ht1 ht2
        have hL2 : Hid (last = some (64 * (3 : Int) + (t : Int))) := Lib.hid (by rw [hL.out, hl]; simp)
        have hle := fun w => len_any x t w ht ht1 ht2
        have hx3 : ((x : Int) != 0) = true := by simp; omega
        clear hL hl ht1 ht2
        go_wp2_with (go_at_call 33; refine (hle _).mono ?_; rintro e w' ⟨rfl, rfl⟩)
        refine bodyPost_ret (v := pairV (some (64 * (3 : Int) + (t : Int)))) (by simp [results, Tryd.results25, go_sem, pairV] <;> omega) rfl ⟨by rw [hL2.out], ?_⟩
        exact (Below.refl _ _).alloc (Nat.le_refl _) _
theorem last_neg (i : Int) (b : Bits) (w : World) (hi : i < 0) :
    Calls Tryd.prog 25 #[b.val, .int .i64 i] w fun e w' => e = .returned (pairV none) ∧ Below w.heap.size w w' := by
  unfold Bits.val
  go_enter Tryd.func25, Tryd.ntmps25
  go_wp2_with fail
  refine bodyPost_ret (v := pairV none) (by simp [results, Tryd.results25, go_sem, pairV]) rfl ⟨rfl, ?_⟩
  exact (Below.refl _ _).alloc (Nat.le_refl _) _
theorem last_any (b : Bits) (i : Int) (w : World) (hb : b.Ok) : Calls Tryd.prog 25 #[b.val, .int .i64 i] w fun e w' => e = .returned (pairV (b.last i)) ∧ Below w.heap.size w w' := by
  by_cases h1 : i < 0
  · rw [last_low b i h1]
    exact last_neg i b w h1
  by_cases h2 : 255 < i
  · exact last_hi i b hb w h2
  obtain ⟨n, rfl⟩ := Int.eq_ofNat_of_zero_le (show 0 ≤ i by omega)
  have hq : n / 64 = 0 ∨ n / 64 = 1 ∨ n / 64 = 2 ∨ n / 64 = 3 := by omega
  rcases hq with hq | hq | hq | hq
  · exact last_lo0 n _ b hb w rfl (by omega) hq
  · exact last_lo1 n _ b hb w rfl (by omega) hq
  · exact last_lo2 n _ b hb w rfl (by omega) hq
  · exact last_lo3 n _ b hb w rfl (by omega) hq
end Go.Proofs.YtifoeddeofhclaaDoor
