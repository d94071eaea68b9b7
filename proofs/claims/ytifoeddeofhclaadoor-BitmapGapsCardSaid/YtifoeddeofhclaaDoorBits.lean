/- Layer 2 (bitmap): 256 bits as four words; the functions that touch one bit, walked. -/
import Derived.Test.YtifoeddeofhclaaDoorLib
namespace Go.Proofs.YtifoeddeofhclaaDoor
open Go.RowKit
structure Bits where
  w0 : Nat
  w1 : Nat
  w2 : Nat
  w3 : Nat
def Bits.cells (b : Bits) : Array Value := #[.int .u64 b.w0, .int .u64 b.w1, .int .u64 b.w2, .int .u64 b.w3]
def Bits.word (b : Bits) (k : Nat) : Nat := if k = 0 then b.w0 else if k = 1 then b.w1 else if k = 2 then b.w2 else b.w3
def Bits.setw (b : Bits) (k v : Nat) : Bits := if k = 0 then { b with w0 := v } else if k = 1 then { b with w1 := v } else if k = 2 then { b with w2 := v } else { b with w3 := v }
structure Bits.Ok (b : Bits) : Prop where
  h0 : b.w0 < 2 ^ 64
  h1 : b.w1 < 2 ^ 64
  h2 : b.w2 < 2 ^ 64
  h3 : b.w3 < 2 ^ 64
theorem in_yes (i : Int) (w : World) (h0 : 0 ≤ i) (h1 : i < 256) : Calls Tryd.prog 29 #[.int .i64 i] w fun e w' => e = .returned (.bool true) ∧ w = w' := by
  go_enter Tryd.func29, Tryd.ntmps29
  go_wp2
  go_ret
  exact ⟨rfl, rfl⟩
theorem in_no (i : Int) (w : World) (h : i < 0 ∨ 256 ≤ i) : Calls Tryd.prog 29 #[.int .i64 i] w fun e w' => e = .returned (.bool false) ∧ w = w' := by
  rcases h with h | h
  · go_enter Tryd.func29, Tryd.ntmps29
    go_wp2
    go_ret
    exact ⟨rfl, rfl⟩
  · have : ¬ i < 0 := by omega
    have h' : decide (i < 256) = false := by simp; omega
    go_enter Tryd.func29, Tryd.ntmps29
    go_wp2
    go_ret
    exact ⟨rfl, rfl⟩
theorem bit_one (x k : Nat) (hx : x < 2 ^ 64) : (bits BinOp.and IntKind.u64 ((x : Int) / 2 ^ k) 1 == 1) = x.testBit k := by
  have e : ((x : Int) / 2 ^ k) = ((x / 2 ^ k : Nat) : Int) := by simp
  have h1 : x / 2 ^ k < 18446744073709551616 := Nat.lt_of_le_of_lt (Nat.div_le_self _ _) (by simpa using hx)
  rw [e, show (1 : Int) = ((1 : Nat) : Int) from rfl, u64_and_nat _ _ h1 (by omega), nat_mask1]
  rw [Nat.testBit_eq_decide_div_mod_eq]
  rcases Nat.mod_two_eq_zero_or_one (x / 2 ^ k) with h | h <;> simp [h] <;> omega
theorem has_in (b : Bits) (n : Nat) (w : World) (h : n < 256) (hb : b.Ok) :
    Calls Tryd.prog 14 #[.agg #[.int .u64 b.w0, .int .u64 b.w1, .int .u64 b.w2, .int .u64 b.w3], .int .i64 n] w fun e w' => e = .returned (.bool ((b.word (n / 64)).testBit (n % 64))) ∧ Below w.heap.size w w' := by
  have H : n / 64 = 0 ∨ n / 64 = 1 ∨ n / 64 = 2 ∨ n / 64 = 3 := by omega
  rcases H with hq | hq | hq | hq
  · rw [hq]
    have hqi : (n : Int) / 64 = 0 := by omega
    have hbit := bit_one b.w0 (n % 64) hb.h0
    go_enter Tryd.func14, Tryd.ntmps14
    go_wp2_with (go_at_call 29; refine (in_yes _ _ (by omega) (by omega)).mono ?_; rintro e w' ⟨rfl, rfl⟩)
    go_ret
    exact ⟨rfl, (Below.refl _ _).alloc (Nat.le_refl _) _⟩
  · rw [hq]
    have hqi : (n : Int) / 64 = 1 := by omega
    have hbit := bit_one b.w1 (n % 64) hb.h1
    go_enter Tryd.func14, Tryd.ntmps14
    go_wp2_with (go_at_call 29; refine (in_yes _ _ (by omega) (by omega)).mono ?_; rintro e w' ⟨rfl, rfl⟩)
    go_ret
    exact ⟨rfl, (Below.refl _ _).alloc (Nat.le_refl _) _⟩
  · rw [hq]
    have hqi : (n : Int) / 64 = 2 := by omega
    have hbit := bit_one b.w2 (n % 64) hb.h2
    go_enter Tryd.func14, Tryd.ntmps14
    go_wp2_with (go_at_call 29; refine (in_yes _ _ (by omega) (by omega)).mono ?_; rintro e w' ⟨rfl, rfl⟩)
    go_ret
    exact ⟨rfl, (Below.refl _ _).alloc (Nat.le_refl _) _⟩
  · rw [hq]
    have hqi : (n : Int) / 64 = 3 := by omega
    have hbit := bit_one b.w3 (n % 64) hb.h3
    go_enter Tryd.func14, Tryd.ntmps14
    go_wp2_with (go_at_call 29; refine (in_yes _ _ (by omega) (by omega)).mono ?_; rintro e w' ⟨rfl, rfl⟩)
    go_ret
    exact ⟨rfl, (Below.refl _ _).alloc (Nat.le_refl _) _⟩
theorem or_bit (x k : Nat) (hx : x < 2 ^ 64) (hk : k < 64) : bits BinOp.or IntKind.u64 (x : Int) (IntKind.u64.wrap (2 ^ k)) = ((x ||| 2 ^ k : Nat) : Int) := by
  have h1 : 2 ^ k < 18446744073709551616 := by
    have := Nat.pow_lt_pow_right (a := 2) (by omega) hk
    simpa using this
  have e : IntKind.u64.wrap (2 ^ k) = ((2 ^ k : Nat) : Int) := by
    have e2 : (2 ^ k : Int) = ((2 ^ k : Nat) : Int) := by simp
    rw [IntKind.wrap_u64, e2]
    generalize 2 ^ k = z at *
    omega
  rw [e, u64_or_nat _ _ (by simpa using hx) h1]
theorem andnot_bit (x k : Nat) (hx : x < 2 ^ 64) (hk : k < 64) : bits BinOp.andNot IntKind.u64 (x : Int) (IntKind.u64.wrap (2 ^ k)) = ((x &&& (18446744073709551615 - 2 ^ k) : Nat) : Int) := by
  have h1 : 2 ^ k < 18446744073709551616 := by
    have := Nat.pow_lt_pow_right (a := 2) (by omega) hk
    simpa using this
  have e : IntKind.u64.wrap (2 ^ k) = ((2 ^ k : Nat) : Int) := by
    have e2 : (2 ^ k : Int) = ((2 ^ k : Nat) : Int) := by simp
    rw [IntKind.wrap_u64, e2]
    generalize 2 ^ k = z at *
    omega
  rw [e, u64_andNot_nat _ _ (by simpa using hx) h1]
def Bits.val (b : Bits) : Value := .agg #[.int .u64 b.w0, .int .u64 b.w1, .int .u64 b.w2, .int .u64 b.w3]
theorem put_in (b : Bits) (n : Nat) (w : World) (h : n < 256) (hb : b.Ok) :
    Calls Tryd.prog 12 #[.agg #[.int .u64 b.w0, .int .u64 b.w1, .int .u64 b.w2, .int .u64 b.w3], .int .i64 n] w fun e w' => e = .returned (b.setw (n / 64) (b.word (n / 64) ||| 2 ^ (n % 64))).val ∧ Below w.heap.size w w' := by
  have H : n / 64 = 0 ∨ n / 64 = 1 ∨ n / 64 = 2 ∨ n / 64 = 3 := by omega
  rcases H with hq | hq | hq | hq
  · have hqi : (n : Int) / 64 = 0 := by omega
    have hbit := or_bit b.w0 (n % 64) hb.h0 (by omega)
    have hres : b.setw (n / 64) (b.word (n / 64) ||| 2 ^ (n % 64)) = b.setw 0 (b.word (n / 64) ||| 2 ^ (n % 64)) := by rw [hq]
    rw [hres]
    clear hres
    go_enter Tryd.func12, Tryd.ntmps12
    go_wp2_with (go_at_call 29; refine (in_yes _ _ (by omega) (by omega)).mono ?_; rintro e w' ⟨rfl, rfl⟩)
    refine bodyPost_ret (v := (b.setw 0 (b.word (n / 64) ||| 2 ^ (n % 64))).val) (by simp [results, Tryd.results12, go_sem, Bits.val, Bits.setw, Bits.word, hq]) rfl ⟨rfl, ?_⟩
    exact ((Below.refl _ _).alloc (Nat.le_refl _) _).alloc (by simp) _
  · have hqi : (n : Int) / 64 = 1 := by omega
    have hbit := or_bit b.w1 (n % 64) hb.h1 (by omega)
    have hres : b.setw (n / 64) (b.word (n / 64) ||| 2 ^ (n % 64)) = b.setw 1 (b.word (n / 64) ||| 2 ^ (n % 64)) := by rw [hq]
    rw [hres]
    clear hres
    go_enter Tryd.func12, Tryd.ntmps12
    go_wp2_with (go_at_call 29; refine (in_yes _ _ (by omega) (by omega)).mono ?_; rintro e w' ⟨rfl, rfl⟩)
    refine bodyPost_ret (v := (b.setw 1 (b.word (n / 64) ||| 2 ^ (n % 64))).val) (by simp [results, Tryd.results12, go_sem, Bits.val, Bits.setw, Bits.word, hq]) rfl ⟨rfl, ?_⟩
    exact ((Below.refl _ _).alloc (Nat.le_refl _) _).alloc (by simp) _
  · have hqi : (n : Int) / 64 = 2 := by omega
    have hbit := or_bit b.w2 (n % 64) hb.h2 (by omega)
    have hres : b.setw (n / 64) (b.word (n / 64) ||| 2 ^ (n % 64)) = b.setw 2 (b.word (n / 64) ||| 2 ^ (n % 64)) := by rw [hq]
    rw [hres]
    clear hres
    go_enter Tryd.func12, Tryd.ntmps12
    go_wp2_with (go_at_call 29; refine (in_yes _ _ (by omega) (by omega)).mono ?_; rintro e w' ⟨rfl, rfl⟩)
    refine bodyPost_ret (v := (b.setw 2 (b.word (n / 64) ||| 2 ^ (n % 64))).val) (by simp [results, Tryd.results12, go_sem, Bits.val, Bits.setw, Bits.word, hq]) rfl ⟨rfl, ?_⟩
    exact ((Below.refl _ _).alloc (Nat.le_refl _) _).alloc (by simp) _
  · have hqi : (n : Int) / 64 = 3 := by omega
    have hbit := or_bit b.w3 (n % 64) hb.h3 (by omega)
    have hres : b.setw (n / 64) (b.word (n / 64) ||| 2 ^ (n % 64)) = b.setw 3 (b.word (n / 64) ||| 2 ^ (n % 64)) := by rw [hq]
    rw [hres]
    clear hres
    go_enter Tryd.func12, Tryd.ntmps12
    go_wp2_with (go_at_call 29; refine (in_yes _ _ (by omega) (by omega)).mono ?_; rintro e w' ⟨rfl, rfl⟩)
    refine bodyPost_ret (v := (b.setw 3 (b.word (n / 64) ||| 2 ^ (n % 64))).val) (by simp [results, Tryd.results12, go_sem, Bits.val, Bits.setw, Bits.word, hq]) rfl ⟨rfl, ?_⟩
    exact ((Below.refl _ _).alloc (Nat.le_refl _) _).alloc (by simp) _
theorem drop_in (b : Bits) (n : Nat) (w : World) (h : n < 256) (hb : b.Ok) :
    Calls Tryd.prog 13 #[.agg #[.int .u64 b.w0, .int .u64 b.w1, .int .u64 b.w2, .int .u64 b.w3], .int .i64 n] w fun e w' => e = .returned (b.setw (n / 64) (b.word (n / 64) &&& (18446744073709551615 - 2 ^ (n % 64)))).val ∧ Below w.heap.size w w' := by
  have H : n / 64 = 0 ∨ n / 64 = 1 ∨ n / 64 = 2 ∨ n / 64 = 3 := by omega
  rcases H with hq | hq | hq | hq
  · have hqi : (n : Int) / 64 = 0 := by omega
    have hbit := andnot_bit b.w0 (n % 64) hb.h0 (by omega)
    have hres : b.setw (n / 64) (b.word (n / 64) &&& (18446744073709551615 - 2 ^ (n % 64))) = b.setw 0 (b.word (n / 64) &&& (18446744073709551615 - 2 ^ (n % 64))) := by rw [hq]
    rw [hres]
    clear hres
    go_enter Tryd.func13, Tryd.ntmps13
    go_wp2_with (go_at_call 29; refine (in_yes _ _ (by omega) (by omega)).mono ?_; rintro e w' ⟨rfl, rfl⟩)
    refine bodyPost_ret (v := (b.setw 0 (b.word (n / 64) &&& (18446744073709551615 - 2 ^ (n % 64)))).val) (by simp [results, Tryd.results13, go_sem, Bits.val, Bits.setw, Bits.word, hq]) rfl ⟨rfl, ?_⟩
    exact ((Below.refl _ _).alloc (Nat.le_refl _) _).alloc (by simp) _
  · have hqi : (n : Int) / 64 = 1 := by omega
    have hbit := andnot_bit b.w1 (n % 64) hb.h1 (by omega)
    have hres : b.setw (n / 64) (b.word (n / 64) &&& (18446744073709551615 - 2 ^ (n % 64))) = b.setw 1 (b.word (n / 64) &&& (18446744073709551615 - 2 ^ (n % 64))) := by rw [hq]
    rw [hres]
    clear hres
    go_enter Tryd.func13, Tryd.ntmps13
    go_wp2_with (go_at_call 29; refine (in_yes _ _ (by omega) (by omega)).mono ?_; rintro e w' ⟨rfl, rfl⟩)
    refine bodyPost_ret (v := (b.setw 1 (b.word (n / 64) &&& (18446744073709551615 - 2 ^ (n % 64)))).val) (by simp [results, Tryd.results13, go_sem, Bits.val, Bits.setw, Bits.word, hq]) rfl ⟨rfl, ?_⟩
    exact ((Below.refl _ _).alloc (Nat.le_refl _) _).alloc (by simp) _
  · have hqi : (n : Int) / 64 = 2 := by omega
    have hbit := andnot_bit b.w2 (n % 64) hb.h2 (by omega)
    have hres : b.setw (n / 64) (b.word (n / 64) &&& (18446744073709551615 - 2 ^ (n % 64))) = b.setw 2 (b.word (n / 64) &&& (18446744073709551615 - 2 ^ (n % 64))) := by rw [hq]
    rw [hres]
    clear hres
    go_enter Tryd.func13, Tryd.ntmps13
    go_wp2_with (go_at_call 29; refine (in_yes _ _ (by omega) (by omega)).mono ?_; rintro e w' ⟨rfl, rfl⟩)
    refine bodyPost_ret (v := (b.setw 2 (b.word (n / 64) &&& (18446744073709551615 - 2 ^ (n % 64)))).val) (by simp [results, Tryd.results13, go_sem, Bits.val, Bits.setw, Bits.word, hq]) rfl ⟨rfl, ?_⟩
    exact ((Below.refl _ _).alloc (Nat.le_refl _) _).alloc (by simp) _
  · have hqi : (n : Int) / 64 = 3 := by omega
    have hbit := andnot_bit b.w3 (n % 64) hb.h3 (by omega)
    have hres : b.setw (n / 64) (b.word (n / 64) &&& (18446744073709551615 - 2 ^ (n % 64))) = b.setw 3 (b.word (n / 64) &&& (18446744073709551615 - 2 ^ (n % 64))) := by rw [hq]
    rw [hres]
    clear hres
    go_enter Tryd.func13, Tryd.ntmps13
    go_wp2_with (go_at_call 29; refine (in_yes _ _ (by omega) (by omega)).mono ?_; rintro e w' ⟨rfl, rfl⟩)
    refine bodyPost_ret (v := (b.setw 3 (b.word (n / 64) &&& (18446744073709551615 - 2 ^ (n % 64)))).val) (by simp [results, Tryd.results13, go_sem, Bits.val, Bits.setw, Bits.word, hq]) rfl ⟨rfl, ?_⟩
    exact ((Below.refl _ _).alloc (Nat.le_refl _) _).alloc (by simp) _
theorem put_out (b : Bits) (i : Int) (w : World) (h : i < 0 ∨ 256 ≤ i) :
    Calls Tryd.prog 12 #[.agg #[.int .u64 b.w0, .int .u64 b.w1, .int .u64 b.w2, .int .u64 b.w3], .int .i64 i] w fun e w' => e = .returned b.val ∧ Below w.heap.size w w' := by
  go_enter Tryd.func12, Tryd.ntmps12
  go_wp2_with (go_at_call 29; refine (in_no _ _ (by omega)).mono ?_; rintro e w' ⟨rfl, rfl⟩)
  refine bodyPost_ret (v := b.val) (by simp [results, Tryd.results12, go_sem, Bits.val]) rfl ⟨rfl, ?_⟩
  exact ((Below.refl _ _).alloc (Nat.le_refl _) _).alloc (by simp) _
theorem drop_out (b : Bits) (i : Int) (w : World) (h : i < 0 ∨ 256 ≤ i) :
    Calls Tryd.prog 13 #[.agg #[.int .u64 b.w0, .int .u64 b.w1, .int .u64 b.w2, .int .u64 b.w3], .int .i64 i] w fun e w' => e = .returned b.val ∧ Below w.heap.size w w' := by
  go_enter Tryd.func13, Tryd.ntmps13
  go_wp2_with (go_at_call 29; refine (in_no _ _ (by omega)).mono ?_; rintro e w' ⟨rfl, rfl⟩)
  refine bodyPost_ret (v := b.val) (by simp [results, Tryd.results13, go_sem, Bits.val]) rfl ⟨rfl, ?_⟩
  exact ((Below.refl _ _).alloc (Nat.le_refl _) _).alloc (by simp) _
theorem has_out (b : Bits) (i : Int) (w : World) (h : i < 0 ∨ 256 ≤ i) :
    Calls Tryd.prog 14 #[.agg #[.int .u64 b.w0, .int .u64 b.w1, .int .u64 b.w2, .int .u64 b.w3], .int .i64 i] w fun e w' => e = .returned (.bool false) ∧ Below w.heap.size w w' := by
  go_enter Tryd.func14, Tryd.ntmps14
  go_wp2_with (go_at_call 29; refine (in_no _ _ (by omega)).mono ?_; rintro e w' ⟨rfl, rfl⟩)
  go_ret
  exact ⟨rfl, (Below.refl _ _).alloc (Nat.le_refl _) _⟩
theorem rhas_out (b : Bits) (i : Int) (w : World) (h : i < 0 ∨ 256 ≤ i) :
    Calls Tryd.prog 11 #[.agg #[.int .u64 b.w0, .int .u64 b.w1, .int .u64 b.w2, .int .u64 b.w3], .int .i64 i] w fun e w' => e = .returned (.bool false) ∧ Below w.heap.size w w' := by
  rcases h with h | h
  · go_enter Tryd.func11, Tryd.ntmps11
    go_wp2
    go_ret
    exact ⟨rfl, (Below.refl _ _).alloc (Nat.le_refl _) _⟩
  · have h1 : ¬ i < 0 := by omega
    have h2 : 255 < i := by omega
    go_enter Tryd.func11, Tryd.ntmps11
    go_wp2
    go_ret
    exact ⟨rfl, (Below.refl _ _).alloc (Nat.le_refl _) _⟩
theorem mod_two (x : Nat) : (((x : Nat) : Int) % 2 == 1) = decide (x % 2 = 1) := by
  rcases Nat.mod_two_eq_zero_or_one x with h | h
  · rw [h]; simp; omega
  · rw [h]; simp; omega
theorem rhas_in (b : Bits) (n : Nat) (w : World) (h : n < 256) (hb : b.Ok) :
    Calls Tryd.prog 11 #[.agg #[.int .u64 b.w0, .int .u64 b.w1, .int .u64 b.w2, .int .u64 b.w3], .int .i64 n] w fun e w' => e = .returned (.bool ((b.word (n / 64)).testBit (n % 64))) ∧ Below w.heap.size w w' := by
  have H : n / 64 = 0 ∨ n / 64 = 1 ∨ n / 64 = 2 ∨ n / 64 = 3 := by omega
  rcases H with hq | hq | hq | hq
  · rw [hq]
    have hqi : (n : Int) / 64 = 0 := by omega
    have hlt := hb.h0
    simp only [Nat.reducePow] at hlt
    go_enter Tryd.func11, Tryd.ntmps11
    go_wp2
    go_loop [5, 6] (fun v i => ∃ k x : Nat, k ≤ n % 64 ∧ i = .int .i64 k ∧ v = .int .u64 x ∧ x < 18446744073709551616 ∧ Hid (x = b.w0 / 2 ^ k)) (fun _ i => n % 64 - (intOf i).toNat)
    case atStart => exact ⟨0, b.w0, by omega, rfl, rfl, by omega, by simp [Hid]⟩
    case round =>
      obtain ⟨k, x, hk, rfl, rfl, hx, hX⟩ := hrel
      by_cases hlt2 : k < n % 64
      · go_wp2
        go_round
        case rel => exact ⟨k + 1, x / 2, by omega, by go_num, by go_num, by omega, Lib.hid (by rw [hX.out, Nat.pow_succ, Nat.div_div_eq_div_mul])⟩
        case measure => simp [intOf]; omega
      · obtain rfl : k = n % 64 := by omega
        have hm := mod_two x
        go_wp2
        go_ret
        refine ⟨ret_bool ?_, (Below.refl _ _).alloc (Nat.le_refl _) _⟩
        rw [hX.out, show b.word 0 = b.w0 from rfl, Nat.testBit_eq_decide_div_mod_eq]
  · rw [hq]
    have hqi : (n : Int) / 64 = 1 := by omega
    have hlt := hb.h1
    simp only [Nat.reducePow] at hlt
    go_enter Tryd.func11, Tryd.ntmps11
    go_wp2
    go_loop [5, 6] (fun v i => ∃ k x : Nat, k ≤ n % 64 ∧ i = .int .i64 k ∧ v = .int .u64 x ∧ x < 18446744073709551616 ∧ Hid (x = b.w1 / 2 ^ k)) (fun _ i => n % 64 - (intOf i).toNat)
    case atStart => exact ⟨0, b.w1, by omega, rfl, rfl, by omega, by simp [Hid]⟩
    case round =>
      obtain ⟨k, x, hk, rfl, rfl, hx, hX⟩ := hrel
      by_cases hlt2 : k < n % 64
      · go_wp2
        go_round
        case rel => exact ⟨k + 1, x / 2, by omega, by go_num, by go_num, by omega, Lib.hid (by rw [hX.out, Nat.pow_succ, Nat.div_div_eq_div_mul])⟩
        case measure => simp [intOf]; omega
      · obtain rfl : k = n % 64 := by omega
        have hm := mod_two x
        go_wp2
        go_ret
        refine ⟨ret_bool ?_, (Below.refl _ _).alloc (Nat.le_refl _) _⟩
        rw [hX.out, show b.word 1 = b.w1 from rfl, Nat.testBit_eq_decide_div_mod_eq]
  · rw [hq]
    have hqi : (n : Int) / 64 = 2 := by omega
    have hlt := hb.h2
    simp only [Nat.reducePow] at hlt
    go_enter Tryd.func11, Tryd.ntmps11
    go_wp2
    go_loop [5, 6] (fun v i => ∃ k x : Nat, k ≤ n % 64 ∧ i = .int .i64 k ∧ v = .int .u64 x ∧ x < 18446744073709551616 ∧ Hid (x = b.w2 / 2 ^ k)) (fun _ i => n % 64 - (intOf i).toNat)
    case atStart => exact ⟨0, b.w2, by omega, rfl, rfl, by omega, by simp [Hid]⟩
    case round =>
      obtain ⟨k, x, hk, rfl, rfl, hx, hX⟩ := hrel
      by_cases hlt2 : k < n % 64
      · go_wp2
        go_round
        case rel => exact ⟨k + 1, x / 2, by omega, by go_num, by go_num, by omega, Lib.hid (by rw [hX.out, Nat.pow_succ, Nat.div_div_eq_div_mul])⟩
        case measure => simp [intOf]; omega
      · obtain rfl : k = n % 64 := by omega
        have hm := mod_two x
        go_wp2
        go_ret
        refine ⟨ret_bool ?_, (Below.refl _ _).alloc (Nat.le_refl _) _⟩
        rw [hX.out, show b.word 2 = b.w2 from rfl, Nat.testBit_eq_decide_div_mod_eq]
  · rw [hq]
    have hqi : (n : Int) / 64 = 3 := by omega
    have hlt := hb.h3
    simp only [Nat.reducePow] at hlt
    go_enter Tryd.func11, Tryd.ntmps11
    go_wp2
    go_loop [5, 6] (fun v i => ∃ k x : Nat, k ≤ n % 64 ∧ i = .int .i64 k ∧ v = .int .u64 x ∧ x < 18446744073709551616 ∧ Hid (x = b.w3 / 2 ^ k)) (fun _ i => n % 64 - (intOf i).toNat)
    case atStart => exact ⟨0, b.w3, by omega, rfl, rfl, by omega, by simp [Hid]⟩
    case round =>
      obtain ⟨k, x, hk, rfl, rfl, hx, hX⟩ := hrel
      by_cases hlt2 : k < n % 64
      · go_wp2
        go_round
        case rel => exact ⟨k + 1, x / 2, by omega, by go_num, by go_num, by omega, Lib.hid (by rw [hX.out, Nat.pow_succ, Nat.div_div_eq_div_mul])⟩
        case measure => simp [intOf]; omega
      · obtain rfl : k = n % 64 := by omega
        have hm := mod_two x
        go_wp2
        go_ret
        refine ⟨ret_bool ?_, (Below.refl _ _).alloc (Nat.le_refl _) _⟩
        rw [hX.out, show b.word 3 = b.w3 from rfl, Nat.testBit_eq_decide_div_mod_eq]
end Go.Proofs.YtifoeddeofhclaaDoor
