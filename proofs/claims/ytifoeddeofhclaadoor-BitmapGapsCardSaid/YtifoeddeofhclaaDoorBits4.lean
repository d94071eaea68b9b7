/- Layer 2 (bitmap): the reference's Put, walked. -/
import Derived.Test.YtifoeddeofhclaaDoorBits3
namespace Go.Proofs.YtifoeddeofhclaaDoor
open Go.RowKit
theorem rput_out (b : Bits) (i : Int) (on : Bool) (w : World) (h : i < 0 ∨ 256 ≤ i) :
    Calls Tryd.prog 10 #[b.val, .int .i64 i, .bool on] w fun e w' => e = .returned b.val ∧ Below w.heap.size w w' := by
  unfold Bits.val
  rcases h with h | h
  · go_enter Tryd.func10, Tryd.ntmps10
    go_wp2
    refine bodyPost_ret (v := b.val) (by simp [results, Tryd.results10, go_sem, Bits.val]) rfl ⟨rfl, ?_⟩
    exact ((Below.refl _ _).alloc (Nat.le_refl _) _).alloc (by simp) _
  · have h1 : ¬ i < 0 := by omega
    have h2 : 255 < i := by omega
    go_enter Tryd.func10, Tryd.ntmps10
    go_wp2
    refine bodyPost_ret (v := b.val) (by simp [results, Tryd.results10, go_sem, Bits.val]) rfl ⟨rfl, ?_⟩
    exact ((Below.refl _ _).alloc (Nat.le_refl _) _).alloc (by simp) _
/-- The answer's block, filled. -/
theorem fill4 {w wr : World} {g B : Nat} (z v : Bits) (hrz : Blk wr g 24 z.cells) (hg : Below B w wr) (hB : B ≤ g) :
    ∃ wz, wz = ((((wr.setCell ⟨g, 0, none⟩ (.int .u64 v.w0)).setCell ⟨g, 1, none⟩ (.int .u64 v.w1)).setCell ⟨g, 2, none⟩ (.int .u64 v.w2)).setCell ⟨g, 3, none⟩ (.int .u64 v.w3)) ∧ Blk wz g 24 v.cells ∧ Below B w wz :=
  ⟨_, rfl, (((hrz.put 0 (.int .u64 v.w0)).put 1 (.int .u64 v.w1)).put 2 (.int .u64 v.w2)).put 3 (.int .u64 v.w3), (((hg.setCell hB _).setCell hB _).setCell hB _).setCell hB _⟩
theorem rput_same (b : Bits) (n : Nat) (on : Bool) (w : World) (h : n < 256) (hb : b.Ok) (hbit : (b.word (n / 64)).testBit (n % 64) = on) :
    Calls Tryd.prog 10 #[b.val, .int .i64 n, .bool on] w fun e w' => e = .returned b.val ∧ Below w.heap.size w w' := by
  unfold Bits.val
  go_enter Tryd.func10, Tryd.ntmps10
  go_wp2_with fail
  have hA0 : Blk (w.alloc (.cells b.cells 24)) w.heap.size 24 b.cells := Blk.new _ _ _
  have hZ0 : Blk ((w.alloc (.cells b.cells 24)).alloc (.cells Bits.zero.cells 24)) (w.heap.size + 1) 24 Bits.zero.cells := by simpa using Blk.new (w.alloc (.cells b.cells 24)) 24 Bits.zero.cells
  refine (rhas_in b n _ h hb).mono ?_
  rintro e w1 ⟨rfl, hw1⟩
  rw [hbit]
  have hA : Blk w1 w.heap.size 24 b.cells := (hA0.alloc _).below hw1 (by simp; omega)
  have hZ : Blk w1 (w.heap.size + 1) 24 Bits.zero.cells := hZ0.below hw1 (by simp)
  have hW : Below w.heap.size w w1 := (((Below.refl _ _).alloc (Nat.le_refl _) _).alloc (by simp) _).trans (hw1.mono (by simp; omega))
  clear hA0 hZ0 hw1
  have hc := hA.cell
  have hz := hA.frozen
  have hcz := hZ.cell
  have hzz := hZ.frozen
  have hltz := hZ.lt
  simp only [Bits.cells, Bits.zero] at hc hcz
  obtain ⟨wz, hwz, hQ, hG⟩ := fill4 Bits.zero b hZ hW (by omega)
  cases on
  · go_wp2_with fail
    rw [← hwz]
    have hQc := hQ.cell
    simp only [Bits.cells] at hQc
    exact bodyPost_ret (v := b.val) (by simp [results, Tryd.results10, go_sem, Bits.val, hQc]) rfl ⟨rfl, hG⟩
  · go_wp2_with fail
    rw [← hwz]
    have hQc := hQ.cell
    simp only [Bits.cells] at hQc
    exact bodyPost_ret (v := b.val) (by simp [results, Tryd.results10, go_sem, Bits.val, hQc]) rfl ⟨rfl, hG⟩
theorem or_add (x k : Nat) (h : x.testBit k = false) : x ||| 2 ^ k = x + 2 ^ k := by
  have hp := Nat.two_pow_pos k
  have e0 : x / 2 ^ k % 2 = 0 := by rw [Nat.testBit_eq_decide_div_mod_eq] at h; simp at h; omega
  have e : x = 2 ^ k * (2 * (x / 2 ^ k / 2)) + x % 2 ^ k := by
    have h1 := Nat.div_add_mod x (2 ^ k)
    have h2 : 2 * (x / 2 ^ k / 2) = x / 2 ^ k := by omega
    rw [h2]; exact h1.symm
  have hr := Nat.mod_lt x hp
  generalize x / 2 ^ k / 2 = q at *
  generalize x % 2 ^ k = r at *
  subst e
  apply Nat.eq_of_testBit_eq
  intro i
  have e3 : 2 ^ k * (2 * q) + r + 2 ^ k = 2 ^ k * (2 * q + 1) + r := by rw [Nat.mul_add, Nat.mul_one]; omega
  have e4 : (2 : Nat) ^ k = 2 ^ k * 1 + 0 := by omega
  rw [Nat.testBit_or, e3, testBit_low _ k i r hr, testBit_low _ k i r hr]
  conv => lhs; rw [e4]
  rw [testBit_low 1 k i 0 hp]
  by_cases hi : i < k
  · simp [hi]
  · simp only [hi, if_false]
    cases i - k with
    | zero => simp
    | succ j => simp only [Nat.testBit_succ]; rw [show (2 * q + 1) / 2 = q by omega, show 2 * q / 2 = q by omega]; try simp
theorem add_ok (x k : Nat) (hk : k < 64) (hx : x < 2 ^ 64) (h : x.testBit k = false) : IntKind.u64.wrap ((x : Int) + ((2 ^ k : Nat) : Int)) = ((x ||| 2 ^ k : Nat) : Int) ∧ x ||| 2 ^ k < 2 ^ 64 := by
  have hp : 2 ^ k < 2 ^ 64 := Nat.pow_lt_pow_right (by omega) hk
  have h1 : x ||| 2 ^ k < 2 ^ 64 := Nat.or_lt_two_pow hx hp
  refine ⟨?_, h1⟩
  rw [or_add x k h] at h1 ⊢
  simp only [Nat.reducePow] at h1
  generalize 2 ^ k = z at *
  rw [IntWalk.u64_in _ (by omega)]
  omega
theorem sub_ok (x k : Nat) (hk : k < 64) (hx : x < 2 ^ 64) (h : x.testBit k = true) : IntKind.u64.wrap ((x : Int) - ((2 ^ k : Nat) : Int)) = ((x &&& (18446744073709551615 - 2 ^ k) : Nat) : Int) ∧ x &&& (18446744073709551615 - 2 ^ k) < 2 ^ 64 := by
  have h1 : x &&& (18446744073709551615 - 2 ^ k) < 2 ^ 64 := Nat.lt_of_le_of_lt Nat.and_le_left hx
  have hge : 2 ^ k ≤ x := Nat.ge_two_pow_of_testBit h
  have hp : 2 ^ k < 2 ^ 64 := Nat.pow_lt_pow_right (by omega) hk
  have hb : (x - 2 ^ k).testBit k = false := by
    have h2 := Nat.testBit_eq_decide_div_mod_eq (x := x) (i := k)
    rw [h] at h2
    have h3 : x / 2 ^ k % 2 = 1 := of_decide_eq_true h2.symm
    have h4 : (x - 2 ^ k) / 2 ^ k = x / 2 ^ k - 1 := by
      have := Nat.sub_mul_div x (2 ^ k) 1
      simpa using this
    rw [Nat.testBit_eq_decide_div_mod_eq, h4]
    simp only [decide_eq_false_iff_not]
    omega
  have ho := or_add (x - 2 ^ k) k hb
  rw [Nat.sub_add_cancel hge] at ho
  have e : x &&& (18446744073709551615 - 2 ^ k) = x - 2 ^ k := by
    apply Nat.eq_of_testBit_eq
    intro i
    have e2 : 18446744073709551615 - 2 ^ k = 2 ^ 64 - (2 ^ k + 1) := by simp
    have hx' : x.testBit i = ((x - 2 ^ k).testBit i || decide (k = i)) := by rw [← Nat.testBit_two_pow, ← Nat.testBit_or, ho]
    rw [Nat.testBit_and, e2, Nat.testBit_two_pow_sub_succ hp, Nat.testBit_two_pow, hx']
    by_cases hi : k = i
    · subst hi; simp [hb]
    · have hlt : 64 ≤ i → (x - 2 ^ k).testBit i = false := fun h64 => Nat.testBit_lt_two_pow (Nat.lt_of_lt_of_le (Nat.lt_of_le_of_lt (Nat.sub_le _ _) hx) (Nat.pow_le_pow_right (by omega) h64))
      by_cases h64 : 64 ≤ i
      · simp [hi, hlt h64]
      · simp [hi]; intro _; omega
  refine ⟨?_, h1⟩
  rw [e]
  simp only [Nat.reducePow] at hx
  generalize 2 ^ k = z at *
  rw [IntWalk.u64_in _ (by omega)]
  omega
theorem rput_add (b : Bits) (n : Nat) (w : World) (h : n < 256) (hb : b.Ok) (hbit : (b.word (n / 64)).testBit (n % 64) = false) :
    Calls Tryd.prog 10 #[b.val, .int .i64 n, .bool true] w fun e w' => e = .returned (b.setw (n / 64) (b.word (n / 64) ||| 2 ^ (n % 64))).val ∧ Below w.heap.size w w' := by
  have H : n / 64 = 0 ∨ n / 64 = 1 ∨ n / 64 = 2 ∨ n / 64 = 3 := by omega
  rcases H with hq | hq | hq | hq
  · have hqi : (n : Int) / 64 = 0 := by omega
    have hbk := hb.h0
    have hbit' : b.w0.testBit (n % 64) = false := by rw [hq] at hbit; exact hbit
    obtain ⟨hv, hv2⟩ := add_ok b.w0 (n % 64) (by omega) hbk hbit'
    have hres : b.setw (n / 64) (b.word (n / 64) ||| 2 ^ (n % 64)) = b.setw 0 (b.word (n / 64) ||| 2 ^ (n % 64)) := by rw [hq]
    rw [hres]
    clear hres hbit'
    generalize hgw : (b.word (n / 64) ||| 2 ^ (n % 64)) = y at *
    have hgw' : b.word 0 = b.w0 := rfl
    rw [hq, hgw'] at hgw
    rw [hgw] at hv
    clear hgw hgw'
    unfold Bits.val
    go_enter Tryd.func10, Tryd.ntmps10
    go_wp2_with fail
    have hA0 : Blk (w.alloc (.cells b.cells 24)) w.heap.size 24 b.cells := Blk.new _ _ _
    have hZ0 : Blk ((w.alloc (.cells b.cells 24)).alloc (.cells Bits.zero.cells 24)) (w.heap.size + 1) 24 Bits.zero.cells := by simpa using Blk.new (w.alloc (.cells b.cells 24)) 24 Bits.zero.cells
    refine (rhas_in b n _ h hb).mono ?_
    rintro e w1 ⟨rfl, hw1⟩
    rw [hbit]
    have hA : Blk w1 w.heap.size 24 b.cells := (hA0.alloc _).below hw1 (by simp; omega)
    have hZ : Blk w1 (w.heap.size + 1) 24 Bits.zero.cells := hZ0.below hw1 (by simp)
    have hW : Below w.heap.size w w1 := (((Below.refl _ _).alloc (Nat.le_refl _) _).alloc (by simp) _).trans (hw1.mono (by simp; omega))
    clear hA0 hZ0 hw1
    have hc := hA.cell
    have hz := hA.frozen
    have hcz := hZ.cell
    have hzz := hZ.frozen
    have hltz := hZ.lt
    simp only [Bits.cells, Bits.zero] at hc hcz
    rw [hq] at hbit
    go_wp2_with fail
    go_loop [8, 9] (fun v i => ∃ k z : Nat, k ≤ n % 64 ∧ i = .int .i64 k ∧ v = .int .u64 z ∧ Hid (z = 2 ^ k)) (fun _ i => n % 64 - (intOf i).toNat)
    case atStart => exact ⟨0, 1, by omega, rfl, rfl, by simp [Hid]⟩
    case round =>
      obtain ⟨k, z, hk, rfl, rfl, hX⟩ := hrel
      by_cases hlt2 : k < n % 64
      · have hz2 : IntKind.u64.wrap (2 * (z : Int)) = ((2 * z : Nat) : Int) := by
          have := Nat.pow_lt_pow_right (a := 2) (by omega) (show k + 1 < 64 by omega)
          rw [Nat.pow_succ, ← hX.out] at this
          rw [IntWalk.u64_in _ (by omega)]; simp
        go_wp2_with fail
        go_round
        case rel => exact ⟨k + 1, 2 * z, by omega, by go_num, by go_num, Lib.hid (by rw [hX.out, Nat.pow_succ]; omega)⟩
        case measure => simp [intOf]; omega
      · obtain rfl : k = n % 64 := by omega
        rw [← hX.out] at hv
        obtain ⟨wz, hwz, hQ, hG⟩ := fill4 Bits.zero (b.setw 0 y) (hZ.far (p := ⟨w.heap.size, 0, none⟩) (by simp) (.int .u64 y)) (hW.setCell (p := ⟨w.heap.size, 0, none⟩) (Nat.le_refl _) (.int .u64 y)) (by omega)
        simp only [Bits.setw, Nat.reduceEqDiff, if_true, if_false, Nat.one_ne_zero] at hwz
        go_wp2_with fail
        rw [← hwz]
        have hQc := hQ.cell
        simp only [Bits.cells, Bits.setw, Nat.reduceEqDiff, if_true, if_false, Nat.one_ne_zero] at hQc
        exact bodyPost_ret (v := (b.setw 0 y).val) (by simp [results, Tryd.results10, go_sem, Bits.val, Bits.setw, hQc]) rfl ⟨rfl, hG⟩
  · have hqi : (n : Int) / 64 = 1 := by omega
    have hbk := hb.h1
    have hbit' : b.w1.testBit (n % 64) = false := by rw [hq] at hbit; exact hbit
    obtain ⟨hv, hv2⟩ := add_ok b.w1 (n % 64) (by omega) hbk hbit'
    have hres : b.setw (n / 64) (b.word (n / 64) ||| 2 ^ (n % 64)) = b.setw 1 (b.word (n / 64) ||| 2 ^ (n % 64)) := by rw [hq]
    rw [hres]
    clear hres hbit'
    generalize hgw : (b.word (n / 64) ||| 2 ^ (n % 64)) = y at *
    have hgw' : b.word 1 = b.w1 := rfl
    rw [hq, hgw'] at hgw
    rw [hgw] at hv
    clear hgw hgw'
    unfold Bits.val
    go_enter Tryd.func10, Tryd.ntmps10
    go_wp2_with fail
    have hA0 : Blk (w.alloc (.cells b.cells 24)) w.heap.size 24 b.cells := Blk.new _ _ _
    have hZ0 : Blk ((w.alloc (.cells b.cells 24)).alloc (.cells Bits.zero.cells 24)) (w.heap.size + 1) 24 Bits.zero.cells := by simpa using Blk.new (w.alloc (.cells b.cells 24)) 24 Bits.zero.cells
    refine (rhas_in b n _ h hb).mono ?_
    rintro e w1 ⟨rfl, hw1⟩
    rw [hbit]
    have hA : Blk w1 w.heap.size 24 b.cells := (hA0.alloc _).below hw1 (by simp; omega)
    have hZ : Blk w1 (w.heap.size + 1) 24 Bits.zero.cells := hZ0.below hw1 (by simp)
    have hW : Below w.heap.size w w1 := (((Below.refl _ _).alloc (Nat.le_refl _) _).alloc (by simp) _).trans (hw1.mono (by simp; omega))
    clear hA0 hZ0 hw1
    have hc := hA.cell
    have hz := hA.frozen
    have hcz := hZ.cell
    have hzz := hZ.frozen
    have hltz := hZ.lt
    simp only [Bits.cells, Bits.zero] at hc hcz
    rw [hq] at hbit
    go_wp2_with fail
    go_loop [8, 9] (fun v i => ∃ k z : Nat, k ≤ n % 64 ∧ i = .int .i64 k ∧ v = .int .u64 z ∧ Hid (z = 2 ^ k)) (fun _ i => n % 64 - (intOf i).toNat)
    case atStart => exact ⟨0, 1, by omega, rfl, rfl, by simp [Hid]⟩
    case round =>
      obtain ⟨k, z, hk, rfl, rfl, hX⟩ := hrel
      by_cases hlt2 : k < n % 64
      · have hz2 : IntKind.u64.wrap (2 * (z : Int)) = ((2 * z : Nat) : Int) := by
          have := Nat.pow_lt_pow_right (a := 2) (by omega) (show k + 1 < 64 by omega)
          rw [Nat.pow_succ, ← hX.out] at this
          rw [IntWalk.u64_in _ (by omega)]; simp
        go_wp2_with fail
        go_round
        case rel => exact ⟨k + 1, 2 * z, by omega, by go_num, by go_num, Lib.hid (by rw [hX.out, Nat.pow_succ]; omega)⟩
        case measure => simp [intOf]; omega
      · obtain rfl : k = n % 64 := by omega
        rw [← hX.out] at hv
        obtain ⟨wz, hwz, hQ, hG⟩ := fill4 Bits.zero (b.setw 1 y) (hZ.far (p := ⟨w.heap.size, 1, none⟩) (by simp) (.int .u64 y)) (hW.setCell (p := ⟨w.heap.size, 1, none⟩) (Nat.le_refl _) (.int .u64 y)) (by omega)
        simp only [Bits.setw, Nat.reduceEqDiff, if_true, if_false, Nat.one_ne_zero] at hwz
        go_wp2_with fail
        rw [← hwz]
        have hQc := hQ.cell
        simp only [Bits.cells, Bits.setw, Nat.reduceEqDiff, if_true, if_false, Nat.one_ne_zero] at hQc
        exact bodyPost_ret (v := (b.setw 1 y).val) (by simp [results, Tryd.results10, go_sem, Bits.val, Bits.setw, hQc]) rfl ⟨rfl, hG⟩
  · have hqi : (n : Int) / 64 = 2 := by omega
    have hbk := hb.h2
    have hbit' : b.w2.testBit (n % 64) = false := by rw [hq] at hbit; exact hbit
    obtain ⟨hv, hv2⟩ := add_ok b.w2 (n % 64) (by omega) hbk hbit'
    have hres : b.setw (n / 64) (b.word (n / 64) ||| 2 ^ (n % 64)) = b.setw 2 (b.word (n / 64) ||| 2 ^ (n % 64)) := by rw [hq]
    rw [hres]
    clear hres hbit'
    generalize hgw : (b.word (n / 64) ||| 2 ^ (n % 64)) = y at *
    have hgw' : b.word 2 = b.w2 := rfl
    rw [hq, hgw'] at hgw
    rw [hgw] at hv
    clear hgw hgw'
    unfold Bits.val
    go_enter Tryd.func10, Tryd.ntmps10
    go_wp2_with fail
    have hA0 : Blk (w.alloc (.cells b.cells 24)) w.heap.size 24 b.cells := Blk.new _ _ _
    have hZ0 : Blk ((w.alloc (.cells b.cells 24)).alloc (.cells Bits.zero.cells 24)) (w.heap.size + 1) 24 Bits.zero.cells := by simpa using Blk.new (w.alloc (.cells b.cells 24)) 24 Bits.zero.cells
    refine (rhas_in b n _ h hb).mono ?_
    rintro e w1 ⟨rfl, hw1⟩
    rw [hbit]
    have hA : Blk w1 w.heap.size 24 b.cells := (hA0.alloc _).below hw1 (by simp; omega)
    have hZ : Blk w1 (w.heap.size + 1) 24 Bits.zero.cells := hZ0.below hw1 (by simp)
    have hW : Below w.heap.size w w1 := (((Below.refl _ _).alloc (Nat.le_refl _) _).alloc (by simp) _).trans (hw1.mono (by simp; omega))
    clear hA0 hZ0 hw1
    have hc := hA.cell
    have hz := hA.frozen
    have hcz := hZ.cell
    have hzz := hZ.frozen
    have hltz := hZ.lt
    simp only [Bits.cells, Bits.zero] at hc hcz
    rw [hq] at hbit
    go_wp2_with fail
    go_loop [8, 9] (fun v i => ∃ k z : Nat, k ≤ n % 64 ∧ i = .int .i64 k ∧ v = .int .u64 z ∧ Hid (z = 2 ^ k)) (fun _ i => n % 64 - (intOf i).toNat)
    case atStart => exact ⟨0, 1, by omega, rfl, rfl, by simp [Hid]⟩
    case round =>
      obtain ⟨k, z, hk, rfl, rfl, hX⟩ := hrel
      by_cases hlt2 : k < n % 64
      · have hz2 : IntKind.u64.wrap (2 * (z : Int)) = ((2 * z : Nat) : Int) := by
          have := Nat.pow_lt_pow_right (a := 2) (by omega) (show k + 1 < 64 by omega)
          rw [Nat.pow_succ, ← hX.out] at this
          rw [IntWalk.u64_in _ (by omega)]; simp
        go_wp2_with fail
        go_round
        case rel => exact ⟨k + 1, 2 * z, by omega, by go_num, by go_num, Lib.hid (by rw [hX.out, Nat.pow_succ]; omega)⟩
        case measure => simp [intOf]; omega
      · obtain rfl : k = n % 64 := by omega
        rw [← hX.out] at hv
        obtain ⟨wz, hwz, hQ, hG⟩ := fill4 Bits.zero (b.setw 2 y) (hZ.far (p := ⟨w.heap.size, 2, none⟩) (by simp) (.int .u64 y)) (hW.setCell (p := ⟨w.heap.size, 2, none⟩) (Nat.le_refl _) (.int .u64 y)) (by omega)
        simp only [Bits.setw, Nat.reduceEqDiff, if_true, if_false, Nat.one_ne_zero] at hwz
        go_wp2_with fail
        rw [← hwz]
        have hQc := hQ.cell
        simp only [Bits.cells, Bits.setw, Nat.reduceEqDiff, if_true, if_false, Nat.one_ne_zero] at hQc
        exact bodyPost_ret (v := (b.setw 2 y).val) (by simp [results, Tryd.results10, go_sem, Bits.val, Bits.setw, hQc]) rfl ⟨rfl, hG⟩
  · have hqi : (n : Int) / 64 = 3 := by omega
    have hbk := hb.h3
    have hbit' : b.w3.testBit (n % 64) = false := by rw [hq] at hbit; exact hbit
    obtain ⟨hv, hv2⟩ := add_ok b.w3 (n % 64) (by omega) hbk hbit'
    have hres : b.setw (n / 64) (b.word (n / 64) ||| 2 ^ (n % 64)) = b.setw 3 (b.word (n / 64) ||| 2 ^ (n % 64)) := by rw [hq]
    rw [hres]
    clear hres hbit'
    generalize hgw : (b.word (n / 64) ||| 2 ^ (n % 64)) = y at *
    have hgw' : b.word 3 = b.w3 := rfl
    rw [hq, hgw'] at hgw
    rw [hgw] at hv
    clear hgw hgw'
    unfold Bits.val
    go_enter Tryd.func10, Tryd.ntmps10
    go_wp2_with fail
    have hA0 : Blk (w.alloc (.cells b.cells 24)) w.heap.size 24 b.cells := Blk.new _ _ _
    have hZ0 : Blk ((w.alloc (.cells b.cells 24)).alloc (.cells Bits.zero.cells 24)) (w.heap.size + 1) 24 Bits.zero.cells := by simpa using Blk.new (w.alloc (.cells b.cells 24)) 24 Bits.zero.cells
    refine (rhas_in b n _ h hb).mono ?_
    rintro e w1 ⟨rfl, hw1⟩
    rw [hbit]
    have hA : Blk w1 w.heap.size 24 b.cells := (hA0.alloc _).below hw1 (by simp; omega)
    have hZ : Blk w1 (w.heap.size + 1) 24 Bits.zero.cells := hZ0.below hw1 (by simp)
    have hW : Below w.heap.size w w1 := (((Below.refl _ _).alloc (Nat.le_refl _) _).alloc (by simp) _).trans (hw1.mono (by simp; omega))
    clear hA0 hZ0 hw1
    have hc := hA.cell
    have hz := hA.frozen
    have hcz := hZ.cell
    have hzz := hZ.frozen
    have hltz := hZ.lt
    simp only [Bits.cells, Bits.zero] at hc hcz
    rw [hq] at hbit
    go_wp2_with fail
    go_loop [8, 9] (fun v i => ∃ k z : Nat, k ≤ n % 64 ∧ i = .int .i64 k ∧ v = .int .u64 z ∧ Hid (z = 2 ^ k)) (fun _ i => n % 64 - (intOf i).toNat)
    case atStart => exact ⟨0, 1, by omega, rfl, rfl, by simp [Hid]⟩
    case round =>
      obtain ⟨k, z, hk, rfl, rfl, hX⟩ := hrel
      by_cases hlt2 : k < n % 64
      · have hz2 : IntKind.u64.wrap (2 * (z : Int)) = ((2 * z : Nat) : Int) := by
          have := Nat.pow_lt_pow_right (a := 2) (by omega) (show k + 1 < 64 by omega)
          rw [Nat.pow_succ, ← hX.out] at this
          rw [IntWalk.u64_in _ (by omega)]; simp
        go_wp2_with fail
        go_round
        case rel => exact ⟨k + 1, 2 * z, by omega, by go_num, by go_num, Lib.hid (by rw [hX.out, Nat.pow_succ]; omega)⟩
        case measure => simp [intOf]; omega
      · obtain rfl : k = n % 64 := by omega
        rw [← hX.out] at hv
        obtain ⟨wz, hwz, hQ, hG⟩ := fill4 Bits.zero (b.setw 3 y) (hZ.far (p := ⟨w.heap.size, 3, none⟩) (by simp) (.int .u64 y)) (hW.setCell (p := ⟨w.heap.size, 3, none⟩) (Nat.le_refl _) (.int .u64 y)) (by omega)
        simp only [Bits.setw, Nat.reduceEqDiff, if_true, if_false, Nat.one_ne_zero] at hwz
        go_wp2_with fail
        rw [← hwz]
        have hQc := hQ.cell
        simp only [Bits.cells, Bits.setw, Nat.reduceEqDiff, if_true, if_false, Nat.one_ne_zero] at hQc
        exact bodyPost_ret (v := (b.setw 3 y).val) (by simp [results, Tryd.results10, go_sem, Bits.val, Bits.setw, hQc]) rfl ⟨rfl, hG⟩
theorem rput_sub (b : Bits) (n : Nat) (w : World) (h : n < 256) (hb : b.Ok) (hbit : (b.word (n / 64)).testBit (n % 64) = true) :
    Calls Tryd.prog 10 #[b.val, .int .i64 n, .bool false] w fun e w' => e = .returned (b.setw (n / 64) (b.word (n / 64) &&& (18446744073709551615 - 2 ^ (n % 64)))).val ∧ Below w.heap.size w w' := by
  have H : n / 64 = 0 ∨ n / 64 = 1 ∨ n / 64 = 2 ∨ n / 64 = 3 := by omega
  rcases H with hq | hq | hq | hq
  · have hqi : (n : Int) / 64 = 0 := by omega
    have hbk := hb.h0
    have hbit' : b.w0.testBit (n % 64) = true := by rw [hq] at hbit; exact hbit
    obtain ⟨hv, hv2⟩ := sub_ok b.w0 (n % 64) (by omega) hbk hbit'
    have hres : b.setw (n / 64) (b.word (n / 64) &&& (18446744073709551615 - 2 ^ (n % 64))) = b.setw 0 (b.word (n / 64) &&& (18446744073709551615 - 2 ^ (n % 64))) := by rw [hq]
    rw [hres]
    clear hres hbit'
    generalize hgw : (b.word (n / 64) &&& (18446744073709551615 - 2 ^ (n % 64))) = y at *
    have hgw' : b.word 0 = b.w0 := rfl
    rw [hq, hgw'] at hgw
    rw [hgw] at hv
    clear hgw hgw'
    unfold Bits.val
    go_enter Tryd.func10, Tryd.ntmps10
    go_wp2_with fail
    have hA0 : Blk (w.alloc (.cells b.cells 24)) w.heap.size 24 b.cells := Blk.new _ _ _
    have hZ0 : Blk ((w.alloc (.cells b.cells 24)).alloc (.cells Bits.zero.cells 24)) (w.heap.size + 1) 24 Bits.zero.cells := by simpa using Blk.new (w.alloc (.cells b.cells 24)) 24 Bits.zero.cells
    refine (rhas_in b n _ h hb).mono ?_
    rintro e w1 ⟨rfl, hw1⟩
    rw [hbit]
    have hA : Blk w1 w.heap.size 24 b.cells := (hA0.alloc _).below hw1 (by simp; omega)
    have hZ : Blk w1 (w.heap.size + 1) 24 Bits.zero.cells := hZ0.below hw1 (by simp)
    have hW : Below w.heap.size w w1 := (((Below.refl _ _).alloc (Nat.le_refl _) _).alloc (by simp) _).trans (hw1.mono (by simp; omega))
    clear hA0 hZ0 hw1
    have hc := hA.cell
    have hz := hA.frozen
    have hcz := hZ.cell
    have hzz := hZ.frozen
    have hltz := hZ.lt
    simp only [Bits.cells, Bits.zero] at hc hcz
    rw [hq] at hbit
    go_wp2_with fail
    go_loop [8, 9] (fun v i => ∃ k z : Nat, k ≤ n % 64 ∧ i = .int .i64 k ∧ v = .int .u64 z ∧ Hid (z = 2 ^ k)) (fun _ i => n % 64 - (intOf i).toNat)
    case atStart => exact ⟨0, 1, by omega, rfl, rfl, by simp [Hid]⟩
    case round =>
      obtain ⟨k, z, hk, rfl, rfl, hX⟩ := hrel
      by_cases hlt2 : k < n % 64
      · have hz2 : IntKind.u64.wrap (2 * (z : Int)) = ((2 * z : Nat) : Int) := by
          have := Nat.pow_lt_pow_right (a := 2) (by omega) (show k + 1 < 64 by omega)
          rw [Nat.pow_succ, ← hX.out] at this
          rw [IntWalk.u64_in _ (by omega)]; simp
        go_wp2_with fail
        go_round
        case rel => exact ⟨k + 1, 2 * z, by omega, by go_num, by go_num, Lib.hid (by rw [hX.out, Nat.pow_succ]; omega)⟩
        case measure => simp [intOf]; omega
      · obtain rfl : k = n % 64 := by omega
        rw [← hX.out] at hv
        obtain ⟨wz, hwz, hQ, hG⟩ := fill4 Bits.zero (b.setw 0 y) (hZ.far (p := ⟨w.heap.size, 0, none⟩) (by simp) (.int .u64 y)) (hW.setCell (p := ⟨w.heap.size, 0, none⟩) (Nat.le_refl _) (.int .u64 y)) (by omega)
        simp only [Bits.setw, Nat.reduceEqDiff, if_true, if_false, Nat.one_ne_zero] at hwz
        go_wp2_with fail
        rw [← hwz]
        have hQc := hQ.cell
        simp only [Bits.cells, Bits.setw, Nat.reduceEqDiff, if_true, if_false, Nat.one_ne_zero] at hQc
        exact bodyPost_ret (v := (b.setw 0 y).val) (by simp [results, Tryd.results10, go_sem, Bits.val, Bits.setw, hQc]) rfl ⟨rfl, hG⟩
  · have hqi : (n : Int) / 64 = 1 := by omega
    have hbk := hb.h1
    have hbit' : b.w1.testBit (n % 64) = true := by rw [hq] at hbit; exact hbit
    obtain ⟨hv, hv2⟩ := sub_ok b.w1 (n % 64) (by omega) hbk hbit'
    have hres : b.setw (n / 64) (b.word (n / 64) &&& (18446744073709551615 - 2 ^ (n % 64))) = b.setw 1 (b.word (n / 64) &&& (18446744073709551615 - 2 ^ (n % 64))) := by rw [hq]
    rw [hres]
    clear hres hbit'
    generalize hgw : (b.word (n / 64) &&& (18446744073709551615 - 2 ^ (n % 64))) = y at *
    have hgw' : b.word 1 = b.w1 := rfl
    rw [hq, hgw'] at hgw
    rw [hgw] at hv
    clear hgw hgw'
    unfold Bits.val
    go_enter Tryd.func10, Tryd.ntmps10
    go_wp2_with fail
    have hA0 : Blk (w.alloc (.cells b.cells 24)) w.heap.size 24 b.cells := Blk.new _ _ _
    have hZ0 : Blk ((w.alloc (.cells b.cells 24)).alloc (.cells Bits.zero.cells 24)) (w.heap.size + 1) 24 Bits.zero.cells := by simpa using Blk.new (w.alloc (.cells b.cells 24)) 24 Bits.zero.cells
    refine (rhas_in b n _ h hb).mono ?_
    rintro e w1 ⟨rfl, hw1⟩
    rw [hbit]
    have hA : Blk w1 w.heap.size 24 b.cells := (hA0.alloc _).below hw1 (by simp; omega)
    have hZ : Blk w1 (w.heap.size + 1) 24 Bits.zero.cells := hZ0.below hw1 (by simp)
    have hW : Below w.heap.size w w1 := (((Below.refl _ _).alloc (Nat.le_refl _) _).alloc (by simp) _).trans (hw1.mono (by simp; omega))
    clear hA0 hZ0 hw1
    have hc := hA.cell
    have hz := hA.frozen
    have hcz := hZ.cell
    have hzz := hZ.frozen
    have hltz := hZ.lt
    simp only [Bits.cells, Bits.zero] at hc hcz
    rw [hq] at hbit
    go_wp2_with fail
    go_loop [8, 9] (fun v i => ∃ k z : Nat, k ≤ n % 64 ∧ i = .int .i64 k ∧ v = .int .u64 z ∧ Hid (z = 2 ^ k)) (fun _ i => n % 64 - (intOf i).toNat)
    case atStart => exact ⟨0, 1, by omega, rfl, rfl, by simp [Hid]⟩
    case round =>
      obtain ⟨k, z, hk, rfl, rfl, hX⟩ := hrel
      by_cases hlt2 : k < n % 64
      · have hz2 : IntKind.u64.wrap (2 * (z : Int)) = ((2 * z : Nat) : Int) := by
          have := Nat.pow_lt_pow_right (a := 2) (by omega) (show k + 1 < 64 by omega)
          rw [Nat.pow_succ, ← hX.out] at this
          rw [IntWalk.u64_in _ (by omega)]; simp
        go_wp2_with fail
        go_round
        case rel => exact ⟨k + 1, 2 * z, by omega, by go_num, by go_num, Lib.hid (by rw [hX.out, Nat.pow_succ]; omega)⟩
        case measure => simp [intOf]; omega
      · obtain rfl : k = n % 64 := by omega
        rw [← hX.out] at hv
        obtain ⟨wz, hwz, hQ, hG⟩ := fill4 Bits.zero (b.setw 1 y) (hZ.far (p := ⟨w.heap.size, 1, none⟩) (by simp) (.int .u64 y)) (hW.setCell (p := ⟨w.heap.size, 1, none⟩) (Nat.le_refl _) (.int .u64 y)) (by omega)
        simp only [Bits.setw, Nat.reduceEqDiff, if_true, if_false, Nat.one_ne_zero] at hwz
        go_wp2_with fail
        rw [← hwz]
        have hQc := hQ.cell
        simp only [Bits.cells, Bits.setw, Nat.reduceEqDiff, if_true, if_false, Nat.one_ne_zero] at hQc
        exact bodyPost_ret (v := (b.setw 1 y).val) (by simp [results, Tryd.results10, go_sem, Bits.val, Bits.setw, hQc]) rfl ⟨rfl, hG⟩
  · have hqi : (n : Int) / 64 = 2 := by omega
    have hbk := hb.h2
    have hbit' : b.w2.testBit (n % 64) = true := by rw [hq] at hbit; exact hbit
    obtain ⟨hv, hv2⟩ := sub_ok b.w2 (n % 64) (by omega) hbk hbit'
    have hres : b.setw (n / 64) (b.word (n / 64) &&& (18446744073709551615 - 2 ^ (n % 64))) = b.setw 2 (b.word (n / 64) &&& (18446744073709551615 - 2 ^ (n % 64))) := by rw [hq]
    rw [hres]
    clear hres hbit'
    generalize hgw : (b.word (n / 64) &&& (18446744073709551615 - 2 ^ (n % 64))) = y at *
    have hgw' : b.word 2 = b.w2 := rfl
    rw [hq, hgw'] at hgw
    rw [hgw] at hv
    clear hgw hgw'
    unfold Bits.val
    go_enter Tryd.func10, Tryd.ntmps10
    go_wp2_with fail
    have hA0 : Blk (w.alloc (.cells b.cells 24)) w.heap.size 24 b.cells := Blk.new _ _ _
    have hZ0 : Blk ((w.alloc (.cells b.cells 24)).alloc (.cells Bits.zero.cells 24)) (w.heap.size + 1) 24 Bits.zero.cells := by simpa using Blk.new (w.alloc (.cells b.cells 24)) 24 Bits.zero.cells
    refine (rhas_in b n _ h hb).mono ?_
    rintro e w1 ⟨rfl, hw1⟩
    rw [hbit]
    have hA : Blk w1 w.heap.size 24 b.cells := (hA0.alloc _).below hw1 (by simp; omega)
    have hZ : Blk w1 (w.heap.size + 1) 24 Bits.zero.cells := hZ0.below hw1 (by simp)
    have hW : Below w.heap.size w w1 := (((Below.refl _ _).alloc (Nat.le_refl _) _).alloc (by simp) _).trans (hw1.mono (by simp; omega))
    clear hA0 hZ0 hw1
    have hc := hA.cell
    have hz := hA.frozen
    have hcz := hZ.cell
    have hzz := hZ.frozen
    have hltz := hZ.lt
    simp only [Bits.cells, Bits.zero] at hc hcz
    rw [hq] at hbit
    go_wp2_with fail
    go_loop [8, 9] (fun v i => ∃ k z : Nat, k ≤ n % 64 ∧ i = .int .i64 k ∧ v = .int .u64 z ∧ Hid (z = 2 ^ k)) (fun _ i => n % 64 - (intOf i).toNat)
    case atStart => exact ⟨0, 1, by omega, rfl, rfl, by simp [Hid]⟩
    case round =>
      obtain ⟨k, z, hk, rfl, rfl, hX⟩ := hrel
      by_cases hlt2 : k < n % 64
      · have hz2 : IntKind.u64.wrap (2 * (z : Int)) = ((2 * z : Nat) : Int) := by
          have := Nat.pow_lt_pow_right (a := 2) (by omega) (show k + 1 < 64 by omega)
          rw [Nat.pow_succ, ← hX.out] at this
          rw [IntWalk.u64_in _ (by omega)]; simp
        go_wp2_with fail
        go_round
        case rel => exact ⟨k + 1, 2 * z, by omega, by go_num, by go_num, Lib.hid (by rw [hX.out, Nat.pow_succ]; omega)⟩
        case measure => simp [intOf]; omega
      · obtain rfl : k = n % 64 := by omega
        rw [← hX.out] at hv
        obtain ⟨wz, hwz, hQ, hG⟩ := fill4 Bits.zero (b.setw 2 y) (hZ.far (p := ⟨w.heap.size, 2, none⟩) (by simp) (.int .u64 y)) (hW.setCell (p := ⟨w.heap.size, 2, none⟩) (Nat.le_refl _) (.int .u64 y)) (by omega)
        simp only [Bits.setw, Nat.reduceEqDiff, if_true, if_false, Nat.one_ne_zero] at hwz
        go_wp2_with fail
        rw [← hwz]
        have hQc := hQ.cell
        simp only [Bits.cells, Bits.setw, Nat.reduceEqDiff, if_true, if_false, Nat.one_ne_zero] at hQc
        exact bodyPost_ret (v := (b.setw 2 y).val) (by simp [results, Tryd.results10, go_sem, Bits.val, Bits.setw, hQc]) rfl ⟨rfl, hG⟩
  · have hqi : (n : Int) / 64 = 3 := by omega
    have hbk := hb.h3
    have hbit' : b.w3.testBit (n % 64) = true := by rw [hq] at hbit; exact hbit
    obtain ⟨hv, hv2⟩ := sub_ok b.w3 (n % 64) (by omega) hbk hbit'
    have hres : b.setw (n / 64) (b.word (n / 64) &&& (18446744073709551615 - 2 ^ (n % 64))) = b.setw 3 (b.word (n / 64) &&& (18446744073709551615 - 2 ^ (n % 64))) := by rw [hq]
    rw [hres]
    clear hres hbit'
    generalize hgw : (b.word (n / 64) &&& (18446744073709551615 - 2 ^ (n % 64))) = y at *
    have hgw' : b.word 3 = b.w3 := rfl
    rw [hq, hgw'] at hgw
    rw [hgw] at hv
    clear hgw hgw'
    unfold Bits.val
    go_enter Tryd.func10, Tryd.ntmps10
    go_wp2_with fail
    have hA0 : Blk (w.alloc (.cells b.cells 24)) w.heap.size 24 b.cells := Blk.new _ _ _
    have hZ0 : Blk ((w.alloc (.cells b.cells 24)).alloc (.cells Bits.zero.cells 24)) (w.heap.size + 1) 24 Bits.zero.cells := by simpa using Blk.new (w.alloc (.cells b.cells 24)) 24 Bits.zero.cells
    refine (rhas_in b n _ h hb).mono ?_
    rintro e w1 ⟨rfl, hw1⟩
    rw [hbit]
    have hA : Blk w1 w.heap.size 24 b.cells := (hA0.alloc _).below hw1 (by simp; omega)
    have hZ : Blk w1 (w.heap.size + 1) 24 Bits.zero.cells := hZ0.below hw1 (by simp)
    have hW : Below w.heap.size w w1 := (((Below.refl _ _).alloc (Nat.le_refl _) _).alloc (by simp) _).trans (hw1.mono (by simp; omega))
    clear hA0 hZ0 hw1
    have hc := hA.cell
    have hz := hA.frozen
    have hcz := hZ.cell
    have hzz := hZ.frozen
    have hltz := hZ.lt
    simp only [Bits.cells, Bits.zero] at hc hcz
    rw [hq] at hbit
    go_wp2_with fail
    go_loop [8, 9] (fun v i => ∃ k z : Nat, k ≤ n % 64 ∧ i = .int .i64 k ∧ v = .int .u64 z ∧ Hid (z = 2 ^ k)) (fun _ i => n % 64 - (intOf i).toNat)
    case atStart => exact ⟨0, 1, by omega, rfl, rfl, by simp [Hid]⟩
    case round =>
      obtain ⟨k, z, hk, rfl, rfl, hX⟩ := hrel
      by_cases hlt2 : k < n % 64
      · have hz2 : IntKind.u64.wrap (2 * (z : Int)) = ((2 * z : Nat) : Int) := by
          have := Nat.pow_lt_pow_right (a := 2) (by omega) (show k + 1 < 64 by omega)
          rw [Nat.pow_succ, ← hX.out] at this
          rw [IntWalk.u64_in _ (by omega)]; simp
        go_wp2_with fail
        go_round
        case rel => exact ⟨k + 1, 2 * z, by omega, by go_num, by go_num, Lib.hid (by rw [hX.out, Nat.pow_succ]; omega)⟩
        case measure => simp [intOf]; omega
      · obtain rfl : k = n % 64 := by omega
        rw [← hX.out] at hv
        obtain ⟨wz, hwz, hQ, hG⟩ := fill4 Bits.zero (b.setw 3 y) (hZ.far (p := ⟨w.heap.size, 3, none⟩) (by simp) (.int .u64 y)) (hW.setCell (p := ⟨w.heap.size, 3, none⟩) (Nat.le_refl _) (.int .u64 y)) (by omega)
        simp only [Bits.setw, Nat.reduceEqDiff, if_true, if_false, Nat.one_ne_zero] at hwz
        go_wp2_with fail
        rw [← hwz]
        have hQc := hQ.cell
        simp only [Bits.cells, Bits.setw, Nat.reduceEqDiff, if_true, if_false, Nat.one_ne_zero] at hQc
        exact bodyPost_ret (v := (b.setw 3 y).val) (by simp [results, Tryd.results10, go_sem, Bits.val, Bits.setw, hQc]) rfl ⟨rfl, hG⟩
end Go.Proofs.YtifoeddeofhclaaDoor
