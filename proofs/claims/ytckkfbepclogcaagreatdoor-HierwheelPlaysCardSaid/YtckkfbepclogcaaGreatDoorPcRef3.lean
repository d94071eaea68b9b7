/- The law: the texts Ref3, laid end to end by a program. -/
import Derived.Test.YtckkfbepclogcaaGreatDoorPk17
namespace Go.Proofs.YtckkfbepclogcaaGreatDoor
open Go.RowKit
theorem rbits_any (b : Nat) (h : 1 ≤ b ∧ b ≤ 6) (w : World) :
    Calls Tryz.prog 87 #[.int .i64 b] w fun e w' => e = .returned (.int .i64 b) ∧ w = w' := by
  have h1 : max (b : Int) 1 = b := by omega
  have h2 : min (b : Int) 6 = b := by omega
  go_enter Tryz.func87, Tryz.ntmps87
  go_wp2
  go_ret
  exact ⟨rfl, rfl⟩
set_option maxRecDepth 100000 in
theorem rpower_any (n b N : Nat) (hb : 1 ≤ b ∧ b ≤ 6) (hn : n ≤ 4) (hN : 2 ^ (b * n) = N) (w : World) :
    Calls Tryz.prog 62 #[.int .i64 n, .int .i64 b] w fun e w' => e = .returned (.int .u64 N) ∧ w = w' := by
  have hbt := rbits_any b hb
  have HP : Hid (∀ i k : Nat, i < n → k ≤ b → 2 ^ (b * i + k) ≤ 16777216) := Lib.hid fun i k hi hk => by
    have h1 : b * (i + 1) ≤ 6 * 4 := Nat.mul_le_mul hb.2 (by omega)
    rw [Nat.mul_succ] at h1
    exact Nat.le_trans (Nat.pow_le_pow_right (n := 2) (by omega) (show b * i + k ≤ 24 by omega)) (by decide)
  have HN := Lib.hid hN
  clear hN
  go_enter Tryz.func62, Tryz.ntmps62
  go_wp2_with fail
  go_loop [5, 6] (fun p i => ∃ j x : Nat, j ≤ n ∧ p = .int .u64 x ∧ i = .int .i64 j ∧ Hid (x = 2 ^ (b * j))) (fun _ i => n - (intOf i).toNat)
  case atStart => exact ⟨0, 1, by omega, rfl, rfl, Lib.hid (by simp)⟩
  case round =>
    obtain ⟨j, x, hj, rfl, rfl, HX⟩ := hrel
    by_cases hlt : j < n
    · go_wp2_with fail
      go_loop [5, 7] (fun p i => ∃ k y : Nat, k ≤ b ∧ p = .int .u64 y ∧ i = .int .i64 k ∧ Hid (y = 2 ^ (b * j + k))) (fun _ i => b - (intOf i).toNat)
      case atStart => exact ⟨0, x, by omega, rfl, rfl, HX⟩
      case round =>
        obtain ⟨k, y, hk, rfl, rfl, HY⟩ := hrel
        by_cases hk2 : k < b
        · have HY2 : Hid (2 * y = 2 ^ (b * j + (k + 1))) := Lib.hid (by rw [HY.out, show b * j + (k + 1) = (b * j + k) + 1 by omega, Nat.pow_succ]; omega)
          have hy2 : 2 * y ≤ 16777216 := by rw [HY2.out]; exact HP.out j (k + 1) hlt (by omega)
          go_wp2_with fail
          refine (hbt _).mono ?_
          rintro e w1 ⟨rfl, rfl⟩
          go_wp2_with fail
          go_round
          case rel => exact ⟨k + 1, 2 * y, by omega, by go_num, by go_num, HY2⟩
          case measure => simp [intOf]; omega
        · have hkb : k = b := by omega
          subst hkb
          go_wp2_with fail
          refine (hbt _).mono ?_
          rintro e w1 ⟨rfl, rfl⟩
          go_wp2_with fail
          go_round
          case rel => exact ⟨j + 1, y, by omega, rfl, by go_num, Lib.hid (by rw [HY.out, Nat.mul_succ])⟩
          case measure => simp [intOf]; omega
    · have hjn : j = n := by omega
      subst hjn
      have HE := Lib.hid (show x = N by rw [HX.out, HN.out])
      clear HX HN HP
      go_wp2_with fail
      go_ret
      exact ⟨by rw [HE.out]; rfl, rfl⟩
set_option maxRecDepth 100000 in
theorem rreach_any (l b N : Nat) (hb : 1 ≤ b ∧ b ≤ 6) (hl : l ≤ 3) (hN : 2 ^ (b * l) = N) (w : World) :
    Calls Tryz.prog 91 #[.int .i64 l, .int .i64 b] w fun e w' => e = .returned (.int .u64 N) ∧ w = w' := by
  have hp := rpower_any l b N hb (by omega) hN
  have h1 : max (l : Int) 0 = l := by omega
  have h2 : min (l : Int) 3 = l := by omega
  clear hN
  go_enter Tryz.func91, Tryz.ntmps91
  go_wp2_with fail
  refine (hp _).mono ?_
  rintro e w1 ⟨rfl, rfl⟩
  go_wp2_with fail
  go_ret
  exact ⟨rfl, rfl⟩
theorem wrap_div (x N : Nat) (hx : x < 18446744073709551616) : IntKind.u64.wrap ((x : Int) / (N : Int)) = (x : Int) / (N : Int) := by
  rw [← Int.natCast_ediv]
  have h := Nat.lt_of_le_of_lt (Nat.div_le_self x N) hx
  generalize x / N = z at *
  exact IntWalk.u64_in _ (by omega)
theorem tmod_nat (x N B : Nat) : ((x : Int) / (N : Int)).tmod (B : Int) = ((x / N % B : Nat) : Int) := by
  rw [← Int.natCast_ediv, Int.tmod_eq_emod_of_nonneg (Int.natCast_nonneg _), Int.natCast_emod]
set_option maxRecDepth 100000 in
theorem rdigit_any (b B : Nat) (hB : 2 ^ b = B) (h : 1 ≤ b ∧ b ≤ 6) (x l : Nat) (hx : x < 18446744073709551616) (hl : l < 4) (w : World) :
    Calls Tryz.prog 65 #[.int .u64 x, .int .i64 l, .int .i64 b] w fun e w' => e = .returned (.int .i64 (dig (B : Int) x l)) ∧ Below w.heap.size w w' := by
  have hr := fun w => rreach_any l b (2 ^ (b * l)) h (by omega) rfl w
  have hp := fun w => rpower_any 1 b B h (by omega) (by rw [Nat.mul_one, hB]) w
  have hN : 0 < 2 ^ (b * l) := Nat.two_pow_pos _
  have hB0 : 0 < B := by rw [← hB]; exact Nat.two_pow_pos _
  have hB6 : B ≤ 64 := by rw [← hB]; exact Nat.pow_le_pow_right (n := 2) (by omega) h.2
  have HD := dig_nat b x l
  rw [hB] at HD
  clear hB
  generalize 2 ^ (b * l) = N at *
  have hN0 : N ≠ 0 := by omega
  have hBz : B ≠ 0 := by omega
  have e5 := wrap_div x N hx
  have e1 := tmod_nat x N B
  have hm : x / N % B < B := Nat.mod_lt _ hB0
  generalize x / N % B = D at *
  have e6 : IntKind.u64.wrap (D : Int) = D := IntWalk.u64_in _ (by omega)
  have e7 : IntKind.i64.wrap (D : Int) = D := IntWalk.i64_in _ (by omega)
  replace HD := Lib.hid HD
  clear hm hN hB0
  have HB := Lib.hid (Below.refl w.heap.size w).drew
  go_enter Tryz.func65, Tryz.ntmps65
  go_wp2_with fail
  refine still_all (by kernel_rfl) (by kernel_rfl) ?_
  iterate 3 still_step
  still_call (flip (hr _))
  iterate 2 still_step
  still_call (flip (hp _))
  repeat still_step
  refine wpStill_nil ?_
  go_wp2_with fail
  go_ret
  exact ⟨by rw [HD.out]; rfl, HB.out⟩
set_option maxRecDepth 100000 in
theorem rlevel_any (b B : Nat) (hB : 2 ^ b = B) (h : 1 ≤ b ∧ b ≤ 6) (x y : Nat) (hx : x < 18446744073709551616) (hy : y < 18446744073709551616) (w : World) :
    Calls Tryz.prog 37 #[.int .u64 x, .int .u64 y, .int .i64 b] w fun e w' => e = .returned (.int .i64 (lev (B : Int) x y)) ∧ Below w.heap.size w w' := by
  have hp := fun (n : Nat) (hn : n ≤ 4) w => rpower_any n b (2 ^ (b * n)) h hn rfl w
  have hb0 := Below.refl w.heap.size w
  by_cases hle : y ≤ x
  · have hle' : (y : Int) ≤ x := by omega
    have HL := Lib.hid (show lev (B : Int) x y = -1 from lev_neg.2 (by omega))
    clear hB
    generalize lev (B : Int) x y = L at *
    go_enter Tryz.func37, Tryz.ntmps37
    go_wp2_with fail
    go_ret
    exact ⟨by rw [HL.out]; rfl, hb0⟩
  · have hle' : ¬ (y : Int) ≤ x := by omega
    have HF : Hid (∀ k, k < 4 → (∀ l, l < k → x / 2 ^ (b * (l + 1)) ≠ y / 2 ^ (b * (l + 1))) → x / 2 ^ (b * (k + 1)) = y / 2 ^ (b * (k + 1)) → lev (B : Int) x y = k) := Lib.hid fun k hk h1 h2 => by rw [← hB]; exact lev_found b x y k (by omega) hk h1 h2
    have HG : Hid ((∀ l, l < 4 → x / 2 ^ (b * (l + 1)) ≠ y / 2 ^ (b * (l + 1))) → lev (B : Int) x y = 4) := Lib.hid fun h1 => by rw [← hB]; exact lev_none b x y (by omega) h1
    clear hB
    generalize lev (B : Int) x y = L at *
    go_enter Tryz.func37, Tryz.ntmps37
    go_wp2_with fail
    go_loopw [7] (fun i wr => ∃ k : Nat, k ≤ 4 ∧ i = .int .i64 k ∧ Hid (∀ l, l < k → x / 2 ^ (b * (l + 1)) ≠ y / 2 ^ (b * (l + 1))) ∧ Below w.heap.size w wr) (fun i _ => 4 - (intOf i).toNat)
    case atStart => exact ⟨0, by omega, rfl, Lib.hid fun l hl => by omega, hb0⟩
    case round =>
      clear hb0
      obtain ⟨k, hk, rfl, HNE, hb⟩ := hrel
      by_cases hlt : k < 4
      · have hpk := hp (k + 1) (by omega)
        have hN : 0 < 2 ^ (b * (k + 1)) := Nat.two_pow_pos _
        have HFK := Lib.hid (HF.out k hlt HNE.out)
        have HNK : Hid (x / 2 ^ (b * (k + 1)) ≠ y / 2 ^ (b * (k + 1)) → ∀ l, l < k + 1 → x / 2 ^ (b * (l + 1)) ≠ y / 2 ^ (b * (l + 1))) := Lib.hid fun he l hl => by
          by_cases hl2 : l < k
          · exact HNE.out l hl2
          · obtain rfl : l = k := by omega
            exact he
        have HB := Lib.hid hb.drew
        clear hp HF HG hb HNE
        generalize 2 ^ (b * (k + 1)) = N at *
        have hN0 : N ≠ 0 := by omega
        have e5 := wrap_div x N hx
        have e6 := wrap_div y N hy
        clear hN
        by_cases he : x / N = y / N
        · have HL := Lib.hid (HFK.out he)
          have he' : (y : Int) / (N : Int) = (x : Int) / (N : Int) := by rw [← Int.natCast_ediv, ← Int.natCast_ediv, he]
          clear he HNK
          go_wp2_with fail
          refine (hpk _).mono ?_
          rintro e w1 ⟨rfl, rfl⟩
          go_wp2_with fail
          refine still_all (by kernel_rfl) (by kernel_rfl) ?_
          repeat still_step
          refine wpStill_nil ?_
          go_wp2_with fail
          go_ret
          exact ⟨by rw [HL.out]; rfl, HB.out⟩
        · have HN := Lib.hid (HNK.out he)
          have he' : ¬ (y : Int) / (N : Int) = (x : Int) / (N : Int) := by
            rw [← Int.natCast_ediv, ← Int.natCast_ediv]
            omega
          clear he HNK
          go_wp2_with fail
          refine (hpk _).mono ?_
          rintro e w1 ⟨rfl, rfl⟩
          go_wp2_with fail
          refine still_all (by kernel_rfl) (by kernel_rfl) ?_
          repeat still_step
          refine wpStill_nil ?_
          go_wp2_with fail
          go_roundw
          case rel => exact ⟨k + 1, by omega, by go_num, HN, HB.out⟩
          case measure => simp [intOf]; omega
      · obtain rfl : k = 4 := by omega
        have HL := Lib.hid (HG.out HNE.out)
        have HB := Lib.hid hb
        clear HNE hb
        go_wp2_with fail
        go_ret
        exact ⟨by rw [HL.out]; rfl, HB.out⟩
set_option maxRecDepth 100000 in
theorem rslot_any (b B : Nat) (hB : 2 ^ b = B) (h : 1 ≤ b ∧ b ≤ 6) (x y : Nat) (hx : x < 18446744073709551616) (hy : y < 18446744073709551616) (w : World) :
    Calls Tryz.prog 39 #[.int .u64 x, .int .u64 y, .int .i64 b] w fun e w' => e = .returned (.int .i64 (slotI (B : Int) x y)) ∧ Below w.heap.size w w' := by
  have hl := rlevel_any b B hB h x y hx hy
  have hd := fun l h4 => rdigit_any b B hB h y l hy h4
  unfold slotI
  generalize lev (B : Int) x y = L at *
  by_cases h0 : L < 0
  · rw [if_pos (.inl h0)]
    go_enter Tryz.func39, Tryz.ntmps39
    go_wp2_with fail
    refine (hl _).mono ?_
    rintro e w1 ⟨rfl, hx1⟩
    go_wp2_with fail
    go_ret
    exact ⟨rfl, hx1⟩
  · by_cases h4 : 4 ≤ L
    · rw [if_pos (.inr h4)]
      go_enter Tryz.func39, Tryz.ntmps39
      go_wp2_with fail
      refine (hl _).mono ?_
      rintro e w1 ⟨rfl, hx1⟩
      go_wp2_with fail
      go_ret
      exact ⟨rfl, hx1⟩
    · rw [if_neg (by omega)]
      obtain ⟨k, rfl⟩ := Int.eq_ofNat_of_zero_le (show 0 ≤ L by omega)
      rw [Int.toNat_natCast]
      have hdk := hd k (by omega)
      generalize dig (B : Int) y k = D at *
      clear hd
      go_enter Tryz.func39, Tryz.ntmps39
      go_wp2_with fail
      refine (hl _).mono ?_
      rintro e w1 ⟨rfl, hx1⟩
      go_wp2_with fail
      refine (hdk _).mono ?_
      rintro e w2 ⟨rfl, hx2⟩
      have HB := Lib.hid (hx1.trans (Below.mono hx2 hx1.size))
      go_wp2_with fail
      go_ret
      exact ⟨rfl, HB.out⟩
theorem rlevel_u {P b B : Nat} (z : RSz P b B) {base a : Int} (hb : U64 base) (ha : U64 a) (w : World) :
    Calls Tryz.prog 37 #[.int .u64 base, .int .u64 a, .int .i64 b] w fun e w' => e = .returned (.int .i64 (lev (B : Int) base a)) ∧ Below w.heap.size w w' := by
  obtain ⟨x, rfl, hx⟩ := u64_nat hb
  obtain ⟨y, rfl, hy⟩ := u64_nat ha
  exact rlevel_any b B z.hB ⟨z.h1, z.h6⟩ x y hx hy w
theorem rslot_u {P b B : Nat} (z : RSz P b B) {base a : Int} (hb : U64 base) (ha : U64 a) (w : World) :
    Calls Tryz.prog 39 #[.int .u64 base, .int .u64 a, .int .i64 b] w fun e w' => e = .returned (.int .i64 (slotI (B : Int) base a)) ∧ Below w.heap.size w w' := by
  obtain ⟨x, rfl, hx⟩ := u64_nat hb
  obtain ⟨y, rfl, hy⟩ := u64_nat ha
  exact rslot_any b B z.hB ⟨z.h1, z.h6⟩ x y hx hy w
end Go.Proofs.YtckkfbepclogcaaGreatDoor
