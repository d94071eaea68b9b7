/- Layer 2 (bitmap): the library's counts, walked; the reference's Put; lists. -/
import Derived.Test.YtifoeddeofhclaaDoorBits
import Derived.Test.YtifoeddeofhclaaDoorPop
namespace Go.Proofs.YtifoeddeofhclaaDoor
open Go.RowKit
theorem and_le (a b : Nat) : a &&& b ≤ b := Nat.and_le_right
theorem pu1 (x : Nat) (hx : x < 18446744073709551616) : IntKind.u64.wrap (bits BinOp.and IntKind.u64 ((x : Int) / 2) 6148914691236517205 + bits BinOp.and IntKind.u64 (x : Int) 6148914691236517205) = ((f1 x 6148914691236517205 : Nat) : Int) := by
  have e : ((x : Int) / 2) = ((x / 2 : Nat) : Int) := by simp
  have h1 := and_le (x / 2) 6148914691236517205
  have h2 := and_le x 6148914691236517205
  rw [e, show (6148914691236517205 : Int) = ((6148914691236517205 : Nat) : Int) from rfl, u64_and_nat _ _ (by omega) (by omega), u64_and_nat _ _ hx (by omega), IntWalk.u64_in _ (by omega)]
  unfold f1
  omega
theorem pu2 (x : Nat) (hx : x < 18446744073709551616) : IntKind.u64.wrap (bits BinOp.and IntKind.u64 ((x : Int) / 4) 3689348814741910323 + bits BinOp.and IntKind.u64 (x : Int) 3689348814741910323) = ((f2 x 3689348814741910323 : Nat) : Int) := by
  have e : ((x : Int) / 4) = ((x / 4 : Nat) : Int) := by simp
  have h1 := and_le (x / 4) 3689348814741910323
  have h2 := and_le x 3689348814741910323
  rw [e, show (3689348814741910323 : Int) = ((3689348814741910323 : Nat) : Int) from rfl, u64_and_nat _ _ (by omega) (by omega), u64_and_nat _ _ hx (by omega), IntWalk.u64_in _ (by omega)]
  unfold f2
  omega
theorem f1_lt (x : Nat) : f1 x 6148914691236517205 < 18446744073709551616 := by
  have h1 := and_le (x / 2) 6148914691236517205
  have h2 := and_le x 6148914691236517205
  unfold f1
  omega
theorem f2_lt (x : Nat) : f2 x 3689348814741910323 ≤ 7378697629483820646 := by
  have h1 := and_le (x / 4) 3689348814741910323
  have h2 := and_le x 3689348814741910323
  unfold f2
  omega
theorem pu3 (x : Nat) (hx : x ≤ 7378697629483820646) : bits BinOp.and IntKind.u64 (IntKind.u64.wrap ((x : Int) / 16 + (x : Int))) 1085102592571150095 = ((f3 x 1085102592571150095 : Nat) : Int) := by
  have e : ((x : Int) / 16 + (x : Int)) = ((x / 16 + x : Nat) : Int) := by simp
  rw [e, IntWalk.u64_in _ (by omega), show (1085102592571150095 : Int) = ((1085102592571150095 : Nat) : Int) from rfl, u64_and_nat _ _ (by omega) (by omega)]
  rfl
theorem mask127 (z : Int) (h : 0 ≤ z ∧ z ≤ 9223372036854775807) : bits BinOp.and IntKind.i64 z 127 = z % 128 := by
  obtain ⟨n, rfl⟩ := Int.eq_ofNat_of_zero_le h.1
  have h1 := ofInt_u64 n (by omega)
  have h2 := ofInt_u64 127 (by omega)
  have e : bits BinOp.and IntKind.i64 (n : Int) 127 = IntKind.i64.wrap (((BitVec.ofInt 64 (n : Int)) &&& (BitVec.ofInt 64 ((127 : Nat) : Int))).toNat : Int) := rfl
  rw [e, BitVec.toNat_and, h1, h2, show (127 : Nat) = 2 ^ 7 - 1 from rfl, Nat.and_two_pow_sub_one_eq_mod]
  simp only [Nat.reducePow]
  rw [IntWalk.i64_in _ (by omega)]
  omega
theorem ones_any (x : Nat) (w : World) (hx : x < 18446744073709551616) : Calls Tryd.prog 32 #[.int .u64 x] w fun e w' => e = .returned (.int .i64 (pcount 64 x : Nat)) ∧ w = w' := by
  obtain ⟨hp1, hp2⟩ := pop_bounds x (by simpa using hx)
  have e1 := pu1 x hx
  have e2 := pu2 (f1 x 6148914691236517205) (f1_lt x)
  have e3 := pu3 (f2 (f1 x 6148914691236517205) 3689348814741910323) (f2_lt _)
  unfold pop64 at hp2
  dsimp only at hp2
  generalize f3 (f2 (f1 x 6148914691236517205) 3689348814741910323) 1085102592571150095 = y at *
  have hp3 : ((y : Int) + (y : Int) / 256 + ((y : Int) + (y : Int) / 256) / 65536 + ((y : Int) + (y : Int) / 256 + ((y : Int) + (y : Int) / 256) / 65536) / 4294967296) % 128 = ((pcount 64 x : Nat) : Int) := by
    rw [← hp2]
    generalize hA : y + y / 256 = A
    have hA' : ((y : Int) + (y : Int) / 256) = (A : Int) := by omega
    rw [hA']
    generalize hB : A + A / 65536 = B
    have hB' : ((A : Int) + (A : Int) / 65536) = (B : Int) := by omega
    rw [hB']
    omega
  have HP := Lib.hid hp3
  clear hp2 hp3
  go_enter Tryd.func32, Tryd.ntmps32
  go_wp2
  go_ret
  refine ⟨ret_int ?_, rfl⟩
  rw [mask127 _ (by omega), HP.out]
def tabL : List Nat := [0, 1, 56, 2, 57, 49, 28, 3, 61, 58, 42, 50, 38, 29, 17, 4, 62, 47, 59, 36, 45, 43, 51, 22, 53, 39, 33, 30, 24, 18, 12, 5, 63, 55, 48, 27, 60, 41, 37, 16, 46, 35, 44, 21, 52, 32, 23, 11, 54, 26, 40, 15, 34, 20, 31, 10, 25, 14, 19, 9, 13, 8, 7, 6]
/-- The library's table lies at its place. -/
def TabAt (w : World) : Prop := ∀ j, j < 64 → w.cell? ⟨0, j, none⟩ = some (.int .u8 (tabL.getD j 0 : Nat))
def idx (t : Nat) : Nat := 2 ^ t * 285870213051353865 % 18446744073709551616 / 288230376151711744
theorem idx_ok : ∀ t, t < 64 → idx t < 64 ∧ tabL.getD (idx t) 0 = t := by
  have h : (List.range 64).all (fun t => decide (idx t < 64 ∧ tabL.getD (idx t) 0 = t)) = true := by decide +kernel
  intro t ht
  exact of_decide_eq_true (List.all_eq_true.1 h t (List.mem_range.2 ht))
theorem tz_core (x z k t : Nat) (w : World) (h1 : ((x : Int) == 0) = false) (hA : Hid (bits BinOp.and IntKind.u64 (x : Int) (IntKind.u64.wrap (-(x : Int))) = (z : Int))) (hW : Hid (IntKind.u64.wrap ((z : Int) * 285870213051353865) / 288230376151711744 = (k : Int))) (hk64 : k < 64) (ht : t < 64) (hcell : Hid (w.cell? ⟨0, k, none⟩ = some (.int .u8 (t : Nat)))) : Calls Tryd.prog 36 #[.int .u64 x] w fun e w' => e = .returned (.int .i64 t) ∧ w = w' := by
  have hA := hA.out
  have hr : 0 ≤ IntKind.u64.wrap ((z : Int) * 285870213051353865) / 288230376151711744 ∧ IntKind.u64.wrap ((z : Int) * 285870213051353865) / 288230376151711744 < 64 := by
    rw [hW.out]; omega
  have hc : w.cell? ⟨0, (IntKind.u64.wrap ((z : Int) * 285870213051353865) / 288230376151711744).toNat, none⟩ = some (.int .u8 (t : Nat)) := by
    rw [hW.out]; exact hcell.out
  clear hW hcell
  go_enter Tryd.func36, Tryd.ntmps36
  go_wp2
  go_ret
  exact ⟨rfl, rfl⟩
theorem tz_any (t q : Nat) (w : World) (hx : 2 ^ (t + 1) * q + 2 ^ t < 2 ^ 64) (hT : TabAt w) : Calls Tryd.prog 36 #[.int .u64 (2 ^ (t + 1) * q + 2 ^ t : Nat)] w fun e w' => e = .returned (.int .i64 t) ∧ w = w' := by
  have hp := Nat.two_pow_pos t
  have ht : t < 64 := by
    rcases Nat.lt_or_ge t 64 with h | h
    · exact h
    · have := Nat.pow_le_pow_right (n := 2) (by omega) h
      omega
  obtain ⟨hi1, hi2⟩ := idx_ok t ht
  have hl := only_low t q 64 hx
  have hcell := hT (idx t) hi1
  rw [hi2] at hcell
  generalize 2 ^ (t + 1) * q + 2 ^ t = x at *
  have hx0 : 0 < x := by
    rcases Nat.eq_zero_or_pos x with h | h
    · subst h; simp at hl; omega
    · exact h
  have hx2 : x < 18446744073709551616 := by simpa using hx
  refine tz_core x (2 ^ t) (idx t) t w (by simp; omega) (Lib.hid ?_) (Lib.hid ?_) hi1 ht (Lib.hid hcell)
  · have e : IntKind.u64.wrap (-(x : Int)) = ((18446744073709551616 - x : Nat) : Int) := by rw [IntKind.wrap_u64]; omega
    rw [e, u64_and_nat _ _ hx2 (by omega)]
    simp only [Nat.reducePow] at hl
    rw [hl]
  · rw [IntKind.wrap_u64]
    unfold idx
    simp
end Go.Proofs.YtifoeddeofhclaaDoor
