/- Part 12: the texts HwB, laid end to end by a program. -/
import Derived.Test.YtckkfbepclogcaaGreatDoorPk1
import Derived.Test.YtckkfbepclogcaaGreatDoorPk11
import Derived.Test.YtckkfbepclogcaaGreatDoorPk5
namespace Go.Proofs.YtckkfbepclogcaaGreatDoor
/-- The bits b are just the slots of S of which p says so. -/
structure Busy (S : Nat) (b : Bits) (p : Nat → Bool) : Prop where
  ok : b.Ok
  at_ : ∀ k, k < 256 → b.at k = (decide (k < S) && p k)
section
variable {S : Nat} {b : Bits} {p : Nat → Bool}
theorem Busy.has (h : Busy S b p) (hS : S ≤ 256) {x : Int} : b.has x = true ↔ ∃ k : Nat, x = k ∧ k < S ∧ p k = true := by
  unfold Bits.has
  rw [Bool.and_eq_true, decide_eq_true_iff]
  constructor
  · rintro ⟨⟨h0, h1⟩, h2⟩
    rw [h.at_ _ (by omega), Bool.and_eq_true, decide_eq_true_iff] at h2
    exact ⟨x.toNat, by omega, h2.1, h2.2⟩
  · rintro ⟨k, rfl, hk, hp⟩
    refine ⟨by omega, ?_⟩
    rw [Int.toNat_natCast, h.at_ k (by omega), hp, decide_eq_true hk]
    rfl
theorem Busy.off (h : Busy S b p) (hS : S ≤ 256) {k : Nat} (hk : k < S) (hn : b.has (k : Int) ≠ true) : p k = false := by
  cases e : p k with
  | false => rfl
  | true => exact absurd ((h.has hS).2 ⟨k, rfl, hk, e⟩) hn
/-- Going round from a: none, and then no slot has anything; or the next one, and none between. -/
theorem Busy.round (h : Busy S b p) (hS : S ≤ 256) {a : Nat} (ha : a < S) :
    (b.round a S = none → ∀ k, k < S → p k = false) ∧
    ∀ x, b.round a S = some x → ∃ k : Nat, x = k ∧ k < S ∧ p k = true ∧ ∀ d, d < (k + S - a) % S → p ((a + d) % S) = false := by
  have hc : ¬ ((a : Int) < 0 ∨ (S : Int) ≤ a) := by omega
  unfold Bits.round
  rw [if_neg hc]
  have hlow : (b.next 0).filter (fun x => decide (x < (S : Int))) = b.next 0 := by
    cases e : b.next 0 with
    | none => rfl
    | some y =>
      obtain ⟨k, rfl, hk, _⟩ := (h.has hS).1 (next_some b 0 y e).2
      simp [Option.filter, hk]
  cases e : b.next (a : Int) with
  | some x =>
    obtain ⟨h1, h2⟩ := next_some b _ x e
    obtain ⟨k, rfl, hk, hp⟩ := (h.has hS).1 h2
    dsimp only
    rw [if_pos (show (k : Int) < (S : Int) by omega)]
    refine ⟨nofun, ?_⟩
    intro x hx
    injection hx with hx
    subst hx
    refine ⟨k, rfl, hk, hp, ?_⟩
    intro d hd
    have hd2 : (k + S - a) % S = k - a := by
      rw [show k + S - a = (k - a) + S by omega, Nat.add_mod_right, Nat.mod_eq_of_lt (by omega)]
    rw [hd2] at hd
    rw [Nat.mod_eq_of_lt (by omega)]
    refine h.off hS (by omega) fun q => ?_
    have := next_least b _ _ _ e q (by omega)
    omega
  | none =>
    have hn : ∀ k, k < S → a ≤ k → p k = false := fun k hk hak => h.off hS hk fun q => by
      have := next_none b _ _ e q
      omega
    show ((b.next 0).filter (fun x => decide (x < (S : Int))) = none → _) ∧ ∀ x, (b.next 0).filter (fun x => decide (x < (S : Int))) = some x → _
    rw [hlow]
    refine ⟨fun q k hk => ?_, ?_⟩
    · refine h.off hS hk fun r => ?_
      have := next_none b _ _ q r
      omega
    · intro x hx
      obtain ⟨h1, h2⟩ := next_some b _ x hx
      obtain ⟨k, rfl, hk, hp⟩ := (h.has hS).1 h2
      have hka : k < a := by
        rcases Nat.lt_or_ge k a with hlt | hge
        · exact hlt
        · rw [hn k hk hge] at hp
          cases hp
      refine ⟨k, rfl, hk, hp, ?_⟩
      intro d hd
      rw [Nat.mod_eq_of_lt (by omega)] at hd
      by_cases hw : a + d < S
      · rw [Nat.mod_eq_of_lt hw]
        exact hn _ hw (by omega)
      · rw [show a + d = (a + d - S) + S by omega, Nat.add_mod_right, Nat.mod_eq_of_lt (by omega)]
        refine h.off hS (by omega) fun q => ?_
        have := next_least b _ _ _ hx q (by omega)
        omega
theorem Busy.zero (S : Nat) : Busy S Bits.zero (fun _ => false) := by
  refine ⟨zero_ok, fun k hk => ?_⟩
  rw [Bool.and_false]
  unfold Bits.at Bits.zero Bits.word
  split
  · exact Nat.zero_testBit _
  · split
    · exact Nat.zero_testBit _
    · split <;> exact Nat.zero_testBit _
theorem Busy.congr {p' : Nat → Bool} (h : Busy S b p) (he : ∀ k, k < S → p k = p' k) : Busy S b p' := ⟨h.ok, fun k hk => by
  rw [h.at_ k hk]
  by_cases hkS : k < S
  · rw [he k hkS]
  · rw [decide_eq_false hkS]
    rfl⟩
theorem Busy.put (h : Busy S b p) (_hS : S ≤ 256) {j : Nat} (hj : j < S) : Busy S (b.put (j : Int)) (updB p j true) := by
  refine ⟨h.ok.put _, fun k hk => ?_⟩
  rw [put_at b _ k hk, h.at_ k hk]
  by_cases hkj : k = j
  · subst hkj
    rw [updB_at, decide_eq_true hj]
    simp
  · rw [updB_ne _ _ hkj, decide_eq_false (show ¬ (j : Int) = (k : Int) by omega), Bool.or_false]
theorem drop_bit (x k s : Nat) (hk : k < 64) (hs : s < 64) : (x &&& (18446744073709551615 - 2 ^ k)).testBit s = (x.testBit s && !decide (k = s)) := by
  have hp := pow63 k hk
  have e2 : 18446744073709551615 - 2 ^ k = 2 ^ 64 - (2 ^ k + 1) := by simp
  rw [Nat.testBit_and, e2, Nat.testBit_two_pow_sub_succ hp, Nat.testBit_two_pow]
  simp [hs]
theorem drop_at (b : Bits) (j k : Nat) (hj : j < 256) (hk : k < 256) : (b.drop (j : Int)).at k = (b.at k && !decide (j = k)) := by
  unfold Bits.drop Bits.at
  rw [if_pos ⟨by omega, by omega⟩, Int.toNat_natCast, Bits.word_setw _ _ _ _ (by omega) (by omega)]
  by_cases hq : k / 64 = j / 64
  · rw [if_pos hq, drop_bit _ _ _ (by omega) (by omega), hq]
    by_cases hjk : j = k
    · subst hjk
      simp
    · rw [decide_eq_false (show ¬ j % 64 = k % 64 by omega), decide_eq_false hjk]
  · rw [if_neg hq, decide_eq_false (show ¬ j = k by intro e; subst e; exact hq rfl)]
    simp
theorem Busy.drop (h : Busy S b p) (hS : S ≤ 256) {j : Nat} (hj : j < S) : Busy S (b.drop (j : Int)) (updB p j false) := by
  refine ⟨h.ok.drop _, fun k hk => ?_⟩
  rw [drop_at b j k (by omega) hk, h.at_ k hk]
  by_cases hkj : k = j
  · subst hkj
    rw [updB_at]
    simp
  · rw [updB_ne _ _ hkj, decide_eq_false (show ¬ j = k by omega)]
    simp
end
end Go.Proofs.YtckkfbepclogcaaGreatDoor
