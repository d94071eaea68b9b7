/- Layer 2 (bitmap): what is in bits, what is put in, what is taken out: each contract at every index. -/
import Derived.Test.YtifoeddeofhclaaDoorBits4
namespace Go.Proofs.YtifoeddeofhclaaDoor
open Go.RowKit
def Bits.at (b : Bits) (n : Nat) : Bool := (b.word (n / 64)).testBit (n % 64)
def Bits.has (b : Bits) (i : Int) : Bool := decide (0 ≤ i ∧ i < 256) && b.at i.toNat
def Bits.put (b : Bits) (i : Int) : Bits := if 0 ≤ i ∧ i < 256 then b.setw (i.toNat / 64) (b.word (i.toNat / 64) ||| 2 ^ (i.toNat % 64)) else b
def Bits.drop (b : Bits) (i : Int) : Bits := if 0 ≤ i ∧ i < 256 then b.setw (i.toNat / 64) (b.word (i.toNat / 64) &&& (18446744073709551615 - 2 ^ (i.toNat % 64))) else b
theorem Bits.Ok.word {b : Bits} (h : b.Ok) (k : Nat) : b.word k < 2 ^ 64 := by
  unfold Bits.word
  have := h.h0
  have := h.h1
  have := h.h2
  have := h.h3
  split
  · assumption
  split
  · assumption
  split <;> assumption
theorem Bits.Ok.setw {b : Bits} (h : b.Ok) (k v : Nat) (hv : v < 2 ^ 64) : (b.setw k v).Ok := by
  have h0 := h.h0
  have h1 := h.h1
  have h2 := h.h2
  have h3 := h.h3
  unfold Bits.setw
  split
  · exact ⟨hv, h1, h2, h3⟩
  split
  · exact ⟨h0, hv, h2, h3⟩
  split
  · exact ⟨h0, h1, hv, h3⟩
  · exact ⟨h0, h1, h2, hv⟩
theorem Bits.word_setw (b : Bits) (k v j : Nat) (hk : k < 4) (hj : j < 4) : (b.setw k v).word j = if j = k then v else b.word j := by
  have H : k = 0 ∨ k = 1 ∨ k = 2 ∨ k = 3 := by omega
  have J : j = 0 ∨ j = 1 ∨ j = 2 ∨ j = 3 := by omega
  rcases H with rfl | rfl | rfl | rfl <;> rcases J with rfl | rfl | rfl | rfl <;> rfl
theorem pow63 (k : Nat) (h : k < 64) : 2 ^ k < 2 ^ 64 := Nat.pow_lt_pow_right (by omega) h
theorem Bits.Ok.put {b : Bits} (h : b.Ok) (i : Int) : (b.put i).Ok := by
  unfold Bits.put
  split
  · exact h.setw _ _ (Nat.or_lt_two_pow (h.word _) (pow63 _ (Nat.mod_lt _ (by omega))))
  · exact h
theorem Bits.Ok.drop {b : Bits} (h : b.Ok) (i : Int) : (b.drop i).Ok := by
  unfold Bits.drop
  split
  · exact h.setw _ _ (Nat.lt_of_le_of_lt Nat.and_le_left (h.word _))
  · exact h
theorem nat_int {i : Int} (h0 : 0 ≤ i) : i = ((i.toNat : Nat) : Int) := by omega
theorem has_any (b : Bits) (i : Int) (w : World) (hb : b.Ok) : Calls Tryd.prog 14 #[b.val, .int .i64 i] w fun e w' => e = .returned (.bool (b.has i)) ∧ Below w.heap.size w w' := by
  unfold Bits.has
  by_cases h : 0 ≤ i ∧ i < 256
  · obtain ⟨n, rfl⟩ := Int.eq_ofNat_of_zero_le h.1
    rw [decide_eq_true h]
    exact has_in b n w (by omega) hb
  · rw [decide_eq_false h]
    exact has_out b i w (by omega)
theorem rhas_any (b : Bits) (i : Int) (w : World) (hb : b.Ok) : Calls Tryd.prog 11 #[b.val, .int .i64 i] w fun e w' => e = .returned (.bool (b.has i)) ∧ Below w.heap.size w w' := by
  unfold Bits.has
  by_cases h : 0 ≤ i ∧ i < 256
  · obtain ⟨n, rfl⟩ := Int.eq_ofNat_of_zero_le h.1
    rw [decide_eq_true h]
    exact rhas_in b n w (by omega) hb
  · rw [decide_eq_false h]
    exact rhas_out b i w (by omega)
theorem put_any (b : Bits) (i : Int) (w : World) (hb : b.Ok) : Calls Tryd.prog 12 #[b.val, .int .i64 i] w fun e w' => e = .returned (b.put i).val ∧ Below w.heap.size w w' := by
  unfold Bits.put
  by_cases h : 0 ≤ i ∧ i < 256
  · obtain ⟨n, rfl⟩ := Int.eq_ofNat_of_zero_le h.1
    rw [if_pos h]
    exact put_in b n w (by omega) hb
  · rw [if_neg h]
    exact put_out b i w (by omega)
theorem drop_any (b : Bits) (i : Int) (w : World) (hb : b.Ok) : Calls Tryd.prog 13 #[b.val, .int .i64 i] w fun e w' => e = .returned (b.drop i).val ∧ Below w.heap.size w w' := by
  unfold Bits.drop
  by_cases h : 0 ≤ i ∧ i < 256
  · obtain ⟨n, rfl⟩ := Int.eq_ofNat_of_zero_le h.1
    rw [if_pos h]
    exact drop_in b n w (by omega) hb
  · rw [if_neg h]
    exact drop_out b i w (by omega)
theorem Bits.setw_word (b : Bits) (k : Nat) : b.setw k (b.word k) = b := by
  unfold Bits.setw Bits.word
  split
  · rfl
  split
  · rfl
  split <;> rfl
theorem or_same (x k : Nat) (h : x.testBit k = true) : x ||| 2 ^ k = x := by
  apply Nat.eq_of_testBit_eq
  intro i
  rw [Nat.testBit_or, Nat.testBit_two_pow]
  by_cases hi : k = i
  · subst hi; simp [h]
  · simp [hi]
theorem and_same (x k : Nat) (hx : x < 2 ^ 64) (hk : k < 64) (h : x.testBit k = false) : x &&& (18446744073709551615 - 2 ^ k) = x := by
  apply Nat.eq_of_testBit_eq
  intro i
  have hp := pow63 k hk
  have e2 : 18446744073709551615 - 2 ^ k = 2 ^ 64 - (2 ^ k + 1) := by simp
  rw [Nat.testBit_and, e2, Nat.testBit_two_pow_sub_succ hp, Nat.testBit_two_pow]
  by_cases hi : k = i
  · subst hi; simp [h]
  · by_cases h64 : 64 ≤ i
    · have : x.testBit i = false := Nat.testBit_lt_two_pow (Nat.lt_of_lt_of_le hx (Nat.pow_le_pow_right (by omega) h64))
      simp [this]
    · simp [hi]
      intro _
      omega
theorem rput_on (b : Bits) (i : Int) (w : World) (hb : b.Ok) : Calls Tryd.prog 10 #[b.val, .int .i64 i, .bool true] w fun e w' => e = .returned (b.put i).val ∧ Below w.heap.size w w' := by
  unfold Bits.put
  by_cases h : 0 ≤ i ∧ i < 256
  · obtain ⟨n, rfl⟩ := Int.eq_ofNat_of_zero_le h.1
    rw [if_pos h]
    cases hbit : (b.word (n / 64)).testBit (n % 64) with
    | true =>
      rw [show ((n : Int)).toNat = n from rfl, or_same _ _ hbit, Bits.setw_word]
      exact rput_same b n true w (by omega) hb hbit
    | false => exact rput_add b n w (by omega) hb hbit
  · rw [if_neg h]
    exact rput_out b i true w (by omega)
theorem rput_off (b : Bits) (i : Int) (w : World) (hb : b.Ok) : Calls Tryd.prog 10 #[b.val, .int .i64 i, .bool false] w fun e w' => e = .returned (b.drop i).val ∧ Below w.heap.size w w' := by
  unfold Bits.drop
  by_cases h : 0 ≤ i ∧ i < 256
  · obtain ⟨n, rfl⟩ := Int.eq_ofNat_of_zero_le h.1
    rw [if_pos h]
    cases hbit : (b.word (n / 64)).testBit (n % 64) with
    | false =>
      rw [show ((n : Int)).toNat = n from rfl, and_same _ _ (hb.word _) (Nat.mod_lt _ (by omega)) hbit, Bits.setw_word]
      exact rput_same b n false w (by omega) hb hbit
    | true => exact rput_sub b n w (by omega) hb hbit
  · rw [if_neg h]
    exact rput_out b i false w (by omega)
/-- Ints in memory. -/
def IntsAt (w : World) (B : Nat) (A : Option Addr) (l : List Int) : Prop := ∀ k (h : k < l.length), ∃ b o, A = some ⟨b, o, none⟩ ∧ b < B ∧ w.cell? ⟨b, o + k, none⟩ = some (.int .i64 l[k])
theorem IntsAt.below {w w' : World} {B B' : Nat} {A : Option Addr} {l : List Int} (h : IntsAt w B A l) (hb : Below B' w w') (hB : B ≤ B') : IntsAt w' B A l := fun k hk => by
  obtain ⟨b, o, rfl, h1, h2⟩ := h k hk
  exact ⟨b, o, rfl, h1, (hb.cell (p := ⟨b, o + k, none⟩) (by simp; omega)).trans h2⟩
theorem IntsAt.mono {w : World} {B B' : Nat} {A : Option Addr} {l : List Int} (h : IntsAt w B A l) (hB : B ≤ B') : IntsAt w B' A l := fun k hk => by
  obtain ⟨b, o, rfl, h1, h2⟩ := h k hk
  exact ⟨b, o, rfl, by omega, h2⟩
set_option maxRecDepth 100000 in
theorem same_any (A C : Option Addr) (l m : List Int) (c d : Nat) (w : World) (B : Nat) (h : IntsAt w B A l) (k : IntsAt w B C m) (hl : l.length ≤ 1000000) (hm : m.length ≤ 1000000) (hB : B ≤ w.heap.size) :
    Calls Tryd.prog 17 #[.slice A l.length c, .slice C m.length d] w fun e w' => e = .returned (.bool (decide (l = m))) ∧ Below w.heap.size w w' := by
  by_cases hlen : l.length = m.length
  · have hll : ((l.length : Int) != (m.length : Int)) = false := by simp [hlen]
    have HL := Lib.hid hlen
    clear hlen
    go_enter Tryd.func17, Tryd.ntmps17
    go_wp2
    go_loopw [5] (fun i wr => ∃ j : Nat, j ≤ l.length ∧ i = .int .i64 j ∧ l.take j = m.take j ∧ Below w.heap.size w wr) (fun i _ => l.length - (intOf i).toNat)
    case atStart => exact ⟨0, by omega, rfl, rfl, Below.refl _ _⟩
    case round =>
      obtain ⟨j, hj, rfl, ht, hb⟩ := hrel
      by_cases hlt : j < l.length
      · obtain ⟨b1, o1, rfl, hb1, c1⟩ := (h.below hb hB) j hlt
        obtain ⟨b2, o2, rfl, hb2, c2⟩ := (k.below hb hB) j (by have := HL.out; omega)
        have hjm : j < m.length := by have := HL.out; omega
        have HT := Lib.hid ht
        clear ht
        by_cases he : l[j] = m[j]'(by have := HL.out; omega)
        · have HT2 : Hid (l.take (j + 1) = m.take (j + 1)) := Lib.hid (by rw [List.take_succ_eq_append_getElem hlt, List.take_succ_eq_append_getElem (by have := HL.out; omega : j < m.length), HT.out, he])
          have he2 : (l[j] != m[j]'(by have := HL.out; omega)) = false := by simp [he]
          generalize l[j] = x at *
          generalize m[j]'_ = y at *
          go_wp2
          refine still_all (by kernel_rfl) (by kernel_rfl) ?_
          repeat still_step
          refine wpStill_nil ?_
          go_wp2
          go_roundw
          case rel => exact ⟨j + 1, by omega, by go_num, HT2.out, hb.drew⟩
          case measure => simp [intOf]; omega
        · have hne : l ≠ m := fun e => he (by subst e; rfl)
          have he2 : (l[j] != m[j]'(by have := HL.out; omega)) = true := by simp [he]
          generalize l[j] = x at *
          generalize m[j]'_ = y at *
          go_wp2
          refine still_all (by kernel_rfl) (by kernel_rfl) ?_
          repeat still_step
          refine wpStill_nil ?_
          go_wp2
          go_ret
          exact ⟨ret_bool (decide_eq_false hne).symm, hb.drew⟩
      · have : l = m := by have := HL.out; rw [List.take_of_length_le (by omega), List.take_of_length_le (by omega)] at ht; exact ht
        have HT := Lib.hid this
        clear ht this
        go_wp2
        go_ret
        exact ⟨ret_bool (decide_eq_true HT.out).symm, hb⟩
  · have hll : ((l.length : Int) != (m.length : Int)) = true := by simp; omega
    have hne : l ≠ m := fun e => hlen (by rw [e])
    go_enter Tryd.func17, Tryd.ntmps17
    go_wp2
    go_ret
    exact ⟨ret_bool (decide_eq_false hne).symm, Below.refl _ _⟩
end Go.Proofs.YtifoeddeofhclaaDoor
