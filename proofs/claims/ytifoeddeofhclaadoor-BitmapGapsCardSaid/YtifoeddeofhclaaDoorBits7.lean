/- Layer 2 (bitmap): the reference's Next, Last and Round, walked. -/
import Derived.Test.YtifoeddeofhclaaDoorBits6
namespace Go.Proofs.YtifoeddeofhclaaDoor
open Go.RowKit
theorem ints_own {w : World} {base n : Nat} {v : Value} {l : List Int} (h : w.ownsRow base 3 1 v n (l.map fun x => Value.int .i64 x)) (hn : n = l.length) :
    ∃ A cap, v = .slice A l.length cap ∧ IntsAt w w.heap.size A l := by
  subst hn
  rcases h.2 with ⟨rfl, hl⟩ | ⟨g, cap, cur, rfl, hg, hh, hc, hm, hs, ht⟩
  · have : l = [] := List.eq_nil_of_length_eq_zero hl
    subst this
    exact ⟨none, 0, rfl, fun k hk => absurd hk (by simp)⟩
  · refine ⟨some ⟨g, 0, none⟩, cap, rfl, ?_⟩
    intro i hi
    have hb : Blk w g 3 cur := hh
    refine ⟨g, 0, rfl, hb.lt, ?_⟩
    have hu : (l.map fun x => Value.int .i64 x)[i]? = some (.int .i64 l[i]) := by simp [hi]
    rw [hb.cell, Nat.zero_add]
    rw [← ht, List.getElem?_take] at hu
    split at hu
    · simpa using hu
    · cases hu
def pairV (o : Option Int) : Value := .tuple #[.int .i64 (o.getD 0), .bool o.isSome]
def Bits.next (b : Bits) (i : Int) : Option Int := b.list.find? fun x => decide (i ≤ x)
def Bits.last (b : Bits) (i : Int) : Option Int := b.list.reverse.find? fun x => decide (x ≤ i)
def Bits.round (b : Bits) (i n : Int) : Option Int :=
  if i < 0 ∨ n ≤ i then none else
  match b.next i with
  | some x => if x < n then some x else (b.next 0).filter fun x => decide (x < n)
  | none => (b.next 0).filter fun x => decide (x < n)
theorem find_hit {α : Type} (l : List α) (p : α → Bool) (k : Nat) (hk : k < l.length) (h : (l.take k).find? p = none) (hp : p l[k] = true) : l.find? p = some l[k] := by
  have e : l = l.take k ++ (l[k] :: l.drop (k + 1)) := by rw [← List.drop_eq_getElem_cons hk, List.take_append_drop]
  conv => lhs; rw [e]
  rw [List.find?_append, h, List.find?_cons_of_pos hp]
  rfl
theorem find_step {α : Type} (l : List α) (p : α → Bool) (k : Nat) (hk : k < l.length) (h : (l.take k).find? p = none) (hp : p l[k] = false) : (l.take (k + 1)).find? p = none := by
  rw [List.take_succ_eq_append_getElem hk, List.find?_append, h]
  simp [hp]
theorem rev_hit {α : Type} (l : List α) (p : α → Bool) (k : Nat) (hk : k < l.length) (h : (l.drop (k + 1)).reverse.find? p = none) (hp : p l[k] = true) : l.reverse.find? p = some l[k] := by
  have e : l.reverse = (l.drop (k + 1)).reverse ++ ([l[k]] ++ (l.take k).reverse) := by
    have : l = l.take k ++ (l[k] :: l.drop (k + 1)) := by rw [← List.drop_eq_getElem_cons hk, List.take_append_drop]
    conv => lhs; rw [this]
    simp
  rw [e, List.find?_append, h]
  simp [hp]
theorem rev_step {α : Type} (l : List α) (p : α → Bool) (k : Nat) (hk : k < l.length) (h : (l.drop (k + 1)).reverse.find? p = none) (hp : p l[k] = false) : (l.drop k).reverse.find? p = none := by
  rw [List.drop_eq_getElem_cons hk, List.reverse_cons, List.find?_append, h]
  simp [hp]
theorem list_len (b : Bits) : b.list.length ≤ 256 := upl_len b 256
set_option maxHeartbeats 1000000 in
theorem rnext_any (b : Bits) (i : Int) (w : World) (hb : b.Ok) : Calls Tryd.prog 24 #[b.val, .int .i64 i] w fun e w' => e = .returned (pairV (b.next i)) ∧ Below w.heap.size w w' := by
  unfold Bits.next
  have hL := list_len b
  have hli := rlist_any b (w.alloc (.cells b.cells 24)) hb
  generalize b.list = l at *
  unfold Bits.val at hli ⊢
  go_enter Tryd.func24, Tryd.ntmps24
  go_wp2_with fail
  refine hli.mono ?_
  rintro e w1 ⟨v, rfl, hown, hb1⟩
  clear hli
  have hbl : Below w.heap.size w w1 := ((Below.refl _ _).alloc (Nat.le_refl _) _).trans (hb1.mono (by simp))
  clear hb1
  obtain ⟨A, cap, rfl, hI⟩ := ints_own hown rfl
  clear hown
  go_wp2_with fail
  go_loop [7] (fun i' => ∃ k : Nat, k ≤ l.length ∧ i' = .int .i64 k ∧ Hid ((l.take k).find? (fun x => decide (i ≤ x)) = none)) (fun i' => l.length - (intOf i').toNat)
  case atStart => exact ⟨0, by omega, rfl, Lib.hid (by simp)⟩
  case round =>
    obtain ⟨k, hk, rfl, hF⟩ := hrel
    by_cases hlt : k < l.length
    · obtain ⟨b1, o1, rfl, hb1, c1⟩ := hI k hlt
      by_cases hc : i ≤ l[k]
      · have hh := Lib.hid (find_hit l _ k hlt hF.out (decide_eq_true hc))
        generalize l[k] = x at *
        go_wp2
        exact bodyPost_ret (v := pairV (some x)) (by simp [results, Tryd.results24, go_sem, pairV]) rfl ⟨by rw [hh.out], hbl⟩
      · have hh := Lib.hid (find_step l _ k hlt hF.out (decide_eq_false hc))
        generalize l[k] = x at *
        go_wp2
        go_round
        case rel => exact ⟨k + 1, by omega, by go_num, hh⟩
        case measure => simp [intOf]; omega
    · have ht : l.take k = l := List.take_of_length_le (by omega)
      rw [ht] at hF
      clear ht
      go_wp2
      exact bodyPost_ret (v := pairV none) (by simp [results, Tryd.results24, go_sem, pairV]) rfl ⟨by rw [hF.out], hbl⟩
set_option maxHeartbeats 1000000 in
theorem rlast_any (b : Bits) (i : Int) (w : World) (hb : b.Ok) : Calls Tryd.prog 26 #[b.val, .int .i64 i] w fun e w' => e = .returned (pairV (b.last i)) ∧ Below w.heap.size w w' := by
  unfold Bits.last
  have hL := list_len b
  have hli := rlist_any b (w.alloc (.cells b.cells 24)) hb
  generalize b.list = l at *
  unfold Bits.val at hli ⊢
  go_enter Tryd.func26, Tryd.ntmps26
  go_wp2_with fail
  refine hli.mono ?_
  rintro e w1 ⟨v, rfl, hown, hb1⟩
  clear hli
  have hbl : Below w.heap.size w w1 := ((Below.refl _ _).alloc (Nat.le_refl _) _).trans (hb1.mono (by simp))
  clear hb1
  obtain ⟨A, cap, rfl, hI⟩ := ints_own hown rfl
  clear hown
  go_wp2_with fail
  go_loop [7] (fun i' => ∃ k : Nat, k ≤ l.length ∧ i' = .int .i64 ((k : Int) - 1) ∧ Hid ((l.drop k).reverse.find? (fun x => decide (x ≤ i)) = none)) (fun i' => (intOf i' + 1).toNat)
  case atStart => exact ⟨l.length, by omega, by go_num, Lib.hid (by simp)⟩
  case round =>
    obtain ⟨k, hk, rfl, hF⟩ := hrel
    by_cases hlt : 0 < k
    · obtain ⟨j, rfl⟩ : ∃ j, k = j + 1 := ⟨k - 1, by omega⟩
      have hjl : j < l.length := by omega
      obtain ⟨b1, o1, rfl, hb1, c1⟩ := hI j hjl
      have ej : ((j + 1 : Nat) : Int) - 1 = (j : Int) := by omega
      rw [ej]
      clear ej
      by_cases hc : l[j] ≤ i
      · have hh := Lib.hid (rev_hit l _ j hjl hF.out (decide_eq_true hc))
        generalize l[j] = x at *
        go_wp2
        exact bodyPost_ret (v := pairV (some x)) (by simp [results, Tryd.results26, go_sem, pairV]) rfl ⟨by rw [hh.out], hbl⟩
      · have hh := Lib.hid (rev_step l _ j hjl hF.out (decide_eq_false hc))
        generalize l[j] = x at *
        go_wp2
        go_round
        case rel => exact ⟨j, by omega, by go_num, hh⟩
        case measure => first | (simp [intOf]; done) | (simp [intOf]; omega)
    · obtain rfl : k = 0 := by omega
      rw [List.drop_zero] at hF
      go_wp2
      exact bodyPost_ret (v := pairV none) (by simp [results, Tryd.results26, go_sem, pairV]) rfl ⟨by rw [hF.out], hbl⟩
end Go.Proofs.YtifoeddeofhclaaDoor
