/- Layer 2 (bitmap): BitmapTwo, BitmapLists answers true, whatever it is asked. -/
import Derived.Test.YtifoeddeofhclaaDoorTwo
namespace Go.Proofs.YtifoeddeofhclaaDoor
open Go.RowKit
theorem list_le (b : Bits) : b.list.length ≤ 256 := by
  unfold Bits.list Bits.upl
  rw [List.length_map]
  exact Nat.le_trans (List.length_filter_le _ _) (by simp)
theorem count_le (b : Bits) : b.count ≤ 256 := by rw [count_list]; exact list_le b
theorem lists_walk (b : Bits) (A : Option Addr) (l : List Int) (c : Nat) (w : World) (hb : b.Ok) (hT : TabAt w) (hI : IntsAt w w.heap.size A l) : Calls Tryd.prog 4 #[b.val, .slice A l.length c] w fun e w' => e = .returned (.bool true) ∧ Below w.heap.size w w' := by
  by_cases h : (300 : Int) < (l.length : Int)
  · exact lists_long b A l.length c w hT h
  · exact lists_core b (ofL l) A l b.list c w hb hT hI (by omega) (list_le b) (Lib.hid rfl) (Lib.hid rfl) (Lib.hid (of_list b hb)) (Lib.hid (count_list b))
theorem two_walk (a b : Bits) (i : Int) (w : World) (ha : a.Ok) (hb : b.Ok) (hT : TabAt w) : Calls Tryd.prog 5 #[a.val, b.val, .int .i64 i] w fun e w' => e = .returned (.bool true) ∧ Below w.heap.size w w' := by
  have lc : a.count ≤ 256 ∧ b.count ≤ 256 ∧ (a.mix (fun x y => x &&& y) 4 b).count ≤ 256 ∧ (a.mix (fun x y => x ||| y) 4 b).count ≤ 256 := ⟨count_le _, count_le _, count_le _, count_le _⟩
  have hc := (count_two a b).symm
  have hz := has_and a b i
  have hu := has_or a b i
  cases hx : a.has i <;> cases hy : b.has i <;> rw [hx, hy] at hz hu
  · exact two_ff a b _ _ i _ _ _ _ w ha hb (mix_and_ok a b ha hb) (mix_or_ok a b ha hb) hT lc hc (Lib.hid rfl) (Lib.hid (mix_and_comm b a)) (Lib.hid rfl) (Lib.hid (mix_or_comm b a)) (Lib.hid hx) (Lib.hid hy) (Lib.hid hz) (Lib.hid hu) (Lib.hid rfl) (Lib.hid rfl) (Lib.hid rfl) (Lib.hid rfl)
  · exact two_ft a b _ _ i _ _ _ _ w ha hb (mix_and_ok a b ha hb) (mix_or_ok a b ha hb) hT lc hc (Lib.hid rfl) (Lib.hid (mix_and_comm b a)) (Lib.hid rfl) (Lib.hid (mix_or_comm b a)) (Lib.hid hx) (Lib.hid hy) (Lib.hid hz) (Lib.hid hu) (Lib.hid rfl) (Lib.hid rfl) (Lib.hid rfl) (Lib.hid rfl)
  · exact two_tf a b _ _ i _ _ _ _ w ha hb (mix_and_ok a b ha hb) (mix_or_ok a b ha hb) hT lc hc (Lib.hid rfl) (Lib.hid (mix_and_comm b a)) (Lib.hid rfl) (Lib.hid (mix_or_comm b a)) (Lib.hid hx) (Lib.hid hy) (Lib.hid hz) (Lib.hid hu) (Lib.hid rfl) (Lib.hid rfl) (Lib.hid rfl) (Lib.hid rfl)
  · exact two_tt a b _ _ i _ _ _ _ w ha hb (mix_and_ok a b ha hb) (mix_or_ok a b ha hb) hT lc hc (Lib.hid rfl) (Lib.hid (mix_and_comm b a)) (Lib.hid rfl) (Lib.hid (mix_or_comm b a)) (Lib.hid hx) (Lib.hid hy) (Lib.hid hz) (Lib.hid hu) (Lib.hid rfl) (Lib.hid rfl) (Lib.hid rfl) (Lib.hid rfl)
end Go.Proofs.YtifoeddeofhclaaDoor
