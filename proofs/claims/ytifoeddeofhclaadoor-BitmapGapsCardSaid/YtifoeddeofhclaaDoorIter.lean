/- Layer 2 (bitmap): the iterator each, walked against every loop body. -/
import Derived.RangeFuncNested
import Derived.RangeFuncBound
import Derived.RangeFuncCalls
import Derived.RangeFuncLeaves
import Derived.RangeFuncBox
import Derived.Maps.AppendAt
import Derived.Shelf.Abstract
import Derived.Shelf.AbstractIn
import Derived.Shelf.RegionOpen
import Derived.WalkKit
import Derived.OwnWalkIn
import Derived.TacticsInMore
import Derived.LoopNIn
import Derived.LoopIn
import Derived.Test.YtifoeddeofhclaaDoorBits8
namespace Go.Proofs.YtifoeddeofhclaaDoor
open Go.RowKit Go.Shelf
attribute [local go_sem] Oper.semAt_some
@[go_sem] theorem callVal_yield (l : Nat) (args a c : Array Value) : callVal (.func (.yield l) a c) args = Instr.yield l (a ++ args) := rfl
theorem upl_word (b : Bits) (k : Nat) : b.upl (64 * (k + 1)) = b.upl (64 * k) ++ (onesOf 64 (b.word k)).map fun t : Nat => 64 * (k : Int) + (t : Int) := by
  unfold Bits.upl onesOf
  rw [show 64 * (k + 1) = 64 * k + 64 by omega, List.range_add, List.filter_append, List.map_append, List.filter_map, List.map_map]
  congr 1
  have e : (b.at ∘ fun x => 64 * k + x) = fun x => b.at (64 * k + x) := rfl
  have e2 : (List.range 64).filter (b.at ∘ fun x => 64 * k + x) = (List.range 64).filter fun i => (b.word k).testBit i := by
    apply List.filter_congr
    intro x hx
    have := List.mem_range.1 hx
    simp only [Function.comp, Bits.at]
    rw [show (64 * k + x) / 64 = k by omega, show (64 * k + x) % 64 = x by omega]
  rw [e2]
  apply List.map_congr_left
  intro x _
  simp
theorem upl_pre (b : Bits) (m n : Nat) (h : m ≤ n) : b.upl m <+: b.upl n := by
  obtain ⟨d, rfl⟩ := Nat.exists_eq_add_of_le h
  unfold Bits.upl
  rw [List.range_add, List.filter_append, List.map_append]
  exact List.prefix_append _ _
theorem cell_word (b : Bits) (k : Nat) (h : k < 4) : b.cells[k]? = some (.int .u64 (b.word k : Nat)) := by
  have H : k = 0 ∨ k = 1 ∨ k = 2 ∨ k = 3 := by omega
  rcases H with rfl | rfl | rfl | rfl <;> rfl
theorem tz_x (x t q : Nat) (w : World) (e : x = 2 ^ (t + 1) * q + 2 ^ t) (hx : x < 2 ^ 64) (hT : TabAt w) : Calls Tryd.prog 36 #[.int .u64 (x : Nat)] w fun e w' => e = .returned (.int .i64 t) ∧ w = w' := by
  subst e
  exact tz_any t q w hx hT
theorem TabAt.below {w w' : World} {B : Nat} (h : TabAt w) (hb : Below B w w') (hB : 0 < B) : TabAt w' := fun j hj => (hb.cell (p := ⟨0, j, none⟩) hB).trans (h j hj)
set_option maxRecDepth 100000 in
set_option maxHeartbeats 1000000 in
theorem each1_in (n : Nat) (hn : 1 ≤ n) (l Bn n₀ : Nat) (b : Bits) (hb : b.Ok) (J Jx : List Int → World → Prop)
    (hY : ∀ pre x W, J pre W → pre.length < 256 → YieldAt Fence.wide (n - 1) Tryd.prog l #[.int .i64 x] W fun e W' =>
      (e = .returned (.bool true) ∧ J (pre ++ [x]) W' ∧ Below n₀ W W') ∨ (e = .returned (.bool false) ∧ Jx (pre ++ [x]) W'))
    (W : World) (hB : Blk W Bn 24 b.cells) (hBn : Bn < n₀) (hg0 : 0 < n₀) (hT : TabAt W) (h0 : J [] W) :
    CallsIn Fence.wide n Tryd.prog 35 #[.func (.yield l) #[] #[], .pointer (some ⟨Bn, 0, none⟩)] W fun e W' => (∃ v, e = .returned v) ∧
      ((∃ ys, ys = b.list ∧ J ys W') ∨ (∃ pre, pre <+: b.list ∧ Jx pre W')) := by
  refine callsIn_of_wp Tryd.func35 rfl trivial ?_ rfl
  simp only [Tryd.ntmps35, List.size_toArray, List.length_cons, List.length_nil, Nat.reduceAdd, Nat.reduceSub, Array.replicate_succ, Array.replicate_zero, List.push_toArray, List.append_toArray, List.nil_append, List.cons_append]
  gi_wp2
  gi_loopw [5] (fun p wr => ∃ k : Nat, k ≤ 4 ∧ p = .int .i64 k ∧ Blk wr Bn 24 b.cells ∧ Hid (TabAt wr) ∧ J (b.upl (64 * k)) wr)
    (fun p _ => 4 - (intOf p).toNat)
  case atStart =>
    exact ⟨0, by omega, rfl, hB, Lib.hid hT, h0⟩
  case round =>
    obtain ⟨k, hk, rfl, hBr, hTr, hJ⟩ := hrel
    by_cases hk4 : k < 4
    · have hcell : wr.cell? ⟨Bn, k, none⟩ = some (.int .u64 (b.word k : Nat)) := (hBr.cell k).trans (cell_word b k hk4)
      have hup := Lib.hid (upl_word b k)
      have hd : decide ((k : Int) < 4) = true := by simp; omega
      have hlt := hb.word k
      simp only [Nat.reducePow] at hlt
      gi_wp2
      have HK := Lib.hid hk4
      gi_loopw [4] (fun p wr => ∃ (x : Nat) (pre : List Int), p = .int .u64 x ∧ x < 18446744073709551616 ∧ Hid (pre ++ (onesOf 64 x).map (fun t : Nat => 64 * (k : Int) + (t : Int)) = b.upl (64 * (k + 1))) ∧ Blk wr Bn 24 b.cells ∧ Hid (TabAt wr) ∧ J pre wr)
        (fun p _ => (intOf p).toNat)
      case atStart => exact ⟨b.word k, _, rfl, hlt, Lib.hid hup.out.symm, hBr, hTr, hJ⟩
      case round =>
        clear hBr hTr hJ hcell hlt
        obtain ⟨x, pre, rfl, hx, hS, hBr, hTr, hJ⟩ := hrel
        by_cases hx0 : x = 0
        · subst hx0
          have hS2 : Hid (pre = b.upl (64 * (k + 1))) := Lib.hid (by have := hS.out; rw [ones_zero] at this; simpa using this)
          gi_wp2
          go_roundw
          case rel => exact ⟨k + 1, by have := HK.out; omega, by go_num, hBr, hTr, by rw [← hS2.out]; exact hJ⟩
          case measure => have := HK.out; simp [intOf]; omega
        · obtain ⟨t, q, hq⟩ := low_form x hx0
          have hx64 : x < 2 ^ 64 := by simpa using hx
          have ht : t < 64 := by
            rcases Nat.lt_or_ge t 64 with h | h
            · exact h
            · have h1 := Nat.pow_le_pow_right (n := 2) (by omega) h
              omega
          have hcl : x &&& (x - 1) = 2 ^ (t + 1) * q := by rw [hq]; exact clear_low t q
          have hS2 : Hid ((pre ++ [64 * (k : Int) + (t : Int)]) ++ (onesOf 64 (x &&& (x - 1))).map (fun t : Nat => 64 * (k : Int) + (t : Int)) = b.upl (64 * (k + 1))) := Lib.hid (by
            have := hS.out
            rw [hq, ones_low t q 64 ht] at this
            rw [hcl, ← this]
            simp)
          have hA : bits BinOp.and IntKind.u64 (x : Int) ((x : Int) - 1) = ((x &&& (x - 1) : Nat) : Int) := by
            rw [show ((x : Int) - 1) = ((x - 1 : Nat) : Int) by omega, u64_and_nat _ _ hx (by omega)]
          have hlt2 : x &&& (x - 1) < x := by have := and_le x (x - 1); omega
          have hlen : pre.length < 256 := by
            have h1 := congrArg List.length hS2.out
            have h2 := upl_len b (64 * (k + 1))
            have h3 := HK.out
            simp only [List.length_append, List.length_cons, List.length_nil] at h1
            omega
          have hpre : Hid (pre ++ [64 * (k : Int) + (t : Int)] <+: b.list) := Lib.hid ((List.prefix_append _ _).trans (hS2.out ▸ upl_pre b (64 * (k + 1)) 256 (by have := HK.out; omega)))
          have hQ := Lib.hid hq
          clear hS hcl hq
          obtain ⟨fn, tmps, assign, body, hy, hR⟩ := hY pre (64 * (k : Int) + (t : Int)) wr hJ hlen
          have htz := tz_x x t q wr hQ.out hx64 hTr.out
          clear hY
          gi_wp2_with (refine ⟨trivial, ?_⟩; gi_at_call 36; refine (callsIn_wide.2 htz).mono ?_; rintro e w' ⟨rfl, rfl⟩)
          refine hR.mono ?_
          rintro e W3 (⟨rfl, hJ3, hk3⟩ | ⟨rfl, hJx3⟩)
          · have hB3 : Blk W3 Bn 24 b.cells := Blk.below hBr hk3 hBn
            have hT3 : Hid (TabAt W3) := Lib.hid (hTr.out.below hk3 hg0)
            gi_wp2
            go_roundw
            case rel => exact ⟨_, _, rfl, by omega, hS2, hB3, hT3, hJ3⟩
            case measure => simp [intOf]; omega
          · gi_wp2
            refine bodyPost_ret (results_none rfl _ _ _) rfl ?_
            exact ⟨⟨_, rfl⟩, .inr ⟨_, hpre.out, hJx3⟩⟩
    · obtain rfl : k = 4 := by omega
      gi_wp2
      go_end0
      exact ⟨⟨_, rfl⟩, .inl ⟨_, rfl, hJ⟩⟩
end Go.Proofs.YtifoeddeofhclaaDoor
