/- Part 11: the texts Iter Seq Next Next2 Plain2 Round, laid end to end by a program. -/
import Derived.RangeFuncNested
import Derived.RangeFuncBound
import Derived.RangeFuncCalls
import Derived.RangeFuncLeaves
import Derived.RangeFuncBox
import Derived.Maps.AppendAt
import Derived.Shelf.Abstract
import Derived.Shelf.AbstractIn
import Derived.Shelf.RegionOpen
import Derived.WalkKit
import Derived.OwnWalkIn
import Derived.TacticsInMore
import Derived.LoopNIn
import Derived.LoopIn
import Derived.Test.YtckkfbepclogcaaGreatDoorPk1
namespace Go.Proofs.YtckkfbepclogcaaGreatDoor
open Go.RowKit Go.Shelf
attribute [local go_sem] Oper.semAt_some
@[go_sem] theorem callVal_yield (l : Nat) (args a c : Array Value) : callVal (.func (.yield l) a c) args = Instr.yield l (a ++ args) := rfl
theorem upl_word (b : Bits) (k : Nat) : b.upl (64 * (k + 1)) = b.upl (64 * k) ++ (onesOf 64 (b.word k)).map fun t : Nat => 64 * (k : Int) + (t : Int) := by
  unfold Bits.upl onesOf
  rw [show 64 * (k + 1) = 64 * k + 64 by omega, List.range_add, List.filter_append, List.map_append, List.filter_map, List.map_map]
  congr 1
  have e : (b.at ∘ fun x => 64 * k + x) = fun x => b.at (64 * k + x) := rfl
  have e2 : (List.range 64).filter (b.at ∘ fun x => 64 * k + x) = (List.range 64).filter fun i => (b.word k).testBit i := by
    apply List.filter_congr
    intro x hx
    have := List.mem_range.1 hx
    simp only [Function.comp, Bits.at]
    rw [show (64 * k + x) / 64 = k by omega, show (64 * k + x) % 64 = x by omega]
  rw [e2]
  apply List.map_congr_left
  intro x _
  simp
theorem upl_pre (b : Bits) (m n : Nat) (h : m ≤ n) : b.upl m <+: b.upl n := by
  obtain ⟨d, rfl⟩ := Nat.exists_eq_add_of_le h
  unfold Bits.upl
  rw [List.range_add, List.filter_append, List.map_append]
  exact List.prefix_append _ _
theorem cell_word (b : Bits) (k : Nat) (h : k < 4) : b.cells[k]? = some (.int .u64 (b.word k : Nat)) := by
  have H : k = 0 ∨ k = 1 ∨ k = 2 ∨ k = 3 := by omega
  rcases H with rfl | rfl | rfl | rfl <;> rfl
theorem tz_x (x t q : Nat) (w : World) (e : x = 2 ^ (t + 1) * q + 2 ^ t) (hx : x < 2 ^ 64) (hT : TabAt w) : Calls Tryz.prog 129 #[.int .u64 (x : Nat)] w fun e w' => e = .returned (.int .i64 t) ∧ w = w' := by
  subst e
  exact tz_any t q w hx hT
theorem TabAt.below {w w' : World} {B : Nat} (h : TabAt w) (hb : Below B w w') (hB : 0 < B) : TabAt w' := fun j hj => (hb.cell (p := ⟨0, j, none⟩) hB).trans (h j hj)
set_option maxRecDepth 100000 in
set_option maxHeartbeats 1000000 in
theorem each1_in (n : Nat) (hn : 1 ≤ n) (l Bn n₀ : Nat) (b : Bits) (hb : b.Ok) (J Jx : List Int → World → Prop)
    (hY : ∀ pre x W, J pre W → pre.length < 256 → YieldAt Fence.wide (n - 1) Tryz.prog l #[.int .i64 x] W fun e W' =>
      (e = .returned (.bool true) ∧ J (pre ++ [x]) W' ∧ Below n₀ W W') ∨ (e = .returned (.bool false) ∧ Jx (pre ++ [x]) W'))
    (W : World) (hB : Blk W Bn 70 b.cells) (hBn : Bn < n₀) (hg0 : 0 < n₀) (hT : TabAt W) (h0 : J [] W) :
    CallsIn Fence.wide n Tryz.prog 128 #[.func (.yield l) #[] #[], .pointer (some ⟨Bn, 0, none⟩)] W fun e W' => (∃ v, e = .returned v) ∧
      ((∃ ys, ys = b.list ∧ J ys W') ∨ (∃ pre, pre <+: b.list ∧ Jx pre W')) := by
  refine callsIn_of_wp Tryz.func128 rfl trivial ?_ rfl
  simp only [Tryz.ntmps128, List.size_toArray, List.length_cons, List.length_nil, Nat.reduceAdd, Nat.reduceSub, Array.replicate_succ, Array.replicate_zero, List.push_toArray, List.append_toArray, List.nil_append, List.cons_append]
  gi_wp2
  gi_loopw [5] (fun p wr => ∃ k : Nat, k ≤ 4 ∧ p = .int .i64 k ∧ Blk wr Bn 70 b.cells ∧ Hid (TabAt wr) ∧ J (b.upl (64 * k)) wr)
    (fun p _ => 4 - (intOf p).toNat)
  case atStart =>
    exact ⟨0, by omega, rfl, hB, Lib.hid hT, h0⟩
  case round =>
    obtain ⟨k, hk, rfl, hBr, hTr, hJ⟩ := hrel
    by_cases hk4 : k < 4
    · have hcell : wr.cell? ⟨Bn, k, none⟩ = some (.int .u64 (b.word k : Nat)) := (hBr.cell k).trans (cell_word b k hk4)
      have hup := Lib.hid (upl_word b k)
      have hd : decide ((k : Int) < 4) = true := by simp; omega
      have hlt := hb.word k
      simp only [Nat.reducePow] at hlt
      gi_wp2
      have HK := Lib.hid hk4
      gi_loopw [4] (fun p wr => ∃ (x : Nat) (pre : List Int), p = .int .u64 x ∧ x < 18446744073709551616 ∧ Hid (pre ++ (onesOf 64 x).map (fun t : Nat => 64 * (k : Int) + (t : Int)) = b.upl (64 * (k + 1))) ∧ Blk wr Bn 70 b.cells ∧ Hid (TabAt wr) ∧ J pre wr)
        (fun p _ => (intOf p).toNat)
      case atStart => exact ⟨b.word k, _, rfl, hlt, Lib.hid hup.out.symm, hBr, hTr, hJ⟩
      case round =>
        clear hBr hTr hJ hcell hlt
        obtain ⟨x, pre, rfl, hx, hS, hBr, hTr, hJ⟩ := hrel
        by_cases hx0 : x = 0
        · subst hx0
          have hS2 : Hid (pre = b.upl (64 * (k + 1))) := Lib.hid (by have := hS.out; rw [ones_zero] at this; simpa using this)
          gi_wp2
          go_roundw
          case rel => exact ⟨k + 1, by have := HK.out; omega, by go_num, hBr, hTr, by rw [← hS2.out]; exact hJ⟩
          case measure => have := HK.out; simp [intOf]; omega
        · obtain ⟨t, q, hq⟩ := low_form x hx0
          have hx64 : x < 2 ^ 64 := by simpa using hx
          have ht : t < 64 := by
            rcases Nat.lt_or_ge t 64 with h | h
            · exact h
            · have h1 := Nat.pow_le_pow_right (n := 2) (by omega) h
              omega
          have hcl : x &&& (x - 1) = 2 ^ (t + 1) * q := by rw [hq]; exact clear_low t q
          have hS2 : Hid ((pre ++ [64 * (k : Int) + (t : Int)]) ++ (onesOf 64 (x &&& (x - 1))).map (fun t : Nat => 64 * (k : Int) + (t : Int)) = b.upl (64 * (k + 1))) := Lib.hid (by
            have := hS.out
            rw [hq, ones_low t q 64 ht] at this
            rw [hcl, ← this]
            simp)
          have hA : bits BinOp.and IntKind.u64 (x : Int) ((x : Int) - 1) = ((x &&& (x - 1) : Nat) : Int) := by
            rw [show ((x : Int) - 1) = ((x - 1 : Nat) : Int) by omega, u64_and_nat _ _ hx (by omega)]
          have hlt2 : x &&& (x - 1) < x := by have := and_le x (x - 1); omega
          have hlen : pre.length < 256 := by
            have h1 := congrArg List.length hS2.out
            have h2 := upl_len b (64 * (k + 1))
            have h3 := HK.out
            simp only [List.length_append, List.length_cons, List.length_nil] at h1
            omega
          have hpre : Hid (pre ++ [64 * (k : Int) + (t : Int)] <+: b.list) := Lib.hid ((List.prefix_append _ _).trans (hS2.out ▸ upl_pre b (64 * (k + 1)) 256 (by have := HK.out; omega)))
          have hQ := Lib.hid hq
          clear hS hcl hq
          obtain ⟨fn, tmps, assign, body, hy, hR⟩ := hY pre (64 * (k : Int) + (t : Int)) wr hJ hlen
          have htz := tz_x x t q wr hQ.out hx64 hTr.out
          clear hY
          gi_wp2_with (refine ⟨trivial, ?_⟩; gi_at_call 129; refine (callsIn_wide.2 htz).mono ?_; rintro e w' ⟨rfl, rfl⟩)
          refine hR.mono ?_
          rintro e W3 (⟨rfl, hJ3, hk3⟩ | ⟨rfl, hJx3⟩)
          · have hB3 : Blk W3 Bn 70 b.cells := Blk.below hBr hk3 hBn
            have hT3 : Hid (TabAt W3) := Lib.hid (hTr.out.below hk3 hg0)
            gi_wp2
            go_roundw
            case rel => exact ⟨_, _, rfl, by omega, hS2, hB3, hT3, hJ3⟩
            case measure => simp [intOf]; omega
          · gi_wp2
            refine bodyPost_ret (results_none rfl _ _ _) rfl ?_
            exact ⟨⟨_, rfl⟩, .inr ⟨_, hpre.out, hJx3⟩⟩
    · obtain rfl : k = 4 := by omega
      gi_wp2
      go_end0
      exact ⟨⟨_, rfl⟩, .inl ⟨_, rfl, hJ⟩⟩
end Go.Proofs.YtckkfbepclogcaaGreatDoor
namespace Go.Proofs.YtckkfbepclogcaaGreatDoor
open Go.RowKit Go.Shelf
attribute [local go_sem] Oper.semAt_some
theorem each_stops (n : Nat) (hn : 1 ≤ n) (Bn n₀ : Nat) (b : Bits) (hb : b.Ok) (w : World) (hB : Blk w Bn 70 b.cells) (hBn : Bn < n₀) (hg0 : 0 < n₀) (hn₀ : n₀ ≤ w.heap.size) (hT : TabAt w) :
    SeqStopsK Fence.wide n Tryz.prog 128 #[.pointer (some ⟨Bn, 0, none⟩)] (fun x : Int => #[Value.int .i64 x]) (Below n₀) (fun ys => ys = b.list) (fun pre => pre <+: b.list) 256 w := fun l J Jx W hW _ _ hY h0 =>
  each1_in n hn l Bn n₀ b hb J Jx hY W (hB.below hW hB.lt) hBn hg0 (hT.below hW (by omega)) h0
theorem each_any (b : Bits) (w : World) : Calls Tryz.prog 120 #[b.val] w fun e w' => e = .returned (.func (.func 128) #[] #[.pointer (some ⟨w.heap.size, 0, none⟩)]) ∧ w' = w.alloc (.cells b.cells 70) := by
  unfold Bits.val
  go_enter Tryz.func120, Tryz.ntmps120
  go_wp2
  go_ret
  exact ⟨rfl, rfl⟩
set_option maxRecDepth 100000 in
set_option maxHeartbeats 2000000 in
theorem appseq_in (n : Nat) (hn : 3 ≤ n) (Bn : Nat) (b : Bits) (hb : b.Ok) (w : World) (hB : Blk w Bn 70 b.cells) (hT : TabAt w) :
    CallsIn Fence.wide n Tryz.prog 102 #[.slice none 0 0, .func (.func 128) #[] #[.pointer (some ⟨Bn, 0, none⟩)]] w fun e W' => ∃ v, e = .returned v ∧ W'.ownsRow w.heap.size 3 1 v b.list.length (b.list.map (Value.int .i64)) ∧ Below w.heap.size w W' := by
  have h1 : 1 ≤ n := by omega
  have hg0 : 0 < w.heap.size := by
    have := hT 0 (by omega)
    rcases Nat.lt_or_ge 0 w.heap.size with h | h
    · exact h
    · exact absurd this (by rw [World.cell?, Array.getElem?_eq_none h]; simp)
  have hBlt := hB.lt
  obtain ⟨i0, hi, hz0, hz1, hz2⟩ := info_parts info_int
  refine callsIn_of_wp_marks Tryz.func102 rfl trivial ?_ rfl
  simp only [Tryz.ntmps102, List.size_toArray, List.length_cons, List.length_nil, Nat.reduceAdd, Nat.reduceSub, Array.replicate_succ, Array.replicate_zero, List.push_toArray, List.append_toArray, List.nil_append, List.cons_append]
  gi_wp2
  have bO := Boxed.new w 104 (.slice none 0 0)
  have hB0 : Below w.heap.size w (w.alloc (.cells #[.slice none 0 0] 104)) := (Below.refl _ w).alloc (Nat.le_refl _) _
  refine wpIn_rangeFunc_ownG rfl h1 (gf := 128) (lb := #[.pointer (some ⟨Bn, 0, none⟩)]) rfl trivial (enters_of Tryz.func128 (by kernel_rfl) rfl)
    (each_stops (n - 1) (by omega) Bn w.heap.size b hb _ (hB.alloc _) hBlt hg0 (by simp) (hT.below hB0 hg0)) belowK_t (belowK_b (by simp)) (Below.refl _ _) (fun _ => rfl)
    (fun pre W => (∃ v, Boxed W w.heap.size 104 v ∧ W.ownsRow w.heap.size 3 1 v pre.length (pre.map (Value.int .i64)) ∧ (v = .slice none 0 0 ↔ pre = [])) ∧ Below w.heap.size w W)
    (fun _ _ _ => False)
    (OwnFrom.and (Own.from (holdsRow_own w.heap.size w.heap.size 104 3 1 (fun pre => pre.length) (fun pre => pre.map (Value.int .i64)) (fun pre v => v = .slice none 0 0 ↔ pre = [])) _) (ownFrom_below (Nat.le_refl _) (by simp)))
    (fun _ _ _ _ _ hs _ _ => hs)
    ⟨⟨_, bO, World.ownsRow_nil _ _ _ _, by simp⟩, hB0⟩
    (fun x => { tmps := #[.slice none 0 0, .func (.func 128) #[] #[.pointer (some ⟨Bn, 0, none⟩)], .pointer (some ⟨w.heap.size, 0, none⟩), undef, .slice none 0 0, .int .i64 x, .func (.func 128) #[] #[.pointer (some ⟨Bn, 0, none⟩)], .int .i64 x, undef, undef, undef, undef, undef], defers := [] }) ?assign ?body ?done ?stop
  case assign =>
    intro l x W K hK
    gi_wp2
    exact hK
  case body =>
    rintro l pre x W ⟨⟨v, hv, hrow, hnil⟩, hBW⟩ hlt
    have hc := hv.cell
    gi_wp2_with (gi_at_builtin; refine wpListIn_append_own _ rfl _ _ 104 rfl w.heap.size 3 i0 (.int .i64 0) 1 8 Tryz.underlying104 hi hz0 hz1 hz2 rfl (by decide) _ _ _ rfl (hrow.alloc _) ⟨W.heap.size, 0, none⟩ 1 1 [.int .i64 x] rfl rfl (cell_one_new _ _ _) (by simp [Value.oneCell']) (by unfold maxLen; omega) (by omega) (by have := hBW.size; simp; omega) ?_; intro v' w1 hown' hgrow _; obtain ⟨g', cap', rfl⟩ := ownsRow_succ hown'; obtain ⟨hv1, hv2, hr2, hk2, hb2⟩ := hv.appended (by decide) hrow hBW.size (Nat.le_refl _) hown' hgrow; have hc1 := hv1.cell; have hf1 := hv1.frozen)
    exact ⟨hk2.from _, hb2, ⟨_, hv2, by simpa using hr2, by simp⟩, hBW.trans hb2⟩
  case done =>
    rintro D ys W hD rfl ⟨⟨v, hv, hrow, hnil⟩, hBW⟩ hK
    have hc := hv.cell
    gi_wp2
    refine ⟨by simp, .inl ⟨_, _, rfl, run_takeDeferred hK, ?_⟩⟩
    exact ⟨_, results_tmp rfl _ _ _, v, rfl, ownsRow_putObj hrow _ hK rfl, hBW.trans (belowK_b (w := w) (Nat.le_refl _) W D _ _ (by simp at hD; omega) hK rfl rfl)⟩
  case stop =>
    rintro D c pre W _ _ h _
    exact h.elim
set_option maxRecDepth 100000 in
theorem collect_any (Bn : Nat) (b : Bits) (hb : b.Ok) (w : World) (hB : Blk w Bn 70 b.cells) (hT : TabAt w) :
    Calls Tryz.prog 80 #[.func (.func 128) #[] #[.pointer (some ⟨Bn, 0, none⟩)]] w fun e W' => ∃ v, e = .returned v ∧ W'.ownsRow w.heap.size 3 1 v b.list.length (b.list.map (Value.int .i64)) ∧ Below w.heap.size w W' := by
  have hap := (callsIn_wide (n := 3)).1 (appseq_in 3 (by omega) Bn b hb w hB hT)
  go_enter Tryz.func80, Tryz.ntmps80
  go_wp2_with fail
  refine hap.mono ?_
  rintro e w2 ⟨v, rfl, hown, hb2⟩
  go_wp2
  go_ret
  exact ⟨_, rfl, hown, hb2⟩
end Go.Proofs.YtckkfbepclogcaaGreatDoor
namespace Go.Proofs.YtckkfbepclogcaaGreatDoor
open Go.RowKit Go.Shelf
attribute [local go_sem] Oper.semAt_some
def Bits.cut (b : Bits) (n : Nat) : Bits := (b.setw (n / 64) (b.word (n / 64) &&& (18446744073709551615 - (2 ^ (n % 64) - 1)))).mix (fun _ _ => 0) (n / 64) Bits.zero
theorem mask_ok (x k : Nat) (hk : k < 64) (hx : x < 2 ^ 64) : bits BinOp.andNot IntKind.u64 (x : Int) (IntKind.u64.wrap (IntKind.u64.wrap (2 ^ k) - 1)) = ((x &&& (18446744073709551615 - (2 ^ k - 1)) : Nat) : Int) := by
  have h1 := pow63 k hk
  have hp := Nat.two_pow_pos k
  have e : IntKind.u64.wrap (IntKind.u64.wrap (2 ^ k) - 1) = ((2 ^ k - 1 : Nat) : Int) := by
    have e2 : (2 ^ k : Int) = ((2 ^ k : Nat) : Int) := by simp
    rw [e2]
    simp only [Nat.reducePow] at h1
    generalize 2 ^ k = z at *
    rw [IntWalk.u64_in (z : Int) (by omega), IntWalk.u64_in _ (by omega)]
    omega
  simp only [Nat.reducePow] at h1 hx
  rw [e, u64_andNot_nat _ _ hx (by omega)]
theorem at_high (b : Bits) (i : Int) (h : 256 ≤ i) : b.next i = none := by
  unfold Bits.next
  rw [List.find?_eq_none]
  intro x hx
  unfold Bits.list Bits.upl at hx
  obtain ⟨n, hn, rfl⟩ := List.mem_map.1 hx
  have := List.mem_range.1 (List.mem_filter.1 hn).1
  simp
  omega
theorem zap_step (b : Bits) (j : Nat) (hj : j < 4) : (b.mix (fun _ _ => 0) j Bits.zero).cells.setIfInBounds j (.int .u64 0) = (b.mix (fun _ _ => 0) (j + 1) Bits.zero).cells := by
  have H : j = 0 ∨ j = 1 ∨ j = 2 ∨ j = 3 := by omega
  rcases H with rfl | rfl | rfl | rfl <;> rfl
theorem mix_ok (b : Bits) (hb : b.Ok) (j : Nat) : (b.mix (fun _ _ => 0) j Bits.zero).Ok := by
  have h0 := hb.h0
  have h1 := hb.h1
  have h2 := hb.h2
  have h3 := hb.h3
  unfold Bits.mix
  refine ⟨?_, ?_, ?_, ?_⟩ <;> dsimp only <;> split <;> omega
theorem cut_ok (b : Bits) (hb : b.Ok) (n : Nat) : (b.cut n).Ok := mix_ok _ (hb.setw _ _ (Nat.lt_of_le_of_lt Nat.and_le_left (hb.word _))) _
theorem glob_lt {w : World} (hT : TabAt w) : 0 < w.heap.size := by
  have := hT 0 (by omega)
  rcases Nat.lt_or_ge 0 w.heap.size with h | h
  · exact h
  · exact absurd this (by rw [World.cell?, Array.getElem?_eq_none h]; simp)
set_option maxRecDepth 100000 in
set_option maxHeartbeats 4000000 in
theorem next_lo0 (n : Nat) (b : Bits) (hb : b.Ok) (w : World) (hn : n < 256) (hT : TabAt w) (hq : n / 64 = 0) :
    CallsIn Fence.wide 3 Tryz.prog 98 #[b.val, .int .i64 n] w fun e w' => e = .returned (pairV (b.cut n).list.head?) ∧ Below w.heap.size w w' := by
  have HQ := Lib.hid hq
  clear hq
  have hlt := hb.h0
  have hqi : (n : Int) / 64 = 0 := by have := HQ.out; omega
  have hm0 := mask_ok b.w0 (n % 64) (by omega) hlt
  obtain ⟨v, hv⟩ : ∃ v, v = b.w0 &&& (18446744073709551615 - (2 ^ (n % 64) - 1)) := ⟨_, rfl⟩
  rw [← hv] at hm0
  have hV := Lib.hid hv
  have hm := hm0
  clear hv hm0
  have hge : ¬ (256 : Int) ≤ n := by omega
  unfold Bits.val
  refine callsIn_of_wp_marks Tryz.func98 rfl trivial ?_ rfl
  simp only [Tryz.ntmps98, List.size_toArray, List.length_cons, List.length_nil, Nat.reduceAdd, Nat.reduceSub, Array.replicate_succ, Array.replicate_zero, List.push_toArray, List.append_toArray, List.nil_append, List.cons_append]
  gi_wp2_with fail

  have hcut : Hid ((b.setw 0 v).mix (fun _ _ => 0) 0 Bits.zero = b.cut n) := Lib.hid (by unfold Bits.cut; rw [HQ.out, hV.out]; rfl)
  clear hm
  have hA0 : Blk (w.alloc (.cells (b.setw 0 v).cells 70)) w.heap.size 70 (b.setw 0 v).cells := Blk.new _ _ _
  have hN0 : Blk ((w.alloc (.cells (b.setw 0 v).cells 70)).alloc (.cells #[.int .i64 0] 3)) (w.heap.size + 1) 3 #[.int .i64 0] := by simpa using Blk.new (w.alloc (.cells (b.setw 0 v).cells 70)) 3 #[.int .i64 0]
  have hF0 : Blk (((w.alloc (.cells (b.setw 0 v).cells 70)).alloc (.cells #[.int .i64 0] 3)).alloc (.cells #[.bool false] 4)) (w.heap.size + 1 + 1) 4 #[.bool false] := by simpa using Blk.new ((w.alloc (.cells (b.setw 0 v).cells 70)).alloc (.cells #[.int .i64 0] 3)) 4 #[.bool false]
  gi_loopw [25] (fun i wr => ∃ j : Nat, j ≤ 0 ∧ i = .int .i64 j ∧ Blk wr w.heap.size 70 ((b.setw 0 v).mix (fun _ _ => 0) j Bits.zero).cells ∧ Blk wr (w.heap.size + 1) 3 #[.int .i64 0] ∧ Blk wr (w.heap.size + 1 + 1) 4 #[.bool false] ∧ Below w.heap.size w wr) (fun i _ => 0 - (intOf i).toNat)
  case atStart => exact ⟨0, by omega, rfl, by rw [mix_zero]; exact (hA0.alloc _).alloc _, hN0.alloc _, hF0, (((Below.refl _ _).alloc (Nat.le_refl _) _).alloc (by simp) _).alloc (by simp; omega) _⟩
  case round =>
    obtain ⟨j, hj, rfl, hA, hN, hF, hbl⟩ := hrel
    clear hA0 hN0 hF0
    by_cases hjk : j < 0
    · exact absurd hjk (by omega)
    · obtain rfl : j = 0 := by omega
      rw [hcut.out] at hA
      have hc := hA.cell
      have hok := cut_ok b hb n
      clear hcut hjk hj
      generalize hBq : b.cut n = B at *
      have HB := Lib.hid hBq
      clear hBq
      simp only [Bits.cells] at hc
      have hea := each_any B wr
      unfold Bits.val at hea
      have hltF := hF.lt
      gi_wp2_with (refine ⟨trivial, ?_⟩; gi_at_call 120; refine (callsIn_wide.2 hea).mono ?_; rintro e w' ⟨rfl, rfl⟩)
      have hB2 : Blk (wr.alloc (.cells B.cells 70)) wr.heap.size 70 B.cells := Blk.new _ _ _
      have hT2 : TabAt (wr.alloc (.cells B.cells 70)) := hT.below (hbl.alloc hbl.size _) (glob_lt hT)
      have hgl := glob_lt hT
      have hsz := hbl.size
      have hbl2 : Below w.heap.size w (wr.alloc (.cells B.cells 70)) := hbl.alloc hbl.size _
      have hN2 := hN.alloc (.cells B.cells 70)
      have hF2 := hF.alloc (.cells B.cells 70)
      refine wpIn_rangeFunc_ownF rfl (by omega) (gf := 128) (lb := #[.pointer (some ⟨wr.heap.size, 0, none⟩)]) rfl trivial (enters_of Tryz.func128 (by kernel_rfl) rfl)
        (each_stops 2 (by omega) wr.heap.size (wr.heap.size + 1) B hok _ hB2 (by omega) (by omega) (by simp) hT2) belowK_t (belowK_b (by simp)) (Below.refl _ _) (fun _ => rfl)
        (fun pre W => (pre = [] ∧ W.cell? ⟨w.heap.size + 1, 0, none⟩ = some (.int .i64 0) ∧ W.frozen? ⟨w.heap.size + 1, 0, none⟩ = false ∧ W.cell? ⟨w.heap.size + 1 + 1, 0, none⟩ = some (.bool false) ∧ W.frozen? ⟨w.heap.size + 1 + 1, 0, none⟩ = false) ∧ Below w.heap.size w W)
        (fun c pre W => (c = .ret ∧ ∃ x, pre = [x] ∧ W.cell? ⟨w.heap.size + 1, 0, none⟩ = some (.int .i64 x) ∧ W.cell? ⟨w.heap.size + 1 + 1, 0, none⟩ = some (.bool true)) ∧ Below w.heap.size w W)
        (OwnFrom.and (Own.from (fun s A B row hs hg hr => ⟨hs.1, cell_kept hs.2.1 hg hr, (frozen_kept hs.2.1 hg hr).trans hs.2.2.1, cell_kept hs.2.2.2.1 hg hr, (frozen_kept hs.2.2.2.1 hg hr).trans hs.2.2.2.2⟩) _) (ownFrom_below (Nat.le_refl _) (by simp; omega)))
        (fun c => OwnFrom.and (Own.from (fun s A B row hs hg hr => by obtain ⟨h1, x, h2, h3, h4⟩ := hs; exact ⟨h1, x, h2, cell_kept h3 hg hr, cell_kept h4 hg hr⟩) _) (ownFrom_below (Nat.le_refl _) (by simp; omega)))
        ⟨⟨rfl, hN2.cell 0, hN2.frozen 0, hF2.cell 0, hF2.frozen 0⟩, hbl2⟩ ?a1 ?assign ?body ?done ?stop
      case assign =>
        intro l x W K hK
        gi_wp2
        exact hK
      case body =>
        rintro l pre x W ⟨⟨rfl, c1, f1, c2, f2⟩, hBW⟩ _
        gi_wp2
        refine ⟨(KeepsOthers.setCell _ _ _).trans (KeepsOthers.setCell _ _ _), ⟨rfl, x, rfl, ?_, ?_⟩, (hBW.setCell (by simp) _).setCell (by simp; omega) _⟩
        · rw [World.cell?_setCell_other _ _ _ _ (by simp)]
          exact World.cell?_setCell_same' _ _ _ (by rw [c1]; rfl)
        · exact World.cell?_setCell_same' _ _ _ (by rw [World.cell?_setCell_other _ _ _ _ (by simp), c2]; rfl)
      case done =>
        rintro D ys W hD hys ⟨⟨rfl, c1, f1, c2, f2⟩, hBW⟩ hK
        have hnil : Hid (B.list.head? = none) := Lib.hid (by rw [← hys]; rfl)
        gi_wp2
        have hd1 : (W.setCell ⟨w.heap.size + 1, 0, none⟩ (.int .i64 0)).cell? ⟨w.heap.size + 1, 0, none⟩ = some (.int .i64 0) := World.cell?_setCell_same' _ _ _ (by rw [c1]; rfl)
        have hd2 : ((W.setCell ⟨w.heap.size + 1, 0, none⟩ (.int .i64 0)).setCell ⟨w.heap.size + 1 + 1, 0, none⟩ (.bool false)).cell? ⟨w.heap.size + 1, 0, none⟩ = some (.int .i64 0) := by
          rw [World.cell?_setCell_other _ _ _ _ (by simp)]; exact hd1
        have hd3 : ((W.setCell ⟨w.heap.size + 1, 0, none⟩ (.int .i64 0)).setCell ⟨w.heap.size + 1 + 1, 0, none⟩ (.bool false)).cell? ⟨w.heap.size + 1 + 1, 0, none⟩ = some (.bool false) := World.cell?_setCell_same' _ _ _ (by rw [World.cell?_setCell_other _ _ _ _ (by simp), c2]; rfl)
        have hK' := ((KeepsOthers.setCell W ⟨w.heap.size + 1, 0, none⟩ (.int .i64 0)).trans (KeepsOthers.setCell _ ⟨w.heap.size + 1 + 1, 0, none⟩ (.bool false))).same D _ hK rfl
        have hBB := (hBW.setCell (p := ⟨w.heap.size + 1, 0, none⟩) (by simp) (.int .i64 0)).setCell (p := ⟨w.heap.size + 1 + 1, 0, none⟩) (by simp; omega) (.bool false)
        generalize (W.setCell ⟨w.heap.size + 1, 0, none⟩ (.int .i64 0)).setCell ⟨w.heap.size + 1 + 1, 0, none⟩ (.bool false) = W2 at *
        refine ⟨by simp, .inl ⟨_, _, rfl, run_takeDeferred hK', ?_⟩⟩
        have hk5 := cell_kept hd2 (grownBy_putObj' _ D (.deferred none)) (fun r e => by cases e; exact ⟨_, hK', rfl⟩)
        have hb5 := cell_kept hd3 (grownBy_putObj' _ D (.deferred none)) (fun r e => by cases e; exact ⟨_, hK', rfl⟩)
        refine ⟨pairV none, ?_, by rw [HB.out, hnil.out], hBB.trans (belowK_b (w := w) (Nat.le_refl _) W2 D _ _ (by simp at hD; omega) hK' rfl rfl)⟩
        simp [results, Tryz.results98, go_sem, hk5, hb5, pairV]
      case stop =>
        rintro D c pre W hD hpre ⟨⟨rfl, x, rfl, c1, c2⟩, hBW⟩ hK
        have hhd : Hid (B.list.head? = some x) := Lib.hid (by obtain ⟨s, hs⟩ := hpre; rw [← hs]; rfl)
        gi_wp2
        refine ⟨by simp, .inl ⟨_, _, rfl, run_takeDeferred hK, ?_⟩⟩
        have hk5 := cell_kept c1 (grownBy_putObj' _ D (.deferred none)) (fun r e => by cases e; exact ⟨_, hK, rfl⟩)
        have hb5 := cell_kept c2 (grownBy_putObj' _ D (.deferred none)) (fun r e => by cases e; exact ⟨_, hK, rfl⟩)
        refine ⟨pairV (some x), ?_, by rw [HB.out, hhd.out], hBW.trans (belowK_b (w := w) (Nat.le_refl _) W D _ _ (by simp at hD; omega) hK rfl rfl)⟩
        simp [results, Tryz.results98, go_sem, hk5, hb5, pairV]
set_option maxRecDepth 100000 in
set_option maxHeartbeats 4000000 in
theorem next_lo1 (n : Nat) (b : Bits) (hb : b.Ok) (w : World) (hn : n < 256) (hT : TabAt w) (hq : n / 64 = 1) :
    CallsIn Fence.wide 3 Tryz.prog 98 #[b.val, .int .i64 n] w fun e w' => e = .returned (pairV (b.cut n).list.head?) ∧ Below w.heap.size w w' := by
  have HQ := Lib.hid hq
  clear hq
  have hlt := hb.h1
  have hqi : (n : Int) / 64 = 1 := by have := HQ.out; omega
  have hm0 := mask_ok b.w1 (n % 64) (by omega) hlt
  obtain ⟨v, hv⟩ : ∃ v, v = b.w1 &&& (18446744073709551615 - (2 ^ (n % 64) - 1)) := ⟨_, rfl⟩
  rw [← hv] at hm0
  have hV := Lib.hid hv
  have hm := hm0
  clear hv hm0
  have hge : ¬ (256 : Int) ≤ n := by omega
  unfold Bits.val
  refine callsIn_of_wp_marks Tryz.func98 rfl trivial ?_ rfl
  simp only [Tryz.ntmps98, List.size_toArray, List.length_cons, List.length_nil, Nat.reduceAdd, Nat.reduceSub, Array.replicate_succ, Array.replicate_zero, List.push_toArray, List.append_toArray, List.nil_append, List.cons_append]
  gi_wp2_with fail

  have hcut : Hid ((b.setw 1 v).mix (fun _ _ => 0) 1 Bits.zero = b.cut n) := Lib.hid (by unfold Bits.cut; rw [HQ.out, hV.out]; rfl)
  clear hm
  have hA0 : Blk (w.alloc (.cells (b.setw 1 v).cells 70)) w.heap.size 70 (b.setw 1 v).cells := Blk.new _ _ _
  have hN0 : Blk ((w.alloc (.cells (b.setw 1 v).cells 70)).alloc (.cells #[.int .i64 0] 3)) (w.heap.size + 1) 3 #[.int .i64 0] := by simpa using Blk.new (w.alloc (.cells (b.setw 1 v).cells 70)) 3 #[.int .i64 0]
  have hF0 : Blk (((w.alloc (.cells (b.setw 1 v).cells 70)).alloc (.cells #[.int .i64 0] 3)).alloc (.cells #[.bool false] 4)) (w.heap.size + 1 + 1) 4 #[.bool false] := by simpa using Blk.new ((w.alloc (.cells (b.setw 1 v).cells 70)).alloc (.cells #[.int .i64 0] 3)) 4 #[.bool false]
  gi_loopw [25] (fun i wr => ∃ j : Nat, j ≤ 1 ∧ i = .int .i64 j ∧ Blk wr w.heap.size 70 ((b.setw 1 v).mix (fun _ _ => 0) j Bits.zero).cells ∧ Blk wr (w.heap.size + 1) 3 #[.int .i64 0] ∧ Blk wr (w.heap.size + 1 + 1) 4 #[.bool false] ∧ Below w.heap.size w wr) (fun i _ => 1 - (intOf i).toNat)
  case atStart => exact ⟨0, by omega, rfl, by rw [mix_zero]; exact (hA0.alloc _).alloc _, hN0.alloc _, hF0, (((Below.refl _ _).alloc (Nat.le_refl _) _).alloc (by simp) _).alloc (by simp; omega) _⟩
  case round =>
    obtain ⟨j, hj, rfl, hA, hN, hF, hbl⟩ := hrel
    clear hA0 hN0 hF0
    by_cases hjk : j < 1
    · have hs := Lib.hid (zap_step (b.setw 1 v) j (by omega))
      have hcj := (hA.cell j).trans (cell_word _ j (by omega))
      have hzj := hA.frozen j
      gi_wp2_with fail
      go_roundw
      case rel => exact ⟨j + 1, by omega, by go_num, by rw [← hs.out]; exact hA.put j _, hN.far (by simp) _, hF.far (by simp; omega) _, hbl.setCell (Nat.le_refl _) _⟩
      case measure => simp [intOf]; omega
    · obtain rfl : j = 1 := by omega
      rw [hcut.out] at hA
      have hc := hA.cell
      have hok := cut_ok b hb n
      clear hcut hjk hj
      generalize hBq : b.cut n = B at *
      have HB := Lib.hid hBq
      clear hBq
      simp only [Bits.cells] at hc
      have hea := each_any B wr
      unfold Bits.val at hea
      have hltF := hF.lt
      gi_wp2_with (refine ⟨trivial, ?_⟩; gi_at_call 120; refine (callsIn_wide.2 hea).mono ?_; rintro e w' ⟨rfl, rfl⟩)
      have hB2 : Blk (wr.alloc (.cells B.cells 70)) wr.heap.size 70 B.cells := Blk.new _ _ _
      have hT2 : TabAt (wr.alloc (.cells B.cells 70)) := hT.below (hbl.alloc hbl.size _) (glob_lt hT)
      have hgl := glob_lt hT
      have hsz := hbl.size
      have hbl2 : Below w.heap.size w (wr.alloc (.cells B.cells 70)) := hbl.alloc hbl.size _
      have hN2 := hN.alloc (.cells B.cells 70)
      have hF2 := hF.alloc (.cells B.cells 70)
      refine wpIn_rangeFunc_ownF rfl (by omega) (gf := 128) (lb := #[.pointer (some ⟨wr.heap.size, 0, none⟩)]) rfl trivial (enters_of Tryz.func128 (by kernel_rfl) rfl)
        (each_stops 2 (by omega) wr.heap.size (wr.heap.size + 1) B hok _ hB2 (by omega) (by omega) (by simp) hT2) belowK_t (belowK_b (by simp)) (Below.refl _ _) (fun _ => rfl)
        (fun pre W => (pre = [] ∧ W.cell? ⟨w.heap.size + 1, 0, none⟩ = some (.int .i64 0) ∧ W.frozen? ⟨w.heap.size + 1, 0, none⟩ = false ∧ W.cell? ⟨w.heap.size + 1 + 1, 0, none⟩ = some (.bool false) ∧ W.frozen? ⟨w.heap.size + 1 + 1, 0, none⟩ = false) ∧ Below w.heap.size w W)
        (fun c pre W => (c = .ret ∧ ∃ x, pre = [x] ∧ W.cell? ⟨w.heap.size + 1, 0, none⟩ = some (.int .i64 x) ∧ W.cell? ⟨w.heap.size + 1 + 1, 0, none⟩ = some (.bool true)) ∧ Below w.heap.size w W)
        (OwnFrom.and (Own.from (fun s A B row hs hg hr => ⟨hs.1, cell_kept hs.2.1 hg hr, (frozen_kept hs.2.1 hg hr).trans hs.2.2.1, cell_kept hs.2.2.2.1 hg hr, (frozen_kept hs.2.2.2.1 hg hr).trans hs.2.2.2.2⟩) _) (ownFrom_below (Nat.le_refl _) (by simp; omega)))
        (fun c => OwnFrom.and (Own.from (fun s A B row hs hg hr => by obtain ⟨h1, x, h2, h3, h4⟩ := hs; exact ⟨h1, x, h2, cell_kept h3 hg hr, cell_kept h4 hg hr⟩) _) (ownFrom_below (Nat.le_refl _) (by simp; omega)))
        ⟨⟨rfl, hN2.cell 0, hN2.frozen 0, hF2.cell 0, hF2.frozen 0⟩, hbl2⟩ ?a1 ?assign ?body ?done ?stop
      case assign =>
        intro l x W K hK
        gi_wp2
        exact hK
      case body =>
        rintro l pre x W ⟨⟨rfl, c1, f1, c2, f2⟩, hBW⟩ _
        gi_wp2
        refine ⟨(KeepsOthers.setCell _ _ _).trans (KeepsOthers.setCell _ _ _), ⟨rfl, x, rfl, ?_, ?_⟩, (hBW.setCell (by simp) _).setCell (by simp; omega) _⟩
        · rw [World.cell?_setCell_other _ _ _ _ (by simp)]
          exact World.cell?_setCell_same' _ _ _ (by rw [c1]; rfl)
        · exact World.cell?_setCell_same' _ _ _ (by rw [World.cell?_setCell_other _ _ _ _ (by simp), c2]; rfl)
      case done =>
        rintro D ys W hD hys ⟨⟨rfl, c1, f1, c2, f2⟩, hBW⟩ hK
        have hnil : Hid (B.list.head? = none) := Lib.hid (by rw [← hys]; rfl)
        gi_wp2
        have hd1 : (W.setCell ⟨w.heap.size + 1, 0, none⟩ (.int .i64 0)).cell? ⟨w.heap.size + 1, 0, none⟩ = some (.int .i64 0) := World.cell?_setCell_same' _ _ _ (by rw [c1]; rfl)
        have hd2 : ((W.setCell ⟨w.heap.size + 1, 0, none⟩ (.int .i64 0)).setCell ⟨w.heap.size + 1 + 1, 0, none⟩ (.bool false)).cell? ⟨w.heap.size + 1, 0, none⟩ = some (.int .i64 0) := by
          rw [World.cell?_setCell_other _ _ _ _ (by simp)]; exact hd1
        have hd3 : ((W.setCell ⟨w.heap.size + 1, 0, none⟩ (.int .i64 0)).setCell ⟨w.heap.size + 1 + 1, 0, none⟩ (.bool false)).cell? ⟨w.heap.size + 1 + 1, 0, none⟩ = some (.bool false) := World.cell?_setCell_same' _ _ _ (by rw [World.cell?_setCell_other _ _ _ _ (by simp), c2]; rfl)
        have hK' := ((KeepsOthers.setCell W ⟨w.heap.size + 1, 0, none⟩ (.int .i64 0)).trans (KeepsOthers.setCell _ ⟨w.heap.size + 1 + 1, 0, none⟩ (.bool false))).same D _ hK rfl
        have hBB := (hBW.setCell (p := ⟨w.heap.size + 1, 0, none⟩) (by simp) (.int .i64 0)).setCell (p := ⟨w.heap.size + 1 + 1, 0, none⟩) (by simp; omega) (.bool false)
        generalize (W.setCell ⟨w.heap.size + 1, 0, none⟩ (.int .i64 0)).setCell ⟨w.heap.size + 1 + 1, 0, none⟩ (.bool false) = W2 at *
        refine ⟨by simp, .inl ⟨_, _, rfl, run_takeDeferred hK', ?_⟩⟩
        have hk5 := cell_kept hd2 (grownBy_putObj' _ D (.deferred none)) (fun r e => by cases e; exact ⟨_, hK', rfl⟩)
        have hb5 := cell_kept hd3 (grownBy_putObj' _ D (.deferred none)) (fun r e => by cases e; exact ⟨_, hK', rfl⟩)
        refine ⟨pairV none, ?_, by rw [HB.out, hnil.out], hBB.trans (belowK_b (w := w) (Nat.le_refl _) W2 D _ _ (by simp at hD; omega) hK' rfl rfl)⟩
        simp [results, Tryz.results98, go_sem, hk5, hb5, pairV]
      case stop =>
        rintro D c pre W hD hpre ⟨⟨rfl, x, rfl, c1, c2⟩, hBW⟩ hK
        have hhd : Hid (B.list.head? = some x) := Lib.hid (by obtain ⟨s, hs⟩ := hpre; rw [← hs]; rfl)
        gi_wp2
        refine ⟨by simp, .inl ⟨_, _, rfl, run_takeDeferred hK, ?_⟩⟩
        have hk5 := cell_kept c1 (grownBy_putObj' _ D (.deferred none)) (fun r e => by cases e; exact ⟨_, hK, rfl⟩)
        have hb5 := cell_kept c2 (grownBy_putObj' _ D (.deferred none)) (fun r e => by cases e; exact ⟨_, hK, rfl⟩)
        refine ⟨pairV (some x), ?_, by rw [HB.out, hhd.out], hBW.trans (belowK_b (w := w) (Nat.le_refl _) W D _ _ (by simp at hD; omega) hK rfl rfl)⟩
        simp [results, Tryz.results98, go_sem, hk5, hb5, pairV]
set_option maxRecDepth 100000 in
set_option maxHeartbeats 4000000 in
theorem next_lo2 (n : Nat) (b : Bits) (hb : b.Ok) (w : World) (hn : n < 256) (hT : TabAt w) (hq : n / 64 = 2) :
    CallsIn Fence.wide 3 Tryz.prog 98 #[b.val, .int .i64 n] w fun e w' => e = .returned (pairV (b.cut n).list.head?) ∧ Below w.heap.size w w' := by
  have HQ := Lib.hid hq
  clear hq
  have hlt := hb.h2
  have hqi : (n : Int) / 64 = 2 := by have := HQ.out; omega
  have hm0 := mask_ok b.w2 (n % 64) (by omega) hlt
  obtain ⟨v, hv⟩ : ∃ v, v = b.w2 &&& (18446744073709551615 - (2 ^ (n % 64) - 1)) := ⟨_, rfl⟩
  rw [← hv] at hm0
  have hV := Lib.hid hv
  have hm := hm0
  clear hv hm0
  have hge : ¬ (256 : Int) ≤ n := by omega
  unfold Bits.val
  refine callsIn_of_wp_marks Tryz.func98 rfl trivial ?_ rfl
  simp only [Tryz.ntmps98, List.size_toArray, List.length_cons, List.length_nil, Nat.reduceAdd, Nat.reduceSub, Array.replicate_succ, Array.replicate_zero, List.push_toArray, List.append_toArray, List.nil_append, List.cons_append]
  gi_wp2_with fail

  have hcut : Hid ((b.setw 2 v).mix (fun _ _ => 0) 2 Bits.zero = b.cut n) := Lib.hid (by unfold Bits.cut; rw [HQ.out, hV.out]; rfl)
  clear hm
  have hA0 : Blk (w.alloc (.cells (b.setw 2 v).cells 70)) w.heap.size 70 (b.setw 2 v).cells := Blk.new _ _ _
  have hN0 : Blk ((w.alloc (.cells (b.setw 2 v).cells 70)).alloc (.cells #[.int .i64 0] 3)) (w.heap.size + 1) 3 #[.int .i64 0] := by simpa using Blk.new (w.alloc (.cells (b.setw 2 v).cells 70)) 3 #[.int .i64 0]
  have hF0 : Blk (((w.alloc (.cells (b.setw 2 v).cells 70)).alloc (.cells #[.int .i64 0] 3)).alloc (.cells #[.bool false] 4)) (w.heap.size + 1 + 1) 4 #[.bool false] := by simpa using Blk.new ((w.alloc (.cells (b.setw 2 v).cells 70)).alloc (.cells #[.int .i64 0] 3)) 4 #[.bool false]
  gi_loopw [25] (fun i wr => ∃ j : Nat, j ≤ 2 ∧ i = .int .i64 j ∧ Blk wr w.heap.size 70 ((b.setw 2 v).mix (fun _ _ => 0) j Bits.zero).cells ∧ Blk wr (w.heap.size + 1) 3 #[.int .i64 0] ∧ Blk wr (w.heap.size + 1 + 1) 4 #[.bool false] ∧ Below w.heap.size w wr) (fun i _ => 2 - (intOf i).toNat)
  case atStart => exact ⟨0, by omega, rfl, by rw [mix_zero]; exact (hA0.alloc _).alloc _, hN0.alloc _, hF0, (((Below.refl _ _).alloc (Nat.le_refl _) _).alloc (by simp) _).alloc (by simp; omega) _⟩
  case round =>
    obtain ⟨j, hj, rfl, hA, hN, hF, hbl⟩ := hrel
    clear hA0 hN0 hF0
    by_cases hjk : j < 2
    · have hs := Lib.hid (zap_step (b.setw 2 v) j (by omega))
      have hcj := (hA.cell j).trans (cell_word _ j (by omega))
      have hzj := hA.frozen j
      gi_wp2_with fail
      go_roundw
      case rel => exact ⟨j + 1, by omega, by go_num, by rw [← hs.out]; exact hA.put j _, hN.far (by simp) _, hF.far (by simp; omega) _, hbl.setCell (Nat.le_refl _) _⟩
      case measure => simp [intOf]; omega
    · obtain rfl : j = 2 := by omega
      rw [hcut.out] at hA
      have hc := hA.cell
      have hok := cut_ok b hb n
      clear hcut hjk hj
      generalize hBq : b.cut n = B at *
      have HB := Lib.hid hBq
      clear hBq
      simp only [Bits.cells] at hc
      have hea := each_any B wr
      unfold Bits.val at hea
      have hltF := hF.lt
      gi_wp2_with (refine ⟨trivial, ?_⟩; gi_at_call 120; refine (callsIn_wide.2 hea).mono ?_; rintro e w' ⟨rfl, rfl⟩)
      have hB2 : Blk (wr.alloc (.cells B.cells 70)) wr.heap.size 70 B.cells := Blk.new _ _ _
      have hT2 : TabAt (wr.alloc (.cells B.cells 70)) := hT.below (hbl.alloc hbl.size _) (glob_lt hT)
      have hgl := glob_lt hT
      have hsz := hbl.size
      have hbl2 : Below w.heap.size w (wr.alloc (.cells B.cells 70)) := hbl.alloc hbl.size _
      have hN2 := hN.alloc (.cells B.cells 70)
      have hF2 := hF.alloc (.cells B.cells 70)
      refine wpIn_rangeFunc_ownF rfl (by omega) (gf := 128) (lb := #[.pointer (some ⟨wr.heap.size, 0, none⟩)]) rfl trivial (enters_of Tryz.func128 (by kernel_rfl) rfl)
        (each_stops 2 (by omega) wr.heap.size (wr.heap.size + 1) B hok _ hB2 (by omega) (by omega) (by simp) hT2) belowK_t (belowK_b (by simp)) (Below.refl _ _) (fun _ => rfl)
        (fun pre W => (pre = [] ∧ W.cell? ⟨w.heap.size + 1, 0, none⟩ = some (.int .i64 0) ∧ W.frozen? ⟨w.heap.size + 1, 0, none⟩ = false ∧ W.cell? ⟨w.heap.size + 1 + 1, 0, none⟩ = some (.bool false) ∧ W.frozen? ⟨w.heap.size + 1 + 1, 0, none⟩ = false) ∧ Below w.heap.size w W)
        (fun c pre W => (c = .ret ∧ ∃ x, pre = [x] ∧ W.cell? ⟨w.heap.size + 1, 0, none⟩ = some (.int .i64 x) ∧ W.cell? ⟨w.heap.size + 1 + 1, 0, none⟩ = some (.bool true)) ∧ Below w.heap.size w W)
        (OwnFrom.and (Own.from (fun s A B row hs hg hr => ⟨hs.1, cell_kept hs.2.1 hg hr, (frozen_kept hs.2.1 hg hr).trans hs.2.2.1, cell_kept hs.2.2.2.1 hg hr, (frozen_kept hs.2.2.2.1 hg hr).trans hs.2.2.2.2⟩) _) (ownFrom_below (Nat.le_refl _) (by simp; omega)))
        (fun c => OwnFrom.and (Own.from (fun s A B row hs hg hr => by obtain ⟨h1, x, h2, h3, h4⟩ := hs; exact ⟨h1, x, h2, cell_kept h3 hg hr, cell_kept h4 hg hr⟩) _) (ownFrom_below (Nat.le_refl _) (by simp; omega)))
        ⟨⟨rfl, hN2.cell 0, hN2.frozen 0, hF2.cell 0, hF2.frozen 0⟩, hbl2⟩ ?a1 ?assign ?body ?done ?stop
      case assign =>
        intro l x W K hK
        gi_wp2
        exact hK
      case body =>
        rintro l pre x W ⟨⟨rfl, c1, f1, c2, f2⟩, hBW⟩ _
        gi_wp2
        refine ⟨(KeepsOthers.setCell _ _ _).trans (KeepsOthers.setCell _ _ _), ⟨rfl, x, rfl, ?_, ?_⟩, (hBW.setCell (by simp) _).setCell (by simp; omega) _⟩
        · rw [World.cell?_setCell_other _ _ _ _ (by simp)]
          exact World.cell?_setCell_same' _ _ _ (by rw [c1]; rfl)
        · exact World.cell?_setCell_same' _ _ _ (by rw [World.cell?_setCell_other _ _ _ _ (by simp), c2]; rfl)
      case done =>
        rintro D ys W hD hys ⟨⟨rfl, c1, f1, c2, f2⟩, hBW⟩ hK
        have hnil : Hid (B.list.head? = none) := Lib.hid (by rw [← hys]; rfl)
        gi_wp2
        have hd1 : (W.setCell ⟨w.heap.size + 1, 0, none⟩ (.int .i64 0)).cell? ⟨w.heap.size + 1, 0, none⟩ = some (.int .i64 0) := World.cell?_setCell_same' _ _ _ (by rw [c1]; rfl)
        have hd2 : ((W.setCell ⟨w.heap.size + 1, 0, none⟩ (.int .i64 0)).setCell ⟨w.heap.size + 1 + 1, 0, none⟩ (.bool false)).cell? ⟨w.heap.size + 1, 0, none⟩ = some (.int .i64 0) := by
          rw [World.cell?_setCell_other _ _ _ _ (by simp)]; exact hd1
        have hd3 : ((W.setCell ⟨w.heap.size + 1, 0, none⟩ (.int .i64 0)).setCell ⟨w.heap.size + 1 + 1, 0, none⟩ (.bool false)).cell? ⟨w.heap.size + 1 + 1, 0, none⟩ = some (.bool false) := World.cell?_setCell_same' _ _ _ (by rw [World.cell?_setCell_other _ _ _ _ (by simp), c2]; rfl)
        have hK' := ((KeepsOthers.setCell W ⟨w.heap.size + 1, 0, none⟩ (.int .i64 0)).trans (KeepsOthers.setCell _ ⟨w.heap.size + 1 + 1, 0, none⟩ (.bool false))).same D _ hK rfl
        have hBB := (hBW.setCell (p := ⟨w.heap.size + 1, 0, none⟩) (by simp) (.int .i64 0)).setCell (p := ⟨w.heap.size + 1 + 1, 0, none⟩) (by simp; omega) (.bool false)
        generalize (W.setCell ⟨w.heap.size + 1, 0, none⟩ (.int .i64 0)).setCell ⟨w.heap.size + 1 + 1, 0, none⟩ (.bool false) = W2 at *
        refine ⟨by simp, .inl ⟨_, _, rfl, run_takeDeferred hK', ?_⟩⟩
        have hk5 := cell_kept hd2 (grownBy_putObj' _ D (.deferred none)) (fun r e => by cases e; exact ⟨_, hK', rfl⟩)
        have hb5 := cell_kept hd3 (grownBy_putObj' _ D (.deferred none)) (fun r e => by cases e; exact ⟨_, hK', rfl⟩)
        refine ⟨pairV none, ?_, by rw [HB.out, hnil.out], hBB.trans (belowK_b (w := w) (Nat.le_refl _) W2 D _ _ (by simp at hD; omega) hK' rfl rfl)⟩
        simp [results, Tryz.results98, go_sem, hk5, hb5, pairV]
      case stop =>
        rintro D c pre W hD hpre ⟨⟨rfl, x, rfl, c1, c2⟩, hBW⟩ hK
        have hhd : Hid (B.list.head? = some x) := Lib.hid (by obtain ⟨s, hs⟩ := hpre; rw [← hs]; rfl)
        gi_wp2
        refine ⟨by simp, .inl ⟨_, _, rfl, run_takeDeferred hK, ?_⟩⟩
        have hk5 := cell_kept c1 (grownBy_putObj' _ D (.deferred none)) (fun r e => by cases e; exact ⟨_, hK, rfl⟩)
        have hb5 := cell_kept c2 (grownBy_putObj' _ D (.deferred none)) (fun r e => by cases e; exact ⟨_, hK, rfl⟩)
        refine ⟨pairV (some x), ?_, by rw [HB.out, hhd.out], hBW.trans (belowK_b (w := w) (Nat.le_refl _) W D _ _ (by simp at hD; omega) hK rfl rfl)⟩
        simp [results, Tryz.results98, go_sem, hk5, hb5, pairV]
set_option maxRecDepth 100000 in
set_option maxHeartbeats 4000000 in
theorem next_lo3 (n : Nat) (b : Bits) (hb : b.Ok) (w : World) (hn : n < 256) (hT : TabAt w) (hq : n / 64 = 3) :
    CallsIn Fence.wide 3 Tryz.prog 98 #[b.val, .int .i64 n] w fun e w' => e = .returned (pairV (b.cut n).list.head?) ∧ Below w.heap.size w w' := by
  have HQ := Lib.hid hq
  clear hq
  have hlt := hb.h3
  have hqi : (n : Int) / 64 = 3 := by have := HQ.out; omega
  have hm0 := mask_ok b.w3 (n % 64) (by omega) hlt
  obtain ⟨v, hv⟩ : ∃ v, v = b.w3 &&& (18446744073709551615 - (2 ^ (n % 64) - 1)) := ⟨_, rfl⟩
  rw [← hv] at hm0
  have hV := Lib.hid hv
  have hm := hm0
  clear hv hm0
  have hge : ¬ (256 : Int) ≤ n := by omega
  unfold Bits.val
  refine callsIn_of_wp_marks Tryz.func98 rfl trivial ?_ rfl
  simp only [Tryz.ntmps98, List.size_toArray, List.length_cons, List.length_nil, Nat.reduceAdd, Nat.reduceSub, Array.replicate_succ, Array.replicate_zero, List.push_toArray, List.append_toArray, List.nil_append, List.cons_append]
  gi_wp2_with fail

  have hcut : Hid ((b.setw 3 v).mix (fun _ _ => 0) 3 Bits.zero = b.cut n) := Lib.hid (by unfold Bits.cut; rw [HQ.out, hV.out]; rfl)
  clear hm
  have hA0 : Blk (w.alloc (.cells (b.setw 3 v).cells 70)) w.heap.size 70 (b.setw 3 v).cells := Blk.new _ _ _
  have hN0 : Blk ((w.alloc (.cells (b.setw 3 v).cells 70)).alloc (.cells #[.int .i64 0] 3)) (w.heap.size + 1) 3 #[.int .i64 0] := by simpa using Blk.new (w.alloc (.cells (b.setw 3 v).cells 70)) 3 #[.int .i64 0]
  have hF0 : Blk (((w.alloc (.cells (b.setw 3 v).cells 70)).alloc (.cells #[.int .i64 0] 3)).alloc (.cells #[.bool false] 4)) (w.heap.size + 1 + 1) 4 #[.bool false] := by simpa using Blk.new ((w.alloc (.cells (b.setw 3 v).cells 70)).alloc (.cells #[.int .i64 0] 3)) 4 #[.bool false]
  gi_loopw [25] (fun i wr => ∃ j : Nat, j ≤ 3 ∧ i = .int .i64 j ∧ Blk wr w.heap.size 70 ((b.setw 3 v).mix (fun _ _ => 0) j Bits.zero).cells ∧ Blk wr (w.heap.size + 1) 3 #[.int .i64 0] ∧ Blk wr (w.heap.size + 1 + 1) 4 #[.bool false] ∧ Below w.heap.size w wr) (fun i _ => 3 - (intOf i).toNat)
  case atStart => exact ⟨0, by omega, rfl, by rw [mix_zero]; exact (hA0.alloc _).alloc _, hN0.alloc _, hF0, (((Below.refl _ _).alloc (Nat.le_refl _) _).alloc (by simp) _).alloc (by simp; omega) _⟩
  case round =>
    obtain ⟨j, hj, rfl, hA, hN, hF, hbl⟩ := hrel
    clear hA0 hN0 hF0
    by_cases hjk : j < 3
    · have hs := Lib.hid (zap_step (b.setw 3 v) j (by omega))
      have hcj := (hA.cell j).trans (cell_word _ j (by omega))
      have hzj := hA.frozen j
      gi_wp2_with fail
      go_roundw
      case rel => exact ⟨j + 1, by omega, by go_num, by rw [← hs.out]; exact hA.put j _, hN.far (by simp) _, hF.far (by simp; omega) _, hbl.setCell (Nat.le_refl _) _⟩
      case measure => simp [intOf]; omega
    · obtain rfl : j = 3 := by omega
      rw [hcut.out] at hA
      have hc := hA.cell
      have hok := cut_ok b hb n
      clear hcut hjk hj
      generalize hBq : b.cut n = B at *
      have HB := Lib.hid hBq
      clear hBq
      simp only [Bits.cells] at hc
      have hea := each_any B wr
      unfold Bits.val at hea
      have hltF := hF.lt
      gi_wp2_with (refine ⟨trivial, ?_⟩; gi_at_call 120; refine (callsIn_wide.2 hea).mono ?_; rintro e w' ⟨rfl, rfl⟩)
      have hB2 : Blk (wr.alloc (.cells B.cells 70)) wr.heap.size 70 B.cells := Blk.new _ _ _
      have hT2 : TabAt (wr.alloc (.cells B.cells 70)) := hT.below (hbl.alloc hbl.size _) (glob_lt hT)
      have hgl := glob_lt hT
      have hsz := hbl.size
      have hbl2 : Below w.heap.size w (wr.alloc (.cells B.cells 70)) := hbl.alloc hbl.size _
      have hN2 := hN.alloc (.cells B.cells 70)
      have hF2 := hF.alloc (.cells B.cells 70)
      refine wpIn_rangeFunc_ownF rfl (by omega) (gf := 128) (lb := #[.pointer (some ⟨wr.heap.size, 0, none⟩)]) rfl trivial (enters_of Tryz.func128 (by kernel_rfl) rfl)
        (each_stops 2 (by omega) wr.heap.size (wr.heap.size + 1) B hok _ hB2 (by omega) (by omega) (by simp) hT2) belowK_t (belowK_b (by simp)) (Below.refl _ _) (fun _ => rfl)
        (fun pre W => (pre = [] ∧ W.cell? ⟨w.heap.size + 1, 0, none⟩ = some (.int .i64 0) ∧ W.frozen? ⟨w.heap.size + 1, 0, none⟩ = false ∧ W.cell? ⟨w.heap.size + 1 + 1, 0, none⟩ = some (.bool false) ∧ W.frozen? ⟨w.heap.size + 1 + 1, 0, none⟩ = false) ∧ Below w.heap.size w W)
        (fun c pre W => (c = .ret ∧ ∃ x, pre = [x] ∧ W.cell? ⟨w.heap.size + 1, 0, none⟩ = some (.int .i64 x) ∧ W.cell? ⟨w.heap.size + 1 + 1, 0, none⟩ = some (.bool true)) ∧ Below w.heap.size w W)
        (OwnFrom.and (Own.from (fun s A B row hs hg hr => ⟨hs.1, cell_kept hs.2.1 hg hr, (frozen_kept hs.2.1 hg hr).trans hs.2.2.1, cell_kept hs.2.2.2.1 hg hr, (frozen_kept hs.2.2.2.1 hg hr).trans hs.2.2.2.2⟩) _) (ownFrom_below (Nat.le_refl _) (by simp; omega)))
        (fun c => OwnFrom.and (Own.from (fun s A B row hs hg hr => by obtain ⟨h1, x, h2, h3, h4⟩ := hs; exact ⟨h1, x, h2, cell_kept h3 hg hr, cell_kept h4 hg hr⟩) _) (ownFrom_below (Nat.le_refl _) (by simp; omega)))
        ⟨⟨rfl, hN2.cell 0, hN2.frozen 0, hF2.cell 0, hF2.frozen 0⟩, hbl2⟩ ?a1 ?assign ?body ?done ?stop
      case assign =>
        intro l x W K hK
        gi_wp2
        exact hK
      case body =>
        rintro l pre x W ⟨⟨rfl, c1, f1, c2, f2⟩, hBW⟩ _
        gi_wp2
        refine ⟨(KeepsOthers.setCell _ _ _).trans (KeepsOthers.setCell _ _ _), ⟨rfl, x, rfl, ?_, ?_⟩, (hBW.setCell (by simp) _).setCell (by simp; omega) _⟩
        · rw [World.cell?_setCell_other _ _ _ _ (by simp)]
          exact World.cell?_setCell_same' _ _ _ (by rw [c1]; rfl)
        · exact World.cell?_setCell_same' _ _ _ (by rw [World.cell?_setCell_other _ _ _ _ (by simp), c2]; rfl)
      case done =>
        rintro D ys W hD hys ⟨⟨rfl, c1, f1, c2, f2⟩, hBW⟩ hK
        have hnil : Hid (B.list.head? = none) := Lib.hid (by rw [← hys]; rfl)
        gi_wp2
        have hd1 : (W.setCell ⟨w.heap.size + 1, 0, none⟩ (.int .i64 0)).cell? ⟨w.heap.size + 1, 0, none⟩ = some (.int .i64 0) := World.cell?_setCell_same' _ _ _ (by rw [c1]; rfl)
        have hd2 : ((W.setCell ⟨w.heap.size + 1, 0, none⟩ (.int .i64 0)).setCell ⟨w.heap.size + 1 + 1, 0, none⟩ (.bool false)).cell? ⟨w.heap.size + 1, 0, none⟩ = some (.int .i64 0) := by
          rw [World.cell?_setCell_other _ _ _ _ (by simp)]; exact hd1
        have hd3 : ((W.setCell ⟨w.heap.size + 1, 0, none⟩ (.int .i64 0)).setCell ⟨w.heap.size + 1 + 1, 0, none⟩ (.bool false)).cell? ⟨w.heap.size + 1 + 1, 0, none⟩ = some (.bool false) := World.cell?_setCell_same' _ _ _ (by rw [World.cell?_setCell_other _ _ _ _ (by simp), c2]; rfl)
        have hK' := ((KeepsOthers.setCell W ⟨w.heap.size + 1, 0, none⟩ (.int .i64 0)).trans (KeepsOthers.setCell _ ⟨w.heap.size + 1 + 1, 0, none⟩ (.bool false))).same D _ hK rfl
        have hBB := (hBW.setCell (p := ⟨w.heap.size + 1, 0, none⟩) (by simp) (.int .i64 0)).setCell (p := ⟨w.heap.size + 1 + 1, 0, none⟩) (by simp; omega) (.bool false)
        generalize (W.setCell ⟨w.heap.size + 1, 0, none⟩ (.int .i64 0)).setCell ⟨w.heap.size + 1 + 1, 0, none⟩ (.bool false) = W2 at *
        refine ⟨by simp, .inl ⟨_, _, rfl, run_takeDeferred hK', ?_⟩⟩
        have hk5 := cell_kept hd2 (grownBy_putObj' _ D (.deferred none)) (fun r e => by cases e; exact ⟨_, hK', rfl⟩)
        have hb5 := cell_kept hd3 (grownBy_putObj' _ D (.deferred none)) (fun r e => by cases e; exact ⟨_, hK', rfl⟩)
        refine ⟨pairV none, ?_, by rw [HB.out, hnil.out], hBB.trans (belowK_b (w := w) (Nat.le_refl _) W2 D _ _ (by simp at hD; omega) hK' rfl rfl)⟩
        simp [results, Tryz.results98, go_sem, hk5, hb5, pairV]
      case stop =>
        rintro D c pre W hD hpre ⟨⟨rfl, x, rfl, c1, c2⟩, hBW⟩ hK
        have hhd : Hid (B.list.head? = some x) := Lib.hid (by obtain ⟨s, hs⟩ := hpre; rw [← hs]; rfl)
        gi_wp2
        refine ⟨by simp, .inl ⟨_, _, rfl, run_takeDeferred hK, ?_⟩⟩
        have hk5 := cell_kept c1 (grownBy_putObj' _ D (.deferred none)) (fun r e => by cases e; exact ⟨_, hK, rfl⟩)
        have hb5 := cell_kept c2 (grownBy_putObj' _ D (.deferred none)) (fun r e => by cases e; exact ⟨_, hK, rfl⟩)
        refine ⟨pairV (some x), ?_, by rw [HB.out, hhd.out], hBW.trans (belowK_b (w := w) (Nat.le_refl _) W D _ _ (by simp at hD; omega) hK rfl rfl)⟩
        simp [results, Tryz.results98, go_sem, hk5, hb5, pairV]
set_option maxRecDepth 100000 in
set_option maxHeartbeats 4000000 in
theorem next_neg (i : Int) (hi : i < 0) (b : Bits) (hb : b.Ok) (w : World) (hT : TabAt w) :
    CallsIn Fence.wide 3 Tryz.prog 98 #[b.val, .int .i64 i] w fun e w' => e = .returned (pairV (b.cut 0).list.head?) ∧ Below w.heap.size w w' := by
  obtain ⟨n, hn0⟩ : ∃ n, n = 0 := ⟨0, rfl⟩
  have HN : Hid (n = 0) := Lib.hid hn0
  rw [← hn0]
  have hq : n / 64 = 0 := by omega
  clear hn0
  have HQ := Lib.hid hq
  clear hq
  have hlt := hb.h0
  have hm0 := mask_ok b.w0 0 (by omega) hlt
  obtain ⟨v, hv⟩ : ∃ v, v = b.w0 &&& (18446744073709551615 - (2 ^ 0 - 1)) := ⟨_, rfl⟩
  rw [← hv] at hm0
  have hV : Hid (v = b.w0 &&& (18446744073709551615 - (2 ^ (n % 64) - 1))) := Lib.hid (by rw [HN.out]; exact hv)
  have hm : bits BinOp.andNot IntKind.u64 (b.w0 : Int) 0 = (v : Int) := hm0
  clear hv hm0
  unfold Bits.val
  refine callsIn_of_wp_marks Tryz.func98 rfl trivial ?_ rfl
  simp only [Tryz.ntmps98, List.size_toArray, List.length_cons, List.length_nil, Nat.reduceAdd, Nat.reduceSub, Array.replicate_succ, Array.replicate_zero, List.push_toArray, List.append_toArray, List.nil_append, List.cons_append]
  gi_wp2_with fail

  have hcut : Hid ((b.setw 0 v).mix (fun _ _ => 0) 0 Bits.zero = b.cut n) := Lib.hid (by unfold Bits.cut; rw [HQ.out, hV.out]; rfl)
  clear hm
  have hA0 : Blk (w.alloc (.cells (b.setw 0 v).cells 70)) w.heap.size 70 (b.setw 0 v).cells := Blk.new _ _ _
  have hN0 : Blk ((w.alloc (.cells (b.setw 0 v).cells 70)).alloc (.cells #[.int .i64 0] 3)) (w.heap.size + 1) 3 #[.int .i64 0] := by simpa using Blk.new (w.alloc (.cells (b.setw 0 v).cells 70)) 3 #[.int .i64 0]
  have hF0 : Blk (((w.alloc (.cells (b.setw 0 v).cells 70)).alloc (.cells #[.int .i64 0] 3)).alloc (.cells #[.bool false] 4)) (w.heap.size + 1 + 1) 4 #[.bool false] := by simpa using Blk.new ((w.alloc (.cells (b.setw 0 v).cells 70)).alloc (.cells #[.int .i64 0] 3)) 4 #[.bool false]
  gi_loopw [25] (fun i wr => ∃ j : Nat, j ≤ 0 ∧ i = .int .i64 j ∧ Blk wr w.heap.size 70 ((b.setw 0 v).mix (fun _ _ => 0) j Bits.zero).cells ∧ Blk wr (w.heap.size + 1) 3 #[.int .i64 0] ∧ Blk wr (w.heap.size + 1 + 1) 4 #[.bool false] ∧ Below w.heap.size w wr) (fun i _ => 0 - (intOf i).toNat)
  case atStart => exact ⟨0, by omega, rfl, by rw [mix_zero]; exact (hA0.alloc _).alloc _, hN0.alloc _, hF0, (((Below.refl _ _).alloc (Nat.le_refl _) _).alloc (by simp) _).alloc (by simp; omega) _⟩
  case round =>
    obtain ⟨j, hj, rfl, hA, hN, hF, hbl⟩ := hrel
    clear hA0 hN0 hF0
    by_cases hjk : j < 0
    · exact absurd hjk (by omega)
    · obtain rfl : j = 0 := by omega
      rw [hcut.out] at hA
      have hc := hA.cell
      have hok := cut_ok b hb n
      clear hcut hjk hj
      generalize hBq : b.cut n = B at *
      have HB := Lib.hid hBq
      clear hBq
      simp only [Bits.cells] at hc
      have hea := each_any B wr
      unfold Bits.val at hea
      have hltF := hF.lt
      gi_wp2_with (refine ⟨trivial, ?_⟩; gi_at_call 120; refine (callsIn_wide.2 hea).mono ?_; rintro e w' ⟨rfl, rfl⟩)
      have hB2 : Blk (wr.alloc (.cells B.cells 70)) wr.heap.size 70 B.cells := Blk.new _ _ _
      have hT2 : TabAt (wr.alloc (.cells B.cells 70)) := hT.below (hbl.alloc hbl.size _) (glob_lt hT)
      have hgl := glob_lt hT
      have hsz := hbl.size
      have hbl2 : Below w.heap.size w (wr.alloc (.cells B.cells 70)) := hbl.alloc hbl.size _
      have hN2 := hN.alloc (.cells B.cells 70)
      have hF2 := hF.alloc (.cells B.cells 70)
      refine wpIn_rangeFunc_ownF rfl (by omega) (gf := 128) (lb := #[.pointer (some ⟨wr.heap.size, 0, none⟩)]) rfl trivial (enters_of Tryz.func128 (by kernel_rfl) rfl)
        (each_stops 2 (by omega) wr.heap.size (wr.heap.size + 1) B hok _ hB2 (by omega) (by omega) (by simp) hT2) belowK_t (belowK_b (by simp)) (Below.refl _ _) (fun _ => rfl)
        (fun pre W => (pre = [] ∧ W.cell? ⟨w.heap.size + 1, 0, none⟩ = some (.int .i64 0) ∧ W.frozen? ⟨w.heap.size + 1, 0, none⟩ = false ∧ W.cell? ⟨w.heap.size + 1 + 1, 0, none⟩ = some (.bool false) ∧ W.frozen? ⟨w.heap.size + 1 + 1, 0, none⟩ = false) ∧ Below w.heap.size w W)
        (fun c pre W => (c = .ret ∧ ∃ x, pre = [x] ∧ W.cell? ⟨w.heap.size + 1, 0, none⟩ = some (.int .i64 x) ∧ W.cell? ⟨w.heap.size + 1 + 1, 0, none⟩ = some (.bool true)) ∧ Below w.heap.size w W)
        (OwnFrom.and (Own.from (fun s A B row hs hg hr => ⟨hs.1, cell_kept hs.2.1 hg hr, (frozen_kept hs.2.1 hg hr).trans hs.2.2.1, cell_kept hs.2.2.2.1 hg hr, (frozen_kept hs.2.2.2.1 hg hr).trans hs.2.2.2.2⟩) _) (ownFrom_below (Nat.le_refl _) (by simp; omega)))
        (fun c => OwnFrom.and (Own.from (fun s A B row hs hg hr => by obtain ⟨h1, x, h2, h3, h4⟩ := hs; exact ⟨h1, x, h2, cell_kept h3 hg hr, cell_kept h4 hg hr⟩) _) (ownFrom_below (Nat.le_refl _) (by simp; omega)))
        ⟨⟨rfl, hN2.cell 0, hN2.frozen 0, hF2.cell 0, hF2.frozen 0⟩, hbl2⟩ ?a1 ?assign ?body ?done ?stop
      case assign =>
        intro l x W K hK
        gi_wp2
        exact hK
      case body =>
        rintro l pre x W ⟨⟨rfl, c1, f1, c2, f2⟩, hBW⟩ _
        gi_wp2
        refine ⟨(KeepsOthers.setCell _ _ _).trans (KeepsOthers.setCell _ _ _), ⟨rfl, x, rfl, ?_, ?_⟩, (hBW.setCell (by simp) _).setCell (by simp; omega) _⟩
        · rw [World.cell?_setCell_other _ _ _ _ (by simp)]
          exact World.cell?_setCell_same' _ _ _ (by rw [c1]; rfl)
        · exact World.cell?_setCell_same' _ _ _ (by rw [World.cell?_setCell_other _ _ _ _ (by simp), c2]; rfl)
      case done =>
        rintro D ys W hD hys ⟨⟨rfl, c1, f1, c2, f2⟩, hBW⟩ hK
        have hnil : Hid (B.list.head? = none) := Lib.hid (by rw [← hys]; rfl)
        gi_wp2
        have hd1 : (W.setCell ⟨w.heap.size + 1, 0, none⟩ (.int .i64 0)).cell? ⟨w.heap.size + 1, 0, none⟩ = some (.int .i64 0) := World.cell?_setCell_same' _ _ _ (by rw [c1]; rfl)
        have hd2 : ((W.setCell ⟨w.heap.size + 1, 0, none⟩ (.int .i64 0)).setCell ⟨w.heap.size + 1 + 1, 0, none⟩ (.bool false)).cell? ⟨w.heap.size + 1, 0, none⟩ = some (.int .i64 0) := by
          rw [World.cell?_setCell_other _ _ _ _ (by simp)]; exact hd1
        have hd3 : ((W.setCell ⟨w.heap.size + 1, 0, none⟩ (.int .i64 0)).setCell ⟨w.heap.size + 1 + 1, 0, none⟩ (.bool false)).cell? ⟨w.heap.size + 1 + 1, 0, none⟩ = some (.bool false) := World.cell?_setCell_same' _ _ _ (by rw [World.cell?_setCell_other _ _ _ _ (by simp), c2]; rfl)
        have hK' := ((KeepsOthers.setCell W ⟨w.heap.size + 1, 0, none⟩ (.int .i64 0)).trans (KeepsOthers.setCell _ ⟨w.heap.size + 1 + 1, 0, none⟩ (.bool false))).same D _ hK rfl
        have hBB := (hBW.setCell (p := ⟨w.heap.size + 1, 0, none⟩) (by simp) (.int .i64 0)).setCell (p := ⟨w.heap.size + 1 + 1, 0, none⟩) (by simp; omega) (.bool false)
        generalize (W.setCell ⟨w.heap.size + 1, 0, none⟩ (.int .i64 0)).setCell ⟨w.heap.size + 1 + 1, 0, none⟩ (.bool false) = W2 at *
        refine ⟨by simp, .inl ⟨_, _, rfl, run_takeDeferred hK', ?_⟩⟩
        have hk5 := cell_kept hd2 (grownBy_putObj' _ D (.deferred none)) (fun r e => by cases e; exact ⟨_, hK', rfl⟩)
        have hb5 := cell_kept hd3 (grownBy_putObj' _ D (.deferred none)) (fun r e => by cases e; exact ⟨_, hK', rfl⟩)
        refine ⟨pairV none, ?_, by rw [HB.out, hnil.out], hBB.trans (belowK_b (w := w) (Nat.le_refl _) W2 D _ _ (by simp at hD; omega) hK' rfl rfl)⟩
        simp [results, Tryz.results98, go_sem, hk5, hb5, pairV]
      case stop =>
        rintro D c pre W hD hpre ⟨⟨rfl, x, rfl, c1, c2⟩, hBW⟩ hK
        have hhd : Hid (B.list.head? = some x) := Lib.hid (by obtain ⟨s, hs⟩ := hpre; rw [← hs]; rfl)
        gi_wp2
        refine ⟨by simp, .inl ⟨_, _, rfl, run_takeDeferred hK, ?_⟩⟩
        have hk5 := cell_kept c1 (grownBy_putObj' _ D (.deferred none)) (fun r e => by cases e; exact ⟨_, hK, rfl⟩)
        have hb5 := cell_kept c2 (grownBy_putObj' _ D (.deferred none)) (fun r e => by cases e; exact ⟨_, hK, rfl⟩)
        refine ⟨pairV (some x), ?_, by rw [HB.out, hhd.out], hBW.trans (belowK_b (w := w) (Nat.le_refl _) W D _ _ (by simp at hD; omega) hK rfl rfl)⟩
        simp [results, Tryz.results98, go_sem, hk5, hb5, pairV]
end Go.Proofs.YtckkfbepclogcaaGreatDoor
namespace Go.Proofs.YtckkfbepclogcaaGreatDoor
open Go.RowKit Go.Shelf
attribute [local go_sem] Oper.semAt_some
theorem word_zap (b : Bits) (k j : Nat) (hj : j < 4) : (b.mix (fun _ _ => 0) k Bits.zero).word j = if j < k then 0 else b.word j := by
  have J : j = 0 ∨ j = 1 ∨ j = 2 ∨ j = 3 := by omega
  rcases J with rfl | rfl | rfl | rfl <;> rfl
theorem mask_bit (x r s : Nat) (hr : r < 64) (hs : s < 64) : (x &&& (18446744073709551615 - (2 ^ r - 1))).testBit s = (x.testBit s && decide (r ≤ s)) := by
  have hp := pow63 r hr
  have h0 := Nat.two_pow_pos r
  have e2 : 18446744073709551615 - (2 ^ r - 1) = 2 ^ 64 - ((2 ^ r - 1) + 1) := by simp
  rw [Nat.testBit_and, e2, Nat.testBit_two_pow_sub_succ (by omega), Nat.testBit_two_pow_sub_one]
  by_cases h : s < r
  · simp [h]
  · simp [h, hs]; intro _; omega
theorem cut_at (b : Bits) (n m : Nat) (hn : n < 256) (hm : m < 256) : (b.cut n).at m = (decide (n ≤ m) && b.at m) := by
  unfold Bits.at Bits.cut
  rw [word_zap _ _ _ (by omega), Bits.word_setw _ _ _ _ (by omega) (by omega)]
  by_cases h1 : m / 64 < n / 64
  · rw [if_pos h1]
    have : ¬ n ≤ m := by omega
    simp [this]
  · rw [if_neg h1]
    by_cases h2 : m / 64 = n / 64
    · rw [if_pos h2, mask_bit _ _ _ (Nat.mod_lt _ (by omega)) (Nat.mod_lt _ (by omega)), h2, Bool.and_comm]
      congr 1
      simp
      omega
    · rw [if_neg h2]
      have : n ≤ m := by omega
      simp [this]
theorem cut_head (b : Bits) (n : Nat) (hn : n < 256) : (b.cut n).list.head? = b.next n := by
  unfold Bits.next Bits.list Bits.upl
  have e : (List.range 256).filter (b.cut n).at = ((List.range 256).filter b.at).filter fun m => decide (n ≤ m) := by
    rw [List.filter_filter]
    apply List.filter_congr
    intro m hm
    rw [cut_at b n m hn (List.mem_range.1 hm)]
  rw [e, List.head?_map, List.head?_filter, List.find?_map]
  congr 1
  congr 1
  funext m
  simp
theorem next_neg0 (b : Bits) (i : Int) (h : i < 0) : b.next i = b.next 0 := by
  unfold Bits.next
  have : ∀ x ∈ b.list, decide (i ≤ x) = decide (0 ≤ x) := by
    intro x hx
    unfold Bits.list Bits.upl at hx
    obtain ⟨n, hn, rfl⟩ := List.mem_map.1 hx
    simp
    omega
  revert this
  generalize b.list = l
  intro this
  induction l with
  | nil => rfl
  | cons x l ih =>
    rw [List.find?_cons, List.find?_cons, this x (by simp), ih (fun y hy => this y (by simp [hy]))]
set_option maxRecDepth 100000 in
set_option maxHeartbeats 1000000 in
theorem next_hi (b : Bits) (i : Int) (w : World) (h : 256 ≤ i) : CallsIn Fence.wide 3 Tryz.prog 98 #[b.val, .int .i64 i] w fun e w' => e = .returned (pairV none) ∧ Below w.heap.size w w' := by
  unfold Bits.val
  have h1 : ¬ i < 0 := by omega
  have h2 : i ≥ 256 := h
  refine callsIn_of_wp_marks Tryz.func98 rfl trivial ?_ rfl
  simp only [Tryz.ntmps98, List.size_toArray, List.length_cons, List.length_nil, Nat.reduceAdd, Nat.reduceSub, Array.replicate_succ, Array.replicate_zero, List.push_toArray, List.append_toArray, List.nil_append, List.cons_append]
  gi_wp2_with fail
  refine ⟨pairV none, ?_, rfl, ?_⟩
  · simp [results, Tryz.results98, go_sem, pairV]
  · exact (((Below.refl _ _).alloc (Nat.le_refl _) _).alloc (by simp) _).alloc (by simp; omega) _
theorem next_any (b : Bits) (i : Int) (w : World) (hb : b.Ok) (hT : TabAt w) : Calls Tryz.prog 98 #[b.val, .int .i64 i] w fun e w' => e = .returned (pairV (b.next i)) ∧ Below w.heap.size w w' := by
  by_cases h1 : i < 0
  · rw [next_neg0 b i h1, ← Int.ofNat_zero, ← cut_head b 0 (by omega)]
    exact callsIn_wide.1 (next_neg i h1 b hb w hT)
  by_cases h2 : 256 ≤ i
  · rw [at_high b i h2]
    exact callsIn_wide.1 (next_hi b i w h2)
  obtain ⟨n, rfl⟩ := Int.eq_ofNat_of_zero_le (show 0 ≤ i by omega)
  rw [← cut_head b n (by omega)]
  have hq : n / 64 = 0 ∨ n / 64 = 1 ∨ n / 64 = 2 ∨ n / 64 = 3 := by omega
  rcases hq with hq | hq | hq | hq
  · exact callsIn_wide.1 (next_lo0 n b hb w (by omega) hT hq)
  · exact callsIn_wide.1 (next_lo1 n b hb w (by omega) hT hq)
  · exact callsIn_wide.1 (next_lo2 n b hb w (by omega) hT hq)
  · exact callsIn_wide.1 (next_lo3 n b hb w (by omega) hT hq)
end Go.Proofs.YtckkfbepclogcaaGreatDoor
namespace Go.Proofs.YtckkfbepclogcaaGreatDoor
open Go.RowKit
theorem list_mem (b : Bits) (x : Int) : x ∈ b.list ↔ b.has x = true := by
  unfold Bits.list Bits.upl Bits.has
  rw [List.mem_map]
  constructor
  · rintro ⟨n, hn, rfl⟩
    obtain ⟨h1, h2⟩ := List.mem_filter.1 hn
    have h3 := List.mem_range.1 h1
    have h4 : (((n : Nat) : Int)).toNat = n := by omega
    rw [h4, h2, decide_eq_true (by omega)]
    rfl
  · intro h
    rw [Bool.and_eq_true, decide_eq_true_iff] at h
    obtain ⟨⟨h1, h2⟩, h3⟩ := h
    exact ⟨x.toNat, List.mem_filter.2 ⟨List.mem_range.2 (by omega), h3⟩, by omega⟩
theorem next_some (b : Bits) (i x : Int) (h : b.next i = some x) : i ≤ x ∧ b.has x = true := by
  unfold Bits.next at h
  have h1 := List.find?_some h
  have h2 := List.mem_of_find?_eq_some h
  exact ⟨by simpa using h1, (list_mem b x).1 h2⟩
theorem list_sorted (b : Bits) : b.list.Pairwise (· < ·) := by
  unfold Bits.list Bits.upl
  rw [List.pairwise_map]
  have : (List.range 256).Pairwise (· < ·) := List.pairwise_lt_range
  exact (this.filter _).imp fun h => by omega
theorem next_least (b : Bits) (i x y : Int) (h : b.next i = some x) (hy : b.has y = true) (hi : i ≤ y) : x ≤ y := by
  unfold Bits.next at h
  have hm := (list_mem b y).2 hy
  have hs := list_sorted b
  revert h hm hs
  generalize b.list = l
  intro h hm hs
  induction l with
  | nil => simp at hm
  | cons z l ih =>
    rw [List.find?_cons] at h
    rw [List.pairwise_cons] at hs
    by_cases hz : i ≤ z
    · rw [decide_eq_true hz] at h
      obtain rfl : z = x := by simpa using h
      rcases List.mem_cons.1 hm with rfl | hm
      · omega
      · have := hs.1 y hm
        omega
    · rw [decide_eq_false hz] at h
      rcases List.mem_cons.1 hm with rfl | hm
      · omega
      · exact ih h hm hs.2
theorem next_none (b : Bits) (i y : Int) (h : b.next i = none) (hy : b.has y = true) : y < i := by
  unfold Bits.next at h
  rw [List.find?_eq_none] at h
  have := h y ((list_mem b y).2 hy)
  simpa using this
theorem last_some (b : Bits) (i x : Int) (h : b.last i = some x) : x ≤ i ∧ b.has x = true := by
  unfold Bits.last at h
  have h1 := List.find?_some h
  have h2 := List.mem_of_find?_eq_some h
  exact ⟨by simpa using h1, (list_mem b x).1 (List.mem_reverse.1 h2)⟩
/-- The last one ahead of the next one lies ahead of from. -/
theorem gap_last (b : Bits) (i x : Int) (h : b.last ((b.next i).getD 256 - 1) = some x) : x < i := by
  obtain ⟨h1, h2⟩ := last_some b _ x h
  cases hn : b.next i with
  | none => exact next_none b i x hn h2
  | some y =>
    rw [hn] at h1
    simp only [Option.getD_some] at h1
    by_cases hi : i ≤ x
    · have := next_least b i y x hn h2 hi
      omega
    · omega
/-- Between from and the next one there is none. -/
theorem gap_none (b : Bits) (i y : Int) (h : y < (b.next i).getD 256) (hi : i ≤ y) : b.has y = false := by
  cases hy : b.has y with
  | false => rfl
  | true =>
    cases hn : b.next i with
    | none => have := next_none b i y hn hy; omega
    | some x =>
      rw [hn] at h
      simp only [Option.getD_some] at h
      have := next_least b i x y hn hy hi
      omega
end Go.Proofs.YtckkfbepclogcaaGreatDoor
namespace Go.Proofs.YtckkfbepclogcaaGreatDoor
open Go.RowKit

theorem round_any (b : Bits) (i n : Int) (w : World) (hb : b.Ok) (hT : TabAt w) : Calls Tryz.prog 76 #[b.val, .int .i64 i, .int .i64 n] w fun e w' => e = .returned (pairV (b.round i n)) ∧ Below w.heap.size w w' := by
  have hbl0 : Below w.heap.size w (w.alloc (.cells b.cells 70)) := (Below.refl _ _).alloc (Nat.le_refl _) _
  by_cases h0 : i < 0
  · have hR := Lib.hid (show b.round i n = none by unfold Bits.round; rw [if_pos (.inl h0)])
    unfold Bits.val
    go_enter Tryz.func76, Tryz.ntmps76
    go_wp2
    refine bodyPost_ret (v := pairV (none)) (by simp [results, Tryz.results76, go_sem, pairV]) rfl ⟨by rw [hR.out], ?_⟩
    exact hbl0
  by_cases h1 : n ≤ i
  · have hR := Lib.hid (show b.round i n = none by unfold Bits.round; rw [if_pos (.inr h1)])
    unfold Bits.val
    go_enter Tryz.func76, Tryz.ntmps76
    go_wp2
    refine bodyPost_ret (v := pairV (none)) (by simp [results, Tryz.results76, go_sem, pairV]) rfl ⟨by rw [hR.out], ?_⟩
    exact hbl0
  have hN : ¬ (i < 0 ∨ n ≤ i) := by omega
  have hB0 : Blk (w.alloc (.cells b.cells 70)) w.heap.size 70 b.cells := Blk.new _ _ _
  cases ho : b.next i with
  | some x =>
    by_cases hx : x < n
    · have hR := Lib.hid (show b.round i n = some x by unfold Bits.round; rw [if_neg hN, ho]; simp [hx])
      unfold Bits.val
      go_enter Tryz.func76, Tryz.ntmps76
      go_wp2_with fail
      refine (next_any b i _ hb (hT.below (by assumption) (glob_lt hT))).mono ?_
      rintro e w1 ⟨rfl, hb1⟩
      rw [ho]
      have hbl := hbl0.trans (hb1.mono (by simp))
      clear hb1 hbl0
      unfold pairV
      go_wp2
      refine bodyPost_ret (v := pairV (some x)) (by simp [results, Tryz.results76, go_sem, pairV]) rfl ⟨by rw [hR.out], ?_⟩
      exact hbl
    · have hR := Lib.hid (show b.round i n = (b.next 0).filter fun x => decide (x < n) by unfold Bits.round; rw [if_neg hN, ho]; simp only [hx, if_false])
      unfold Bits.val
      go_enter Tryz.func76, Tryz.ntmps76
      go_wp2_with fail
      refine (next_any b i _ hb (hT.below (by assumption) (glob_lt hT))).mono ?_
      rintro e w1 ⟨rfl, hb1⟩
      rw [ho]
      have hbl := hbl0.trans (hb1.mono (by simp))
      have hB1 := hB0.below hb1 (by simp)
      clear hb1 hbl0 hB0
      have hc := hB1.cell
      simp only [Bits.cells] at hc
      unfold pairV
      go_wp2_with fail
      refine (next_any b 0 w1 hb (hT.below (by assumption) (glob_lt hT))).mono ?_
      rintro e w2 ⟨rfl, hb2⟩
      have hbl2 := hbl.trans (hb2.mono hbl.size)
      clear hb2
      cases ho2 : b.next 0 with
      | some y =>
        by_cases hy : y < n
        · have hR := Lib.hid (show b.round i n = some y by rw [hR.out, ho2]; simp [Option.filter, hy])
          unfold pairV
          go_wp2
          refine bodyPost_ret (v := pairV (some y)) (by simp [results, Tryz.results76, go_sem, pairV]) rfl ⟨by rw [hR.out], ?_⟩
          exact hbl2
        · have hR := Lib.hid (show b.round i n = none by rw [hR.out, ho2]; simp [Option.filter, hy])
          unfold pairV
          go_wp2
          refine bodyPost_ret (v := pairV (none)) (by simp [results, Tryz.results76, go_sem, pairV]) rfl ⟨by rw [hR.out], ?_⟩
          exact hbl2
      | none =>
        have hR := Lib.hid (show b.round i n = none by rw [hR.out, ho2]; rfl)
        unfold pairV
        go_wp2
        refine bodyPost_ret (v := pairV (none)) (by simp [results, Tryz.results76, go_sem, pairV]) rfl ⟨by rw [hR.out], ?_⟩
        exact hbl2
  | none =>
    have hR := Lib.hid (show b.round i n = (b.next 0).filter fun x => decide (x < n) by unfold Bits.round; rw [if_neg hN, ho])
    unfold Bits.val
    go_enter Tryz.func76, Tryz.ntmps76
    go_wp2_with fail
    refine (next_any b i _ hb (hT.below (by assumption) (glob_lt hT))).mono ?_
    rintro e w1 ⟨rfl, hb1⟩
    rw [ho]
    have hbl := hbl0.trans (hb1.mono (by simp))
    have hB1 := hB0.below hb1 (by simp)
    clear hb1 hbl0 hB0
    have hc := hB1.cell
    simp only [Bits.cells] at hc
    unfold pairV
    go_wp2_with fail
    refine (next_any b 0 w1 hb (hT.below (by assumption) (glob_lt hT))).mono ?_
    rintro e w2 ⟨rfl, hb2⟩
    have hbl2 := hbl.trans (hb2.mono hbl.size)
    clear hb2
    cases ho2 : b.next 0 with
    | some y =>
      by_cases hy : y < n
      · have hR := Lib.hid (show b.round i n = some y by rw [hR.out, ho2]; simp [Option.filter, hy])
        unfold pairV
        go_wp2
        refine bodyPost_ret (v := pairV (some y)) (by simp [results, Tryz.results76, go_sem, pairV]) rfl ⟨by rw [hR.out], ?_⟩
        exact hbl2
      · have hR := Lib.hid (show b.round i n = none by rw [hR.out, ho2]; simp [Option.filter, hy])
        unfold pairV
        go_wp2
        refine bodyPost_ret (v := pairV (none)) (by simp [results, Tryz.results76, go_sem, pairV]) rfl ⟨by rw [hR.out], ?_⟩
        exact hbl2
    | none =>
      have hR := Lib.hid (show b.round i n = none by rw [hR.out, ho2]; rfl)
      unfold pairV
      go_wp2
      refine bodyPost_ret (v := pairV (none)) (by simp [results, Tryz.results76, go_sem, pairV]) rfl ⟨by rw [hR.out], ?_⟩
      exact hbl2
end Go.Proofs.YtckkfbepclogcaaGreatDoor
