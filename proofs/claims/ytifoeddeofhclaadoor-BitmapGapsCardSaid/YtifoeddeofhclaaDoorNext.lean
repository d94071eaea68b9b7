/- Layer 2 (bitmap): Next, walked. -/
import Derived.Test.YtifoeddeofhclaaDoorSeq
namespace Go.Proofs.YtifoeddeofhclaaDoor
open Go.RowKit Go.Shelf
attribute [local go_sem] Oper.semAt_some
def Bits.cut (b : Bits) (n : Nat) : Bits := (b.setw (n / 64) (b.word (n / 64) &&& (18446744073709551615 - (2 ^ (n % 64) - 1)))).mix (fun _ _ => 0) (n / 64) Bits.zero
theorem mask_ok (x k : Nat) (hk : k < 64) (hx : x < 2 ^ 64) : bits BinOp.andNot IntKind.u64 (x : Int) (IntKind.u64.wrap (IntKind.u64.wrap (2 ^ k) - 1)) = ((x &&& (18446744073709551615 - (2 ^ k - 1)) : Nat) : Int) := by
  have h1 := pow63 k hk
  have hp := Nat.two_pow_pos k
  have e : IntKind.u64.wrap (IntKind.u64.wrap (2 ^ k) - 1) = ((2 ^ k - 1 : Nat) : Int) := by
    have e2 : (2 ^ k : Int) = ((2 ^ k : Nat) : Int) := by simp
    rw [e2]
    simp only [Nat.reducePow] at h1
    generalize 2 ^ k = z at *
    rw [IntWalk.u64_in (z : Int) (by omega), IntWalk.u64_in _ (by omega)]
    omega
  simp only [Nat.reducePow] at h1 hx
  rw [e, u64_andNot_nat _ _ hx (by omega)]
theorem at_high (b : Bits) (i : Int) (h : 256 ≤ i) : b.next i = none := by
  unfold Bits.next
  rw [List.find?_eq_none]
  intro x hx
  unfold Bits.list Bits.upl at hx
  obtain ⟨n, hn, rfl⟩ := List.mem_map.1 hx
  have := List.mem_range.1 (List.mem_filter.1 hn).1
  simp
  omega
theorem zap_step (b : Bits) (j : Nat) (hj : j < 4) : (b.mix (fun _ _ => 0) j Bits.zero).cells.setIfInBounds j (.int .u64 0) = (b.mix (fun _ _ => 0) (j + 1) Bits.zero).cells := by
  have H : j = 0 ∨ j = 1 ∨ j = 2 ∨ j = 3 := by omega
  rcases H with rfl | rfl | rfl | rfl <;> rfl
theorem mix_ok (b : Bits) (hb : b.Ok) (j : Nat) : (b.mix (fun _ _ => 0) j Bits.zero).Ok := by
  have h0 := hb.h0
  have h1 := hb.h1
  have h2 := hb.h2
  have h3 := hb.h3
  unfold Bits.mix
  refine ⟨?_, ?_, ?_, ?_⟩ <;> dsimp only <;> split <;> omega
theorem cut_ok (b : Bits) (hb : b.Ok) (n : Nat) : (b.cut n).Ok := mix_ok _ (hb.setw _ _ (Nat.lt_of_le_of_lt Nat.and_le_left (hb.word _))) _
theorem glob_lt {w : World} (hT : TabAt w) : 0 < w.heap.size := by
  have := hT 0 (by omega)
  rcases Nat.lt_or_ge 0 w.heap.size with h | h
  · exact h
  · exact absurd this (by rw [World.cell?, Array.getElem?_eq_none h]; simp)
set_option maxRecDepth 100000 in
set_option maxHeartbeats 4000000 in
theorem next_lo0 (n : Nat) (b : Bits) (hb : b.Ok) (w : World) (hn : n < 256) (hT : TabAt w) (hq : n / 64 = 0) :
    CallsIn Fence.wide 3 Tryd.prog 23 #[b.val, .int .i64 n] w fun e w' => e = .returned (pairV (b.cut n).list.head?) ∧ Below w.heap.size w w' := by
  have HQ := Lib.hid hq
  clear hq
  have hlt := hb.h0
  have hqi : (n : Int) / 64 = 0 := by have := HQ.out; omega
  have hm0 := mask_ok b.w0 (n % 64) (by omega) hlt
  obtain ⟨v, hv⟩ : ∃ v, v = b.w0 &&& (18446744073709551615 - (2 ^ (n % 64) - 1)) := ⟨_, rfl⟩
  rw [← hv] at hm0
  have hV := Lib.hid hv
  have hm := hm0
  clear hv hm0
  have hge : ¬ (256 : Int) ≤ n := by omega
  unfold Bits.val
  refine callsIn_of_wp_marks Tryd.func23 rfl trivial ?_ rfl
  simp only [Tryd.ntmps23, List.size_toArray, List.length_cons, List.length_nil, Nat.reduceAdd, Nat.reduceSub, Array.replicate_succ, Array.replicate_zero, List.push_toArray, List.append_toArray, List.nil_append, List.cons_append]
  gi_wp2_with fail

  have hcut : Hid ((b.setw 0 v).mix (fun _ _ => 0) 0 Bits.zero = b.cut n) := Lib.hid (by unfold Bits.cut; rw [HQ.out, hV.out]; rfl)
  clear hm
  have hA0 : Blk (w.alloc (.cells (b.setw 0 v).cells 24)) w.heap.size 24 (b.setw 0 v).cells := Blk.new _ _ _
  have hN0 : Blk ((w.alloc (.cells (b.setw 0 v).cells 24)).alloc (.cells #[.int .i64 0] 3)) (w.heap.size + 1) 3 #[.int .i64 0] := by simpa using Blk.new (w.alloc (.cells (b.setw 0 v).cells 24)) 3 #[.int .i64 0]
  have hF0 : Blk (((w.alloc (.cells (b.setw 0 v).cells 24)).alloc (.cells #[.int .i64 0] 3)).alloc (.cells #[.bool false] 4)) (w.heap.size + 1 + 1) 4 #[.bool false] := by simpa using Blk.new ((w.alloc (.cells (b.setw 0 v).cells 24)).alloc (.cells #[.int .i64 0] 3)) 4 #[.bool false]
  gi_loopw [25] (fun i wr => ∃ j : Nat, j ≤ 0 ∧ i = .int .i64 j ∧ Blk wr w.heap.size 24 ((b.setw 0 v).mix (fun _ _ => 0) j Bits.zero).cells ∧ Blk wr (w.heap.size + 1) 3 #[.int .i64 0] ∧ Blk wr (w.heap.size + 1 + 1) 4 #[.bool false] ∧ Below w.heap.size w wr) (fun i _ => 0 - (intOf i).toNat)
  case atStart => exact ⟨0, by omega, rfl, by rw [mix_zero]; exact (hA0.alloc _).alloc _, hN0.alloc _, hF0, (((Below.refl _ _).alloc (Nat.le_refl _) _).alloc (by simp) _).alloc (by simp; omega) _⟩
  case round =>
    obtain ⟨j, hj, rfl, hA, hN, hF, hbl⟩ := hrel
    clear hA0 hN0 hF0
    by_cases hjk : j < 0
    · exact absurd hjk (by omega)
    · obtain rfl : j = 0 := by omega
      rw [hcut.out] at hA
      have hc := hA.cell
      have hok := cut_ok b hb n
      clear hcut hjk hj
      generalize hBq : b.cut n = B at *
      have HB := Lib.hid hBq
      clear hBq
      simp only [Bits.cells] at hc
      have hea := each_any B wr
      unfold Bits.val at hea
      have hltF := hF.lt
      gi_wp2_with (refine ⟨trivial, ?_⟩; gi_at_call 31; refine (callsIn_wide.2 hea).mono ?_; rintro e w' ⟨rfl, rfl⟩)
      have hB2 : Blk (wr.alloc (.cells B.cells 24)) wr.heap.size 24 B.cells := Blk.new _ _ _
      have hT2 : TabAt (wr.alloc (.cells B.cells 24)) := hT.below (hbl.alloc hbl.size _) (glob_lt hT)
      have hgl := glob_lt hT
      have hsz := hbl.size
      have hbl2 : Below w.heap.size w (wr.alloc (.cells B.cells 24)) := hbl.alloc hbl.size _
      have hN2 := hN.alloc (.cells B.cells 24)
      have hF2 := hF.alloc (.cells B.cells 24)
      refine wpIn_rangeFunc_ownF rfl (by omega) (gf := 35) (lb := #[.pointer (some ⟨wr.heap.size, 0, none⟩)]) rfl trivial (enters_of Tryd.func35 (by kernel_rfl) rfl)
        (each_stops 2 (by omega) wr.heap.size (wr.heap.size + 1) B hok _ hB2 (by omega) (by omega) (by simp) hT2) belowK_t (belowK_b (by simp)) (Below.refl _ _) (fun _ => rfl)
        (fun pre W => (pre = [] ∧ W.cell? ⟨w.heap.size + 1, 0, none⟩ = some (.int .i64 0) ∧ W.frozen? ⟨w.heap.size + 1, 0, none⟩ = false ∧ W.cell? ⟨w.heap.size + 1 + 1, 0, none⟩ = some (.bool false) ∧ W.frozen? ⟨w.heap.size + 1 + 1, 0, none⟩ = false) ∧ Below w.heap.size w W)
        (fun c pre W => (c = .ret ∧ ∃ x, pre = [x] ∧ W.cell? ⟨w.heap.size + 1, 0, none⟩ = some (.int .i64 x) ∧ W.cell? ⟨w.heap.size + 1 + 1, 0, none⟩ = some (.bool true)) ∧ Below w.heap.size w W)
        (OwnFrom.and (Own.from (fun s A B row hs hg hr => ⟨hs.1, cell_kept hs.2.1 hg hr, (frozen_kept hs.2.1 hg hr).trans hs.2.2.1, cell_kept hs.2.2.2.1 hg hr, (frozen_kept hs.2.2.2.1 hg hr).trans hs.2.2.2.2⟩) _) (ownFrom_below (Nat.le_refl _) (by simp; omega)))
        (fun c => OwnFrom.and (Own.from (fun s A B row hs hg hr => by obtain ⟨h1, x, h2, h3, h4⟩ := hs; exact ⟨h1, x, h2, cell_kept h3 hg hr, cell_kept h4 hg hr⟩) _) (ownFrom_below (Nat.le_refl _) (by simp; omega)))
        ⟨⟨rfl, hN2.cell 0, hN2.frozen 0, hF2.cell 0, hF2.frozen 0⟩, hbl2⟩ ?a1 ?assign ?body ?done ?stop
      case assign =>
        intro l x W K hK
        gi_wp2
        exact hK
      case body =>
        rintro l pre x W ⟨⟨rfl, c1, f1, c2, f2⟩, hBW⟩ _
        gi_wp2
        refine ⟨(KeepsOthers.setCell _ _ _).trans (KeepsOthers.setCell _ _ _), ⟨rfl, x, rfl, ?_, ?_⟩, (hBW.setCell (by simp) _).setCell (by simp; omega) _⟩
        · rw [World.cell?_setCell_other _ _ _ _ (by simp)]
          exact World.cell?_setCell_same' _ _ _ (by rw [c1]; rfl)
        · exact World.cell?_setCell_same' _ _ _ (by rw [World.cell?_setCell_other _ _ _ _ (by simp), c2]; rfl)
      case done =>
        rintro D ys W hD hys ⟨⟨rfl, c1, f1, c2, f2⟩, hBW⟩ hK
        have hnil : Hid (B.list.head? = none) := Lib.hid (by rw [← hys]; rfl)
        gi_wp2
        have hd1 : (W.setCell ⟨w.heap.size + 1, 0, none⟩ (.int .i64 0)).cell? ⟨w.heap.size + 1, 0, none⟩ = some (.int .i64 0) := World.cell?_setCell_same' _ _ _ (by rw [c1]; rfl)
        have hd2 : ((W.setCell ⟨w.heap.size + 1, 0, none⟩ (.int .i64 0)).setCell ⟨w.heap.size + 1 + 1, 0, none⟩ (.bool false)).cell? ⟨w.heap.size + 1, 0, none⟩ = some (.int .i64 0) := by
          rw [World.cell?_setCell_other _ _ _ _ (by simp)]; exact hd1
        have hd3 : ((W.setCell ⟨w.heap.size + 1, 0, none⟩ (.int .i64 0)).setCell ⟨w.heap.size + 1 + 1, 0, none⟩ (.bool false)).cell? ⟨w.heap.size + 1 + 1, 0, none⟩ = some (.bool false) := World.cell?_setCell_same' _ _ _ (by rw [World.cell?_setCell_other _ _ _ _ (by simp), c2]; rfl)
        have hK' := ((KeepsOthers.setCell W ⟨w.heap.size + 1, 0, none⟩ (.int .i64 0)).trans (KeepsOthers.setCell _ ⟨w.heap.size + 1 + 1, 0, none⟩ (.bool false))).same D _ hK rfl
        have hBB := (hBW.setCell (p := ⟨w.heap.size + 1, 0, none⟩) (by simp) (.int .i64 0)).setCell (p := ⟨w.heap.size + 1 + 1, 0, none⟩) (by simp; omega) (.bool false)
        generalize (W.setCell ⟨w.heap.size + 1, 0, none⟩ (.int .i64 0)).setCell ⟨w.heap.size + 1 + 1, 0, none⟩ (.bool false) = W2 at *
        refine ⟨by simp, .inl ⟨_, _, rfl, run_takeDeferred hK', ?_⟩⟩
        have hk5 := cell_kept hd2 (grownBy_putObj' _ D (.deferred none)) (fun r e => by cases e; exact ⟨_, hK', rfl⟩)
        have hb5 := cell_kept hd3 (grownBy_putObj' _ D (.deferred none)) (fun r e => by cases e; exact ⟨_, hK', rfl⟩)
        refine ⟨pairV none, ?_, by rw [HB.out, hnil.out], hBB.trans (belowK_b (w := w) (Nat.le_refl _) W2 D _ _ (by simp at hD; omega) hK' rfl rfl)⟩
        simp [results, Tryd.results23, go_sem, hk5, hb5, pairV]
      case stop =>
        rintro D c pre W hD hpre ⟨⟨rfl, x, rfl, c1, c2⟩, hBW⟩ hK
        have hhd : Hid (B.list.head? = some x) := Lib.hid (by obtain ⟨s, hs⟩ := hpre; rw [← hs]; rfl)
        gi_wp2
        refine ⟨by simp, .inl ⟨_, _, rfl, run_takeDeferred hK, ?_⟩⟩
        have hk5 := cell_kept c1 (grownBy_putObj' _ D (.deferred none)) (fun r e => by cases e; exact ⟨_, hK, rfl⟩)
        have hb5 := cell_kept c2 (grownBy_putObj' _ D (.deferred none)) (fun r e => by cases e; exact ⟨_, hK, rfl⟩)
        refine ⟨pairV (some x), ?_, by rw [HB.out, hhd.out], hBW.trans (belowK_b (w := w) (Nat.le_refl _) W D _ _ (by simp at hD; omega) hK rfl rfl)⟩
        simp [results, Tryd.results23, go_sem, hk5, hb5, pairV]
set_option maxRecDepth 100000 in
set_option maxHeartbeats 4000000 in
theorem next_lo1 (n : Nat) (b : Bits) (hb : b.Ok) (w : World) (hn : n < 256) (hT : TabAt w) (hq : n / 64 = 1) :
    CallsIn Fence.wide 3 Tryd.prog 23 #[b.val, .int .i64 n] w fun e w' => e = .returned (pairV (b.cut n).list.head?) ∧ Below w.heap.size w w' := by
  have HQ := Lib.hid hq
  clear hq
  have hlt := hb.h1
  have hqi : (n : Int) / 64 = 1 := by have := HQ.out; omega
  have hm0 := mask_ok b.w1 (n % 64) (by omega) hlt
  obtain ⟨v, hv⟩ : ∃ v, v = b.w1 &&& (18446744073709551615 - (2 ^ (n % 64) - 1)) := ⟨_, rfl⟩
  rw [← hv] at hm0
  have hV := Lib.hid hv
  have hm := hm0
  clear hv hm0
  have hge : ¬ (256 : Int) ≤ n := by omega
  unfold Bits.val
  refine callsIn_of_wp_marks Tryd.func23 rfl trivial ?_ rfl
  simp only [Tryd.ntmps23, List.size_toArray, List.length_cons, List.length_nil, Nat.reduceAdd, Nat.reduceSub, Array.replicate_succ, Array.replicate_zero, List.push_toArray, List.append_toArray, List.nil_append, List.cons_append]
  gi_wp2_with fail

  have hcut : Hid ((b.setw 1 v).mix (fun _ _ => 0) 1 Bits.zero = b.cut n) := Lib.hid (by unfold Bits.cut; rw [HQ.out, hV.out]; rfl)
  clear hm
  have hA0 : Blk (w.alloc (.cells (b.setw 1 v).cells 24)) w.heap.size 24 (b.setw 1 v).cells := Blk.new _ _ _
  have hN0 : Blk ((w.alloc (.cells (b.setw 1 v).cells 24)).alloc (.cells #[.int .i64 0] 3)) (w.heap.size + 1) 3 #[.int .i64 0] := by simpa using Blk.new (w.alloc (.cells (b.setw 1 v).cells 24)) 3 #[.int .i64 0]
  have hF0 : Blk (((w.alloc (.cells (b.setw 1 v).cells 24)).alloc (.cells #[.int .i64 0] 3)).alloc (.cells #[.bool false] 4)) (w.heap.size + 1 + 1) 4 #[.bool false] := by simpa using Blk.new ((w.alloc (.cells (b.setw 1 v).cells 24)).alloc (.cells #[.int .i64 0] 3)) 4 #[.bool false]
  gi_loopw [25] (fun i wr => ∃ j : Nat, j ≤ 1 ∧ i = .int .i64 j ∧ Blk wr w.heap.size 24 ((b.setw 1 v).mix (fun _ _ => 0) j Bits.zero).cells ∧ Blk wr (w.heap.size + 1) 3 #[.int .i64 0] ∧ Blk wr (w.heap.size + 1 + 1) 4 #[.bool false] ∧ Below w.heap.size w wr) (fun i _ => 1 - (intOf i).toNat)
  case atStart => exact ⟨0, by omega, rfl, by rw [mix_zero]; exact (hA0.alloc _).alloc _, hN0.alloc _, hF0, (((Below.refl _ _).alloc (Nat.le_refl _) _).alloc (by simp) _).alloc (by simp; omega) _⟩
  case round =>
    obtain ⟨j, hj, rfl, hA, hN, hF, hbl⟩ := hrel
    clear hA0 hN0 hF0
    by_cases hjk : j < 1
    · have hs := Lib.hid (zap_step (b.setw 1 v) j (by omega))
      have hcj := (hA.cell j).trans (cell_word _ j (by omega))
      have hzj := hA.frozen j
      gi_wp2_with fail
      go_roundw
      case rel => exact ⟨j + 1, by omega, by go_num, by rw [← hs.out]; exact hA.put j _, hN.far (by simp) _, hF.far (by simp; omega) _, hbl.setCell (Nat.le_refl _) _⟩
      case measure => simp [intOf]; omega
    · obtain rfl : j = 1 := by omega
      rw [hcut.out] at hA
      have hc := hA.cell
      have hok := cut_ok b hb n
      clear hcut hjk hj
      generalize hBq : b.cut n = B at *
      have HB := Lib.hid hBq
      clear hBq
      simp only [Bits.cells] at hc
      have hea := each_any B wr
      unfold Bits.val at hea
      have hltF := hF.lt
      gi_wp2_with (refine ⟨trivial, ?_⟩; gi_at_call 31; refine (callsIn_wide.2 hea).mono ?_; rintro e w' ⟨rfl, rfl⟩)
      have hB2 : Blk (wr.alloc (.cells B.cells 24)) wr.heap.size 24 B.cells := Blk.new _ _ _
      have hT2 : TabAt (wr.alloc (.cells B.cells 24)) := hT.below (hbl.alloc hbl.size _) (glob_lt hT)
      have hgl := glob_lt hT
      have hsz := hbl.size
      have hbl2 : Below w.heap.size w (wr.alloc (.cells B.cells 24)) := hbl.alloc hbl.size _
      have hN2 := hN.alloc (.cells B.cells 24)
      have hF2 := hF.alloc (.cells B.cells 24)
      refine wpIn_rangeFunc_ownF rfl (by omega) (gf := 35) (lb := #[.pointer (some ⟨wr.heap.size, 0, none⟩)]) rfl trivial (enters_of Tryd.func35 (by kernel_rfl) rfl)
        (each_stops 2 (by omega) wr.heap.size (wr.heap.size + 1) B hok _ hB2 (by omega) (by omega) (by simp) hT2) belowK_t (belowK_b (by simp)) (Below.refl _ _) (fun _ => rfl)
        (fun pre W => (pre = [] ∧ W.cell? ⟨w.heap.size + 1, 0, none⟩ = some (.int .i64 0) ∧ W.frozen? ⟨w.heap.size + 1, 0, none⟩ = false ∧ W.cell? ⟨w.heap.size + 1 + 1, 0, none⟩ = some (.bool false) ∧ W.frozen? ⟨w.heap.size + 1 + 1, 0, none⟩ = false) ∧ Below w.heap.size w W)
        (fun c pre W => (c = .ret ∧ ∃ x, pre = [x] ∧ W.cell? ⟨w.heap.size + 1, 0, none⟩ = some (.int .i64 x) ∧ W.cell? ⟨w.heap.size + 1 + 1, 0, none⟩ = some (.bool true)) ∧ Below w.heap.size w W)
        (OwnFrom.and (Own.from (fun s A B row hs hg hr => ⟨hs.1, cell_kept hs.2.1 hg hr, (frozen_kept hs.2.1 hg hr).trans hs.2.2.1, cell_kept hs.2.2.2.1 hg hr, (frozen_kept hs.2.2.2.1 hg hr).trans hs.2.2.2.2⟩) _) (ownFrom_below (Nat.le_refl _) (by simp; omega)))
        (fun c => OwnFrom.and (Own.from (fun s A B row hs hg hr => by obtain ⟨h1, x, h2, h3, h4⟩ := hs; exact ⟨h1, x, h2, cell_kept h3 hg hr, cell_kept h4 hg hr⟩) _) (ownFrom_below (Nat.le_refl _) (by simp; omega)))
        ⟨⟨rfl, hN2.cell 0, hN2.frozen 0, hF2.cell 0, hF2.frozen 0⟩, hbl2⟩ ?a1 ?assign ?body ?done ?stop
      case assign =>
        intro l x W K hK
        gi_wp2
        exact hK
      case body =>
        rintro l pre x W ⟨⟨rfl, c1, f1, c2, f2⟩, hBW⟩ _
        gi_wp2
        refine ⟨(KeepsOthers.setCell _ _ _).trans (KeepsOthers.setCell _ _ _), ⟨rfl, x, rfl, ?_, ?_⟩, (hBW.setCell (by simp) _).setCell (by simp; omega) _⟩
        · rw [World.cell?_setCell_other _ _ _ _ (by simp)]
          exact World.cell?_setCell_same' _ _ _ (by rw [c1]; rfl)
        · exact World.cell?_setCell_same' _ _ _ (by rw [World.cell?_setCell_other _ _ _ _ (by simp), c2]; rfl)
      case done =>
        rintro D ys W hD hys ⟨⟨rfl, c1, f1, c2, f2⟩, hBW⟩ hK
        have hnil : Hid (B.list.head? = none) := Lib.hid (by rw [← hys]; rfl)
        gi_wp2
        have hd1 : (W.setCell ⟨w.heap.size + 1, 0, none⟩ (.int .i64 0)).cell? ⟨w.heap.size + 1, 0, none⟩ = some (.int .i64 0) := World.cell?_setCell_same' _ _ _ (by rw [c1]; rfl)
        have hd2 : ((W.setCell ⟨w.heap.size + 1, 0, none⟩ (.int .i64 0)).setCell ⟨w.heap.size + 1 + 1, 0, none⟩ (.bool false)).cell? ⟨w.heap.size + 1, 0, none⟩ = some (.int .i64 0) := by
          rw [World.cell?_setCell_other _ _ _ _ (by simp)]; exact hd1
        have hd3 : ((W.setCell ⟨w.heap.size + 1, 0, none⟩ (.int .i64 0)).setCell ⟨w.heap.size + 1 + 1, 0, none⟩ (.bool false)).cell? ⟨w.heap.size + 1 + 1, 0, none⟩ = some (.bool false) := World.cell?_setCell_same' _ _ _ (by rw [World.cell?_setCell_other _ _ _ _ (by simp), c2]; rfl)
        have hK' := ((KeepsOthers.setCell W ⟨w.heap.size + 1, 0, none⟩ (.int .i64 0)).trans (KeepsOthers.setCell _ ⟨w.heap.size + 1 + 1, 0, none⟩ (.bool false))).same D _ hK rfl
        have hBB := (hBW.setCell (p := ⟨w.heap.size + 1, 0, none⟩) (by simp) (.int .i64 0)).setCell (p := ⟨w.heap.size + 1 + 1, 0, none⟩) (by simp; omega) (.bool false)
        generalize (W.setCell ⟨w.heap.size + 1, 0, none⟩ (.int .i64 0)).setCell ⟨w.heap.size + 1 + 1, 0, none⟩ (.bool false) = W2 at *
        refine ⟨by simp, .inl ⟨_, _, rfl, run_takeDeferred hK', ?_⟩⟩
        have hk5 := cell_kept hd2 (grownBy_putObj' _ D (.deferred none)) (fun r e => by cases e; exact ⟨_, hK', rfl⟩)
        have hb5 := cell_kept hd3 (grownBy_putObj' _ D (.deferred none)) (fun r e => by cases e; exact ⟨_, hK', rfl⟩)
        refine ⟨pairV none, ?_, by rw [HB.out, hnil.out], hBB.trans (belowK_b (w := w) (Nat.le_refl _) W2 D _ _ (by simp at hD; omega) hK' rfl rfl)⟩
        simp [results, Tryd.results23, go_sem, hk5, hb5, pairV]
      case stop =>
        rintro D c pre W hD hpre ⟨⟨rfl, x, rfl, c1, c2⟩, hBW⟩ hK
        have hhd : Hid (B.list.head? = some x) := Lib.hid (by obtain ⟨s, hs⟩ := hpre; rw [← hs]; rfl)
        gi_wp2
        refine ⟨by simp, .inl ⟨_, _, rfl, run_takeDeferred hK, ?_⟩⟩
        have hk5 := cell_kept c1 (grownBy_putObj' _ D (.deferred none)) (fun r e => by cases e; exact ⟨_, hK, rfl⟩)
        have hb5 := cell_kept c2 (grownBy_putObj' _ D (.deferred none)) (fun r e => by cases e; exact ⟨_, hK, rfl⟩)
        refine ⟨pairV (some x), ?_, by rw [HB.out, hhd.out], hBW.trans (belowK_b (w := w) (Nat.le_refl _) W D _ _ (by simp at hD; omega) hK rfl rfl)⟩
        simp [results, Tryd.results23, go_sem, hk5, hb5, pairV]
set_option maxRecDepth 100000 in
set_option maxHeartbeats 4000000 in
theorem next_lo2 (n : Nat) (b : Bits) (hb : b.Ok) (w : World) (hn : n < 256) (hT : TabAt w) (hq : n / 64 = 2) :
    CallsIn Fence.wide 3 Tryd.prog 23 #[b.val, .int .i64 n] w fun e w' => e = .returned (pairV (b.cut n).list.head?) ∧ Below w.heap.size w w' := by
  have HQ := Lib.hid hq
  clear hq
  have hlt := hb.h2
  have hqi : (n : Int) / 64 = 2 := by have := HQ.out; omega
  have hm0 := mask_ok b.w2 (n % 64) (by omega) hlt
  obtain ⟨v, hv⟩ : ∃ v, v = b.w2 &&& (18446744073709551615 - (2 ^ (n % 64) - 1)) := ⟨_, rfl⟩
  rw [← hv] at hm0
  have hV := Lib.hid hv
  have hm := hm0
  clear hv hm0
  have hge : ¬ (256 : Int) ≤ n := by omega
  unfold Bits.val
  refine callsIn_of_wp_marks Tryd.func23 rfl trivial ?_ rfl
  simp only [Tryd.ntmps23, List.size_toArray, List.length_cons, List.length_nil, Nat.reduceAdd, Nat.reduceSub, Array.replicate_succ, Array.replicate_zero, List.push_toArray, List.append_toArray, List.nil_append, List.cons_append]
  gi_wp2_with fail

  have hcut : Hid ((b.setw 2 v).mix (fun _ _ => 0) 2 Bits.zero = b.cut n) := Lib.hid (by unfold Bits.cut; rw [HQ.out, hV.out]; rfl)
  clear hm
  have hA0 : Blk (w.alloc (.cells (b.setw 2 v).cells 24)) w.heap.size 24 (b.setw 2 v).cells := Blk.new _ _ _
  have hN0 : Blk ((w.alloc (.cells (b.setw 2 v).cells 24)).alloc (.cells #[.int .i64 0] 3)) (w.heap.size + 1) 3 #[.int .i64 0] := by simpa using Blk.new (w.alloc (.cells (b.setw 2 v).cells 24)) 3 #[.int .i64 0]
  have hF0 : Blk (((w.alloc (.cells (b.setw 2 v).cells 24)).alloc (.cells #[.int .i64 0] 3)).alloc (.cells #[.bool false] 4)) (w.heap.size + 1 + 1) 4 #[.bool false] := by simpa using Blk.new ((w.alloc (.cells (b.setw 2 v).cells 24)).alloc (.cells #[.int .i64 0] 3)) 4 #[.bool false]
  gi_loopw [25] (fun i wr => ∃ j : Nat, j ≤ 2 ∧ i = .int .i64 j ∧ Blk wr w.heap.size 24 ((b.setw 2 v).mix (fun _ _ => 0) j Bits.zero).cells ∧ Blk wr (w.heap.size + 1) 3 #[.int .i64 0] ∧ Blk wr (w.heap.size + 1 + 1) 4 #[.bool false] ∧ Below w.heap.size w wr) (fun i _ => 2 - (intOf i).toNat)
  case atStart => exact ⟨0, by omega, rfl, by rw [mix_zero]; exact (hA0.alloc _).alloc _, hN0.alloc _, hF0, (((Below.refl _ _).alloc (Nat.le_refl _) _).alloc (by simp) _).alloc (by simp; omega) _⟩
  case round =>
    obtain ⟨j, hj, rfl, hA, hN, hF, hbl⟩ := hrel
    clear hA0 hN0 hF0
    by_cases hjk : j < 2
    · have hs := Lib.hid (zap_step (b.setw 2 v) j (by omega))
      have hcj := (hA.cell j).trans (cell_word _ j (by omega))
      have hzj := hA.frozen j
      gi_wp2_with fail
      go_roundw
      case rel => exact ⟨j + 1, by omega, by go_num, by rw [← hs.out]; exact hA.put j _, hN.far (by simp) _, hF.far (by simp; omega) _, hbl.setCell (Nat.le_refl _) _⟩
      case measure => simp [intOf]; omega
    · obtain rfl : j = 2 := by omega
      rw [hcut.out] at hA
      have hc := hA.cell
      have hok := cut_ok b hb n
      clear hcut hjk hj
      generalize hBq : b.cut n = B at *
      have HB := Lib.hid hBq
      clear hBq
      simp only [Bits.cells] at hc
      have hea := each_any B wr
      unfold Bits.val at hea
      have hltF := hF.lt
      gi_wp2_with (refine ⟨trivial, ?_⟩; gi_at_call 31; refine (callsIn_wide.2 hea).mono ?_; rintro e w' ⟨rfl, rfl⟩)
      have hB2 : Blk (wr.alloc (.cells B.cells 24)) wr.heap.size 24 B.cells := Blk.new _ _ _
      have hT2 : TabAt (wr.alloc (.cells B.cells 24)) := hT.below (hbl.alloc hbl.size _) (glob_lt hT)
      have hgl := glob_lt hT
      have hsz := hbl.size
      have hbl2 : Below w.heap.size w (wr.alloc (.cells B.cells 24)) := hbl.alloc hbl.size _
      have hN2 := hN.alloc (.cells B.cells 24)
      have hF2 := hF.alloc (.cells B.cells 24)
      refine wpIn_rangeFunc_ownF rfl (by omega) (gf := 35) (lb := #[.pointer (some ⟨wr.heap.size, 0, none⟩)]) rfl trivial (enters_of Tryd.func35 (by kernel_rfl) rfl)
        (each_stops 2 (by omega) wr.heap.size (wr.heap.size + 1) B hok _ hB2 (by omega) (by omega) (by simp) hT2) belowK_t (belowK_b (by simp)) (Below.refl _ _) (fun _ => rfl)
        (fun pre W => (pre = [] ∧ W.cell? ⟨w.heap.size + 1, 0, none⟩ = some (.int .i64 0) ∧ W.frozen? ⟨w.heap.size + 1, 0, none⟩ = false ∧ W.cell? ⟨w.heap.size + 1 + 1, 0, none⟩ = some (.bool false) ∧ W.frozen? ⟨w.heap.size + 1 + 1, 0, none⟩ = false) ∧ Below w.heap.size w W)
        (fun c pre W => (c = .ret ∧ ∃ x, pre = [x] ∧ W.cell? ⟨w.heap.size + 1, 0, none⟩ = some (.int .i64 x) ∧ W.cell? ⟨w.heap.size + 1 + 1, 0, none⟩ = some (.bool true)) ∧ Below w.heap.size w W)
        (OwnFrom.and (Own.from (fun s A B row hs hg hr => ⟨hs.1, cell_kept hs.2.1 hg hr, (frozen_kept hs.2.1 hg hr).trans hs.2.2.1, cell_kept hs.2.2.2.1 hg hr, (frozen_kept hs.2.2.2.1 hg hr).trans hs.2.2.2.2⟩) _) (ownFrom_below (Nat.le_refl _) (by simp; omega)))
        (fun c => OwnFrom.and (Own.from (fun s A B row hs hg hr => by obtain ⟨h1, x, h2, h3, h4⟩ := hs; exact ⟨h1, x, h2, cell_kept h3 hg hr, cell_kept h4 hg hr⟩) _) (ownFrom_below (Nat.le_refl _) (by simp; omega)))
        ⟨⟨rfl, hN2.cell 0, hN2.frozen 0, hF2.cell 0, hF2.frozen 0⟩, hbl2⟩ ?a1 ?assign ?body ?done ?stop
      case assign =>
        intro l x W K hK
        gi_wp2
        exact hK
      case body =>
        rintro l pre x W ⟨⟨rfl, c1, f1, c2, f2⟩, hBW⟩ _
        gi_wp2
        refine ⟨(KeepsOthers.setCell _ _ _).trans (KeepsOthers.setCell _ _ _), ⟨rfl, x, rfl, ?_, ?_⟩, (hBW.setCell (by simp) _).setCell (by simp; omega) _⟩
        · rw [World.cell?_setCell_other _ _ _ _ (by simp)]
          exact World.cell?_setCell_same' _ _ _ (by rw [c1]; rfl)
        · exact World.cell?_setCell_same' _ _ _ (by rw [World.cell?_setCell_other _ _ _ _ (by simp), c2]; rfl)
      case done =>
        rintro D ys W hD hys ⟨⟨rfl, c1, f1, c2, f2⟩, hBW⟩ hK
        have hnil : Hid (B.list.head? = none) := Lib.hid (by rw [← hys]; rfl)
        gi_wp2
        have hd1 : (W.setCell ⟨w.heap.size + 1, 0, none⟩ (.int .i64 0)).cell? ⟨w.heap.size + 1, 0, none⟩ = some (.int .i64 0) := World.cell?_setCell_same' _ _ _ (by rw [c1]; rfl)
        have hd2 : ((W.setCell ⟨w.heap.size + 1, 0, none⟩ (.int .i64 0)).setCell ⟨w.heap.size + 1 + 1, 0, none⟩ (.bool false)).cell? ⟨w.heap.size + 1, 0, none⟩ = some (.int .i64 0) := by
          rw [World.cell?_setCell_other _ _ _ _ (by simp)]; exact hd1
        have hd3 : ((W.setCell ⟨w.heap.size + 1, 0, none⟩ (.int .i64 0)).setCell ⟨w.heap.size + 1 + 1, 0, none⟩ (.bool false)).cell? ⟨w.heap.size + 1 + 1, 0, none⟩ = some (.bool false) := World.cell?_setCell_same' _ _ _ (by rw [World.cell?_setCell_other _ _ _ _ (by simp), c2]; rfl)
        have hK' := ((KeepsOthers.setCell W ⟨w.heap.size + 1, 0, none⟩ (.int .i64 0)).trans (KeepsOthers.setCell _ ⟨w.heap.size + 1 + 1, 0, none⟩ (.bool false))).same D _ hK rfl
        have hBB := (hBW.setCell (p := ⟨w.heap.size + 1, 0, none⟩) (by simp) (.int .i64 0)).setCell (p := ⟨w.heap.size + 1 + 1, 0, none⟩) (by simp; omega) (.bool false)
        generalize (W.setCell ⟨w.heap.size + 1, 0, none⟩ (.int .i64 0)).setCell ⟨w.heap.size + 1 + 1, 0, none⟩ (.bool false) = W2 at *
        refine ⟨by simp, .inl ⟨_, _, rfl, run_takeDeferred hK', ?_⟩⟩
        have hk5 := cell_kept hd2 (grownBy_putObj' _ D (.deferred none)) (fun r e => by cases e; exact ⟨_, hK', rfl⟩)
        have hb5 := cell_kept hd3 (grownBy_putObj' _ D (.deferred none)) (fun r e => by cases e; exact ⟨_, hK', rfl⟩)
        refine ⟨pairV none, ?_, by rw [HB.out, hnil.out], hBB.trans (belowK_b (w := w) (Nat.le_refl _) W2 D _ _ (by simp at hD; omega) hK' rfl rfl)⟩
        simp [results, Tryd.results23, go_sem, hk5, hb5, pairV]
      case stop =>
        rintro D c pre W hD hpre ⟨⟨rfl, x, rfl, c1, c2⟩, hBW⟩ hK
        have hhd : Hid (B.list.head? = some x) := Lib.hid (by obtain ⟨s, hs⟩ := hpre; rw [← hs]; rfl)
        gi_wp2
        refine ⟨by simp, .inl ⟨_, _, rfl, run_takeDeferred hK, ?_⟩⟩
        have hk5 := cell_kept c1 (grownBy_putObj' _ D (.deferred none)) (fun r e => by cases e; exact ⟨_, hK, rfl⟩)
        have hb5 := cell_kept c2 (grownBy_putObj' _ D (.deferred none)) (fun r e => by cases e; exact ⟨_, hK, rfl⟩)
        refine ⟨pairV (some x), ?_, by rw [HB.out, hhd.out], hBW.trans (belowK_b (w := w) (Nat.le_refl _) W D _ _ (by simp at hD; omega) hK rfl rfl)⟩
        simp [results, Tryd.results23, go_sem, hk5, hb5, pairV]
set_option maxRecDepth 100000 in
set_option maxHeartbeats 4000000 in
theorem next_lo3 (n : Nat) (b : Bits) (hb : b.Ok) (w : World) (hn : n < 256) (hT : TabAt w) (hq : n / 64 = 3) :
    CallsIn Fence.wide 3 Tryd.prog 23 #[b.val, .int .i64 n] w fun e w' => e = .returned (pairV (b.cut n).list.head?) ∧ Below w.heap.size w w' := by
  have HQ := Lib.hid hq
  clear hq
  have hlt := hb.h3
  have hqi : (n : Int) / 64 = 3 := by have := HQ.out; omega
  have hm0 := mask_ok b.w3 (n % 64) (by omega) hlt
  obtain ⟨v, hv⟩ : ∃ v, v = b.w3 &&& (18446744073709551615 - (2 ^ (n % 64) - 1)) := ⟨_, rfl⟩
  rw [← hv] at hm0
  have hV := Lib.hid hv
  have hm := hm0
  clear hv hm0
  have hge : ¬ (256 : Int) ≤ n := by omega
  unfold Bits.val
  refine callsIn_of_wp_marks Tryd.func23 rfl trivial ?_ rfl
  simp only [Tryd.ntmps23, List.size_toArray, List.length_cons, List.length_nil, Nat.reduceAdd, Nat.reduceSub, Array.replicate_succ, Array.replicate_zero, List.push_toArray, List.append_toArray, List.nil_append, List.cons_append]
  gi_wp2_with fail

  have hcut : Hid ((b.setw 3 v).mix (fun _ _ => 0) 3 Bits.zero = b.cut n) := Lib.hid (by unfold Bits.cut; rw [HQ.out, hV.out]; rfl)
  clear hm
  have hA0 : Blk (w.alloc (.cells (b.setw 3 v).cells 24)) w.heap.size 24 (b.setw 3 v).cells := Blk.new _ _ _
  have hN0 : Blk ((w.alloc (.cells (b.setw 3 v).cells 24)).alloc (.cells #[.int .i64 0] 3)) (w.heap.size + 1) 3 #[.int .i64 0] := by simpa using Blk.new (w.alloc (.cells (b.setw 3 v).cells 24)) 3 #[.int .i64 0]
  have hF0 : Blk (((w.alloc (.cells (b.setw 3 v).cells 24)).alloc (.cells #[.int .i64 0] 3)).alloc (.cells #[.bool false] 4)) (w.heap.size + 1 + 1) 4 #[.bool false] := by simpa using Blk.new ((w.alloc (.cells (b.setw 3 v).cells 24)).alloc (.cells #[.int .i64 0] 3)) 4 #[.bool false]
  gi_loopw [25] (fun i wr => ∃ j : Nat, j ≤ 3 ∧ i = .int .i64 j ∧ Blk wr w.heap.size 24 ((b.setw 3 v).mix (fun _ _ => 0) j Bits.zero).cells ∧ Blk wr (w.heap.size + 1) 3 #[.int .i64 0] ∧ Blk wr (w.heap.size + 1 + 1) 4 #[.bool false] ∧ Below w.heap.size w wr) (fun i _ => 3 - (intOf i).toNat)
  case atStart => exact ⟨0, by omega, rfl, by rw [mix_zero]; exact (hA0.alloc _).alloc _, hN0.alloc _, hF0, (((Below.refl _ _).alloc (Nat.le_refl _) _).alloc (by simp) _).alloc (by simp; omega) _⟩
  case round =>
    obtain ⟨j, hj, rfl, hA, hN, hF, hbl⟩ := hrel
    clear hA0 hN0 hF0
    by_cases hjk : j < 3
    · have hs := Lib.hid (zap_step (b.setw 3 v) j (by omega))
      have hcj := (hA.cell j).trans (cell_word _ j (by omega))
      have hzj := hA.frozen j
      gi_wp2_with fail
      go_roundw
      case rel => exact ⟨j + 1, by omega, by go_num, by rw [← hs.out]; exact hA.put j _, hN.far (by simp) _, hF.far (by simp; omega) _, hbl.setCell (Nat.le_refl _) _⟩
      case measure => simp [intOf]; omega
    · obtain rfl : j = 3 := by omega
      rw [hcut.out] at hA
      have hc := hA.cell
      have hok := cut_ok b hb n
      clear hcut hjk hj
      generalize hBq : b.cut n = B at *
      have HB := Lib.hid hBq
      clear hBq
      simp only [Bits.cells] at hc
      have hea := each_any B wr
      unfold Bits.val at hea
      have hltF := hF.lt
      gi_wp2_with (refine ⟨trivial, ?_⟩; gi_at_call 31; refine (callsIn_wide.2 hea).mono ?_; rintro e w' ⟨rfl, rfl⟩)
      have hB2 : Blk (wr.alloc (.cells B.cells 24)) wr.heap.size 24 B.cells := Blk.new _ _ _
      have hT2 : TabAt (wr.alloc (.cells B.cells 24)) := hT.below (hbl.alloc hbl.size _) (glob_lt hT)
      have hgl := glob_lt hT
      have hsz := hbl.size
      have hbl2 : Below w.heap.size w (wr.alloc (.cells B.cells 24)) := hbl.alloc hbl.size _
      have hN2 := hN.alloc (.cells B.cells 24)
      have hF2 := hF.alloc (.cells B.cells 24)
      refine wpIn_rangeFunc_ownF rfl (by omega) (gf := 35) (lb := #[.pointer (some ⟨wr.heap.size, 0, none⟩)]) rfl trivial (enters_of Tryd.func35 (by kernel_rfl) rfl)
        (each_stops 2 (by omega) wr.heap.size (wr.heap.size + 1) B hok _ hB2 (by omega) (by omega) (by simp) hT2) belowK_t (belowK_b (by simp)) (Below.refl _ _) (fun _ => rfl)
        (fun pre W => (pre = [] ∧ W.cell? ⟨w.heap.size + 1, 0, none⟩ = some (.int .i64 0) ∧ W.frozen? ⟨w.heap.size + 1, 0, none⟩ = false ∧ W.cell? ⟨w.heap.size + 1 + 1, 0, none⟩ = some (.bool false) ∧ W.frozen? ⟨w.heap.size + 1 + 1, 0, none⟩ = false) ∧ Below w.heap.size w W)
        (fun c pre W => (c = .ret ∧ ∃ x, pre = [x] ∧ W.cell? ⟨w.heap.size + 1, 0, none⟩ = some (.int .i64 x) ∧ W.cell? ⟨w.heap.size + 1 + 1, 0, none⟩ = some (.bool true)) ∧ Below w.heap.size w W)
        (OwnFrom.and (Own.from (fun s A B row hs hg hr => ⟨hs.1, cell_kept hs.2.1 hg hr, (frozen_kept hs.2.1 hg hr).trans hs.2.2.1, cell_kept hs.2.2.2.1 hg hr, (frozen_kept hs.2.2.2.1 hg hr).trans hs.2.2.2.2⟩) _) (ownFrom_below (Nat.le_refl _) (by simp; omega)))
        (fun c => OwnFrom.and (Own.from (fun s A B row hs hg hr => by obtain ⟨h1, x, h2, h3, h4⟩ := hs; exact ⟨h1, x, h2, cell_kept h3 hg hr, cell_kept h4 hg hr⟩) _) (ownFrom_below (Nat.le_refl _) (by simp; omega)))
        ⟨⟨rfl, hN2.cell 0, hN2.frozen 0, hF2.cell 0, hF2.frozen 0⟩, hbl2⟩ ?a1 ?assign ?body ?done ?stop
      case assign =>
        intro l x W K hK
        gi_wp2
        exact hK
      case body =>
        rintro l pre x W ⟨⟨rfl, c1, f1, c2, f2⟩, hBW⟩ _
        gi_wp2
        refine ⟨(KeepsOthers.setCell _ _ _).trans (KeepsOthers.setCell _ _ _), ⟨rfl, x, rfl, ?_, ?_⟩, (hBW.setCell (by simp) _).setCell (by simp; omega) _⟩
        · rw [World.cell?_setCell_other _ _ _ _ (by simp)]
          exact World.cell?_setCell_same' _ _ _ (by rw [c1]; rfl)
        · exact World.cell?_setCell_same' _ _ _ (by rw [World.cell?_setCell_other _ _ _ _ (by simp), c2]; rfl)
      case done =>
        rintro D ys W hD hys ⟨⟨rfl, c1, f1, c2, f2⟩, hBW⟩ hK
        have hnil : Hid (B.list.head? = none) := Lib.hid (by rw [← hys]; rfl)
        gi_wp2
        have hd1 : (W.setCell ⟨w.heap.size + 1, 0, none⟩ (.int .i64 0)).cell? ⟨w.heap.size + 1, 0, none⟩ = some (.int .i64 0) := World.cell?_setCell_same' _ _ _ (by rw [c1]; rfl)
        have hd2 : ((W.setCell ⟨w.heap.size + 1, 0, none⟩ (.int .i64 0)).setCell ⟨w.heap.size + 1 + 1, 0, none⟩ (.bool false)).cell? ⟨w.heap.size + 1, 0, none⟩ = some (.int .i64 0) := by
          rw [World.cell?_setCell_other _ _ _ _ (by simp)]; exact hd1
        have hd3 : ((W.setCell ⟨w.heap.size + 1, 0, none⟩ (.int .i64 0)).setCell ⟨w.heap.size + 1 + 1, 0, none⟩ (.bool false)).cell? ⟨w.heap.size + 1 + 1, 0, none⟩ = some (.bool false) := World.cell?_setCell_same' _ _ _ (by rw [World.cell?_setCell_other _ _ _ _ (by simp), c2]; rfl)
        have hK' := ((KeepsOthers.setCell W ⟨w.heap.size + 1, 0, none⟩ (.int .i64 0)).trans (KeepsOthers.setCell _ ⟨w.heap.size + 1 + 1, 0, none⟩ (.bool false))).same D _ hK rfl
        have hBB := (hBW.setCell (p := ⟨w.heap.size + 1, 0, none⟩) (by simp) (.int .i64 0)).setCell (p := ⟨w.heap.size + 1 + 1, 0, none⟩) (by simp; omega) (.bool false)
        generalize (W.setCell ⟨w.heap.size + 1, 0, none⟩ (.int .i64 0)).setCell ⟨w.heap.size + 1 + 1, 0, none⟩ (.bool false) = W2 at *
        refine ⟨by simp, .inl ⟨_, _, rfl, run_takeDeferred hK', ?_⟩⟩
        have hk5 := cell_kept hd2 (grownBy_putObj' _ D (.deferred none)) (fun r e => by cases e; exact ⟨_, hK', rfl⟩)
        have hb5 := cell_kept hd3 (grownBy_putObj' _ D (.deferred none)) (fun r e => by cases e; exact ⟨_, hK', rfl⟩)
        refine ⟨pairV none, ?_, by rw [HB.out, hnil.out], hBB.trans (belowK_b (w := w) (Nat.le_refl _) W2 D _ _ (by simp at hD; omega) hK' rfl rfl)⟩
        simp [results, Tryd.results23, go_sem, hk5, hb5, pairV]
      case stop =>
        rintro D c pre W hD hpre ⟨⟨rfl, x, rfl, c1, c2⟩, hBW⟩ hK
        have hhd : Hid (B.list.head? = some x) := Lib.hid (by obtain ⟨s, hs⟩ := hpre; rw [← hs]; rfl)
        gi_wp2
        refine ⟨by simp, .inl ⟨_, _, rfl, run_takeDeferred hK, ?_⟩⟩
        have hk5 := cell_kept c1 (grownBy_putObj' _ D (.deferred none)) (fun r e => by cases e; exact ⟨_, hK, rfl⟩)
        have hb5 := cell_kept c2 (grownBy_putObj' _ D (.deferred none)) (fun r e => by cases e; exact ⟨_, hK, rfl⟩)
        refine ⟨pairV (some x), ?_, by rw [HB.out, hhd.out], hBW.trans (belowK_b (w := w) (Nat.le_refl _) W D _ _ (by simp at hD; omega) hK rfl rfl)⟩
        simp [results, Tryd.results23, go_sem, hk5, hb5, pairV]
set_option maxRecDepth 100000 in
set_option maxHeartbeats 4000000 in
theorem next_neg (i : Int) (hi : i < 0) (b : Bits) (hb : b.Ok) (w : World) (hT : TabAt w) :
    CallsIn Fence.wide 3 Tryd.prog 23 #[b.val, .int .i64 i] w fun e w' => e = .returned (pairV (b.cut 0).list.head?) ∧ Below w.heap.size w w' := by
  obtain ⟨n, hn0⟩ : ∃ n, n = 0 := ⟨0, rfl⟩
  have HN : Hid (n = 0) := Lib.hid hn0
  rw [← hn0]
  have hq : n / 64 = 0 := by omega
  clear hn0
  have HQ := Lib.hid hq
  clear hq
  have hlt := hb.h0
  have hm0 := mask_ok b.w0 0 (by omega) hlt
  obtain ⟨v, hv⟩ : ∃ v, v = b.w0 &&& (18446744073709551615 - (2 ^ 0 - 1)) := ⟨_, rfl⟩
  rw [← hv] at hm0
  have hV : Hid (v = b.w0 &&& (18446744073709551615 - (2 ^ (n % 64) - 1))) := Lib.hid (by rw [HN.out]; exact hv)
  have hm : bits BinOp.andNot IntKind.u64 (b.w0 : Int) 0 = (v : Int) := hm0
  clear hv hm0
  unfold Bits.val
  refine callsIn_of_wp_marks Tryd.func23 rfl trivial ?_ rfl
  simp only [Tryd.ntmps23, List.size_toArray, List.length_cons, List.length_nil, Nat.reduceAdd, Nat.reduceSub, Array.replicate_succ, Array.replicate_zero, List.push_toArray, List.append_toArray, List.nil_append, List.cons_append]
  gi_wp2_with fail

  have hcut : Hid ((b.setw 0 v).mix (fun _ _ => 0) 0 Bits.zero = b.cut n) := Lib.hid (by unfold Bits.cut; rw [HQ.out, hV.out]; rfl)
  clear hm
  have hA0 : Blk (w.alloc (.cells (b.setw 0 v).cells 24)) w.heap.size 24 (b.setw 0 v).cells := Blk.new _ _ _
  have hN0 : Blk ((w.alloc (.cells (b.setw 0 v).cells 24)).alloc (.cells #[.int .i64 0] 3)) (w.heap.size + 1) 3 #[.int .i64 0] := by simpa using Blk.new (w.alloc (.cells (b.setw 0 v).cells 24)) 3 #[.int .i64 0]
  have hF0 : Blk (((w.alloc (.cells (b.setw 0 v).cells 24)).alloc (.cells #[.int .i64 0] 3)).alloc (.cells #[.bool false] 4)) (w.heap.size + 1 + 1) 4 #[.bool false] := by simpa using Blk.new ((w.alloc (.cells (b.setw 0 v).cells 24)).alloc (.cells #[.int .i64 0] 3)) 4 #[.bool false]
  gi_loopw [25] (fun i wr => ∃ j : Nat, j ≤ 0 ∧ i = .int .i64 j ∧ Blk wr w.heap.size 24 ((b.setw 0 v).mix (fun _ _ => 0) j Bits.zero).cells ∧ Blk wr (w.heap.size + 1) 3 #[.int .i64 0] ∧ Blk wr (w.heap.size + 1 + 1) 4 #[.bool false] ∧ Below w.heap.size w wr) (fun i _ => 0 - (intOf i).toNat)
  case atStart => exact ⟨0, by omega, rfl, by rw [mix_zero]; exact (hA0.alloc _).alloc _, hN0.alloc _, hF0, (((Below.refl _ _).alloc (Nat.le_refl _) _).alloc (by simp) _).alloc (by simp; omega) _⟩
  case round =>
    obtain ⟨j, hj, rfl, hA, hN, hF, hbl⟩ := hrel
    clear hA0 hN0 hF0
    by_cases hjk : j < 0
    · exact absurd hjk (by omega)
    · obtain rfl : j = 0 := by omega
      rw [hcut.out] at hA
      have hc := hA.cell
      have hok := cut_ok b hb n
      clear hcut hjk hj
      generalize hBq : b.cut n = B at *
      have HB := Lib.hid hBq
      clear hBq
      simp only [Bits.cells] at hc
      have hea := each_any B wr
      unfold Bits.val at hea
      have hltF := hF.lt
      gi_wp2_with (refine ⟨trivial, ?_⟩; gi_at_call 31; refine (callsIn_wide.2 hea).mono ?_; rintro e w' ⟨rfl, rfl⟩)
      have hB2 : Blk (wr.alloc (.cells B.cells 24)) wr.heap.size 24 B.cells := Blk.new _ _ _
      have hT2 : TabAt (wr.alloc (.cells B.cells 24)) := hT.below (hbl.alloc hbl.size _) (glob_lt hT)
      have hgl := glob_lt hT
      have hsz := hbl.size
      have hbl2 : Below w.heap.size w (wr.alloc (.cells B.cells 24)) := hbl.alloc hbl.size _
      have hN2 := hN.alloc (.cells B.cells 24)
      have hF2 := hF.alloc (.cells B.cells 24)
      refine wpIn_rangeFunc_ownF rfl (by omega) (gf := 35) (lb := #[.pointer (some ⟨wr.heap.size, 0, none⟩)]) rfl trivial (enters_of Tryd.func35 (by kernel_rfl) rfl)
        (each_stops 2 (by omega) wr.heap.size (wr.heap.size + 1) B hok _ hB2 (by omega) (by omega) (by simp) hT2) belowK_t (belowK_b (by simp)) (Below.refl _ _) (fun _ => rfl)
        (fun pre W => (pre = [] ∧ W.cell? ⟨w.heap.size + 1, 0, none⟩ = some (.int .i64 0) ∧ W.frozen? ⟨w.heap.size + 1, 0, none⟩ = false ∧ W.cell? ⟨w.heap.size + 1 + 1, 0, none⟩ = some (.bool false) ∧ W.frozen? ⟨w.heap.size + 1 + 1, 0, none⟩ = false) ∧ Below w.heap.size w W)
        (fun c pre W => (c = .ret ∧ ∃ x, pre = [x] ∧ W.cell? ⟨w.heap.size + 1, 0, none⟩ = some (.int .i64 x) ∧ W.cell? ⟨w.heap.size + 1 + 1, 0, none⟩ = some (.bool true)) ∧ Below w.heap.size w W)
        (OwnFrom.and (Own.from (fun s A B row hs hg hr => ⟨hs.1, cell_kept hs.2.1 hg hr, (frozen_kept hs.2.1 hg hr).trans hs.2.2.1, cell_kept hs.2.2.2.1 hg hr, (frozen_kept hs.2.2.2.1 hg hr).trans hs.2.2.2.2⟩) _) (ownFrom_below (Nat.le_refl _) (by simp; omega)))
        (fun c => OwnFrom.and (Own.from (fun s A B row hs hg hr => by obtain ⟨h1, x, h2, h3, h4⟩ := hs; exact ⟨h1, x, h2, cell_kept h3 hg hr, cell_kept h4 hg hr⟩) _) (ownFrom_below (Nat.le_refl _) (by simp; omega)))
        ⟨⟨rfl, hN2.cell 0, hN2.frozen 0, hF2.cell 0, hF2.frozen 0⟩, hbl2⟩ ?a1 ?assign ?body ?done ?stop
      case assign =>
        intro l x W K hK
        gi_wp2
        exact hK
      case body =>
        rintro l pre x W ⟨⟨rfl, c1, f1, c2, f2⟩, hBW⟩ _
        gi_wp2
        refine ⟨(KeepsOthers.setCell _ _ _).trans (KeepsOthers.setCell _ _ _), ⟨rfl, x, rfl, ?_, ?_⟩, (hBW.setCell (by simp) _).setCell (by simp; omega) _⟩
        · rw [World.cell?_setCell_other _ _ _ _ (by simp)]
          exact World.cell?_setCell_same' _ _ _ (by rw [c1]; rfl)
        · exact World.cell?_setCell_same' _ _ _ (by rw [World.cell?_setCell_other _ _ _ _ (by simp), c2]; rfl)
      case done =>
        rintro D ys W hD hys ⟨⟨rfl, c1, f1, c2, f2⟩, hBW⟩ hK
        have hnil : Hid (B.list.head? = none) := Lib.hid (by rw [← hys]; rfl)
        gi_wp2
        have hd1 : (W.setCell ⟨w.heap.size + 1, 0, none⟩ (.int .i64 0)).cell? ⟨w.heap.size + 1, 0, none⟩ = some (.int .i64 0) := World.cell?_setCell_same' _ _ _ (by rw [c1]; rfl)
        have hd2 : ((W.setCell ⟨w.heap.size + 1, 0, none⟩ (.int .i64 0)).setCell ⟨w.heap.size + 1 + 1, 0, none⟩ (.bool false)).cell? ⟨w.heap.size + 1, 0, none⟩ = some (.int .i64 0) := by
          rw [World.cell?_setCell_other _ _ _ _ (by simp)]; exact hd1
        have hd3 : ((W.setCell ⟨w.heap.size + 1, 0, none⟩ (.int .i64 0)).setCell ⟨w.heap.size + 1 + 1, 0, none⟩ (.bool false)).cell? ⟨w.heap.size + 1 + 1, 0, none⟩ = some (.bool false) := World.cell?_setCell_same' _ _ _ (by rw [World.cell?_setCell_other _ _ _ _ (by simp), c2]; rfl)
        have hK' := ((KeepsOthers.setCell W ⟨w.heap.size + 1, 0, none⟩ (.int .i64 0)).trans (KeepsOthers.setCell _ ⟨w.heap.size + 1 + 1, 0, none⟩ (.bool false))).same D _ hK rfl
        have hBB := (hBW.setCell (p := ⟨w.heap.size + 1, 0, none⟩) (by simp) (.int .i64 0)).setCell (p := ⟨w.heap.size + 1 + 1, 0, none⟩) (by simp; omega) (.bool false)
        generalize (W.setCell ⟨w.heap.size + 1, 0, none⟩ (.int .i64 0)).setCell ⟨w.heap.size + 1 + 1, 0, none⟩ (.bool false) = W2 at *
        refine ⟨by simp, .inl ⟨_, _, rfl, run_takeDeferred hK', ?_⟩⟩
        have hk5 := cell_kept hd2 (grownBy_putObj' _ D (.deferred none)) (fun r e => by cases e; exact ⟨_, hK', rfl⟩)
        have hb5 := cell_kept hd3 (grownBy_putObj' _ D (.deferred none)) (fun r e => by cases e; exact ⟨_, hK', rfl⟩)
        refine ⟨pairV none, ?_, by rw [HB.out, hnil.out], hBB.trans (belowK_b (w := w) (Nat.le_refl _) W2 D _ _ (by simp at hD; omega) hK' rfl rfl)⟩
        simp [results, Tryd.results23, go_sem, hk5, hb5, pairV]
      case stop =>
        rintro D c pre W hD hpre ⟨⟨rfl, x, rfl, c1, c2⟩, hBW⟩ hK
        have hhd : Hid (B.list.head? = some x) := Lib.hid (by obtain ⟨s, hs⟩ := hpre; rw [← hs]; rfl)
        gi_wp2
        refine ⟨by simp, .inl ⟨_, _, rfl, run_takeDeferred hK, ?_⟩⟩
        have hk5 := cell_kept c1 (grownBy_putObj' _ D (.deferred none)) (fun r e => by cases e; exact ⟨_, hK, rfl⟩)
        have hb5 := cell_kept c2 (grownBy_putObj' _ D (.deferred none)) (fun r e => by cases e; exact ⟨_, hK, rfl⟩)
        refine ⟨pairV (some x), ?_, by rw [HB.out, hhd.out], hBW.trans (belowK_b (w := w) (Nat.le_refl _) W D _ _ (by simp at hD; omega) hK rfl rfl)⟩
        simp [results, Tryd.results23, go_sem, hk5, hb5, pairV]
end Go.Proofs.YtifoeddeofhclaaDoor
