/- Part 10: the texts TmC, laid end to end by a program. -/
import Derived.Test.YtckkfbepclogcaaGreatDoorPk5
import Derived.Test.YtckkfbepclogcaaGreatDoorPk8
import Derived.Test.YtckkfbepclogcaaGreatDoorPk9
namespace Go.Proofs.YtckkfbepclogcaaGreatDoor
open Go.RowKit
def tmv (tm : Nat → Timer) (t : Nat) : Value :=
  if t % 3 = 0 then .int .u64 (tm (t / 3)).at_ else if t % 3 = 1 then .int .u64 (tm (t / 3)).seq else .int .i64 (tm (t / 3)).place
/-- The cells of n timers. -/
def tmC (n : Nat) (tm : Nat → Timer) : Array Value := (Array.range (n * 3)).map (tmv tm)
theorem tmC_size (n : Nat) (tm : Nat → Timer) : (tmC n tm).size = n * 3 := by simp [tmC]
theorem tmC_get (n : Nat) (tm : Nat → Timer) (t : Nat) (h : t < n * 3) : (tmC n tm)[t]? = some (tmv tm t) := by
  unfold tmC
  rw [Array.getElem?_map]
  simp [h]
theorem tmC_at (n : Nat) (tm : Nat → Timer) (k : Nat) (h : k < n) : (tmC n tm)[k * 3]? = some (.int .u64 (tm k).at_) := by
  rw [tmC_get _ _ _ (by omega)]
  simp [tmv]
theorem tmC_seq (n : Nat) (tm : Nat → Timer) (k : Nat) (h : k < n) : (tmC n tm)[k * 3 + 1]? = some (.int .u64 (tm k).seq) := by
  rw [tmC_get _ _ _ (by omega)]
  simp [tmv, show (k * 3 + 1) % 3 = 1 by omega, show (k * 3 + 1) / 3 = k by omega]
theorem tmC_place (n : Nat) (tm : Nat → Timer) (k : Nat) (h : k < n) : (tmC n tm)[k * 3 + 2]? = some (.int .i64 (tm k).place) := by
  rw [tmC_get _ _ _ (by omega)]
  simp [tmv, show (k * 3 + 2) % 3 = 2 by omega, show (k * 3 + 2) / 3 = k by omega]
theorem tmC_set (n : Nat) (tm : Nat → Timer) (k : Nat) (x : Timer) (h : k < n) :
    (((tmC n tm).setIfInBounds (k * 3) (.int .u64 x.at_)).setIfInBounds (k * 3 + 1) (.int .u64 x.seq)).setIfInBounds (k * 3 + 2) (.int .i64 x.place) = tmC n (updT tm k x) := by
  apply Array.ext_getElem?
  intro t
  simp only [Array.getElem?_setIfInBounds, Array.size_setIfInBounds, tmC_size]
  by_cases ht : t < n * 3
  · rw [tmC_get _ _ _ ht, tmC_get _ _ _ ht]
    unfold tmv
    have H : t % 3 = 0 ∨ t % 3 = 1 ∨ t % 3 = 2 := by omega
    by_cases hk : t / 3 = k
    · rcases H with h0 | h0 | h0
      · rw [if_neg (by omega), if_neg (by omega), if_pos (by omega), if_pos (by omega), if_pos h0, hk, updT_at]
      · rw [if_neg (by omega), if_pos (by omega), if_pos (by omega), if_neg (by omega), if_pos h0, hk, updT_at]
      · rw [if_pos (by omega), if_pos (by omega), if_neg (by omega), if_neg (by omega), hk, updT_at]
    · rw [if_neg (by omega), if_neg (by omega), if_neg (by omega), updT_ne _ _ hk]
  · rw [Array.getElem?_eq_none (by rw [tmC_size]; omega), Array.getElem?_eq_none (by rw [tmC_size]; omega), if_neg (by omega), if_neg (by omega), if_neg (by omega)]
theorem made_tms (n : Nat) : madeCells #[.int .u64 0, .int .u64 0, .int .i64 0] (n * 3) = tmC n (fun _ => Timer.zero) := by
  unfold madeCells tmC
  refine Array.map_congr_left fun t _ => ?_
  unfold tmv
  have H : t % 3 = 0 ∨ t % 3 = 1 ∨ t % 3 = 2 := by omega
  rcases H with h | h | h <;> simp [h, Timer.zero]
/-- The first of the timers that were looked at. -/
def bestL (x : Timer) (l : List Timer) : Timer := l.foldl (fun b y => if y.lt b then y else b) x
theorem bestL_snoc (x : Timer) (l : List Timer) (y : Timer) : bestL x (l ++ [y]) = if y.lt (bestL x l) then y else bestL x l := by
  unfold bestL
  rw [List.foldl_append]
  rfl
theorem first_best (x : Timer) (l : List Timer) : firstL (x :: l) = some (bestL x (x :: l)) := by
  simp [firstL, bestL, Timer.lt_irrefl]
set_option maxRecDepth 100000 in
set_option maxHeartbeats 4000000 in
theorem tfirst_any (v : Value) (l : List Timer) (w : World) (h : LAt w v l) (hl : l.length ≤ 100000) :
    Calls Tryz.prog 41 #[v] w fun e w' => e = .returned (pairT (firstL l)) ∧ Below w.heap.size w w' := by
  obtain ⟨A, c, rfl, hT, hlc, hm, _⟩ := h
  unfold maxLen at hm
  have q0 : Blk (w.alloc (.cells #[.int .u64 0, .int .u64 0, .int .i64 0] 37)) w.heap.size 37 #[.int .u64 0, .int .u64 0, .int .i64 0] := Blk.new _ _ _
  have hb0 : Below w.heap.size w (w.alloc (.cells #[.int .u64 0, .int .u64 0, .int .i64 0] 37)) := (Below.refl _ _).alloc (Nat.le_refl _) _
  have hT2 := hT.below hb0 (Nat.le_refl _)
  cases l with
  | nil =>
    have HB := Lib.hid hb0
    clear hb0 q0 hT hT2
    go_enter Tryz.func41, Tryz.ntmps41
    go_wp2
    refine bodyPost_ret (v := pairT none) (by simp [results, Tryz.results41, go_sem, pairT, Timer.val, Timer.zero]) rfl ⟨rfl, ?_⟩
    first | exact HB.out | exact ((HB.out.setCell (Nat.le_refl _) _).setCell (Nat.le_refl _) _).setCell (Nat.le_refl _) _
  | cons x l =>
    obtain ⟨b, o, rfl, hbb, c0, c1, c2⟩ := hT2 0 (by simp)
    simp only [List.getElem_cons_zero, Nat.zero_mul, Nat.add_zero] at c0 c1 c2
    have hne : (((x :: l).length : Int) == 0) = false := by rw [beq_eq_false_iff_ne]; simp only [List.length_cons]; omega
    have hp1 : (0 : Int) < ((x :: l).length : Int) := by simp only [List.length_cons]; omega
    have hfb := Lib.hid (first_best x l)
    have hx0 : ∀ h : 0 < (x :: l).length, (x :: l)[0] = x := fun _ => rfl
    generalize x :: l = m at *
    clear hT
    go_enter Tryz.func41, Tryz.ntmps41
    go_wp2
    have q1 : Blk ((w.alloc (.cells #[.int .u64 0, .int .u64 0, .int .i64 0] 37)).alloc (.cells #[.int .u64 x.at_, .int .u64 x.seq, .int .i64 x.place] 37)) (w.heap.size + 1) 37 #[.int .u64 x.at_, .int .u64 x.seq, .int .i64 x.place] := alloc2_at _ _ _ _
    have q0' := q0.alloc (.cells #[.int .u64 x.at_, .int .u64 x.seq, .int .i64 x.place] 37)
    have hb1 : Below w.heap.size w ((w.alloc (.cells #[.int .u64 0, .int .u64 0, .int .i64 0] 37)).alloc (.cells #[.int .u64 x.at_, .int .u64 x.seq, .int .i64 x.place] 37)) := hb0.alloc (by simp) _
    have hT3 : TmAt ((w.alloc (.cells #[.int .u64 0, .int .u64 0, .int .i64 0] 37)).alloc (.cells #[.int .u64 x.at_, .int .u64 x.seq, .int .i64 x.place] 37)) w.heap.size (some ⟨b, o, none⟩) m := hT2.alloc (by simp) _
    clear hT2 q0 hb0 c0 c1 c2
    generalize (w.alloc (.cells #[.int .u64 0, .int .u64 0, .int .i64 0] 37)).alloc (.cells #[.int .u64 x.at_, .int .u64 x.seq, .int .i64 x.place] 37) = w1 at *
    go_loopw [15] (fun i wr => ∃ k : Nat, k ≤ m.length ∧ i = .int .i64 k ∧ Blk wr w.heap.size 37 #[.int .u64 0, .int .u64 0, .int .i64 0] ∧ Blk wr (w.heap.size + 1) 37 #[.int .u64 (bestL x (m.take k)).at_, .int .u64 (bestL x (m.take k)).seq, .int .i64 (bestL x (m.take k)).place] ∧ TmAt wr w.heap.size (some ⟨b, o, none⟩) m ∧ Below w.heap.size w wr) (fun i _ => m.length - (intOf i).toNat)
    case atStart => exact ⟨0, Nat.zero_le _, rfl, q0', q1, hT3, hb1⟩
    case round =>
      clear q0' q1 hT3 hb1
      obtain ⟨k, hk, rfl, q0, q1, hT, hb⟩ := hrel
      by_cases hlt : k < m.length
      · obtain ⟨b', o', e, _, c0, c1, c2⟩ := hT k hlt
        simp only [Option.some.injEq, Addr.mk.injEq, and_true] at e
        obtain ⟨rfl, rfl⟩ := e
        have hsn := bestL_snoc x (m.take k) m[k]
        rw [← take_snoc m k hlt] at hsn
        have HS := Lib.hid hsn
        clear hsn hx0
        generalize m[k] = y at *
        generalize bestL x (m.take k) = z at *
        have hcmp := cmp_any y z wr.drew
        have HG := Lib.hid (cmpT_lt y z)
        have d1 := q1.cell
        have l1 := q1.lt
        have l0 := q0.lt
        unfold Timer.val at hcmp
        go_wp2_with fail
        refine still_tail 5 (by kernel_rfl) (by kernel_rfl) ?_
        simp only [List.take_succ_cons, List.take_zero, List.drop_succ_cons, List.drop_zero]
        repeat still_step
        refine wpStill_nil ?_
        go_wp2_with fail
        refine hcmp.mono ?_
        rintro e w2 ⟨rfl, hx⟩
        have g0 := q0.drew.below hx l0
        have g1 := q1.drew.below hx l1
        have gT : TmAt w2 w.heap.size (some ⟨b, o, none⟩) m := hT.drew.below hx hb.size
        have gb : Below w.heap.size w w2 := hb.drew.trans (Below.mono hx hb.size)
        have hbr : b < wr.drew.heap.size := Nat.lt_of_lt_of_le hbb hb.size
        have e0 := (hx.cell (p := ⟨b, o + k * 3, none⟩) hbr).trans c0
        have e1 := (hx.cell (p := ⟨b, o + k * 3 + 1, none⟩) hbr).trans c1
        have e2 := (hx.cell (p := ⟨b, o + k * 3 + 2, none⟩) hbr).trans c2
        clear hx hT hb q0 q1 hcmp d1 l1 l0 c0 c1 c2 hbr
        have hG := HG.out
        by_cases hneg : cmpT y z < 0
        · rw [decide_eq_true hneg] at hG
          have HS2 : Hid (bestL x (m.take (k + 1)) = y) := Lib.hid (by rw [HS.out, ← hG, if_pos rfl])
          have z1 := g1.frozen
          have c1 := g1.cell
          have l1 := g1.lt
          have fin : ∀ w3, w3 = ((w2.setCell ⟨w.heap.size + 1, 0, none⟩ (.int .u64 y.at_)).setCell ⟨w.heap.size + 1, 1, none⟩ (.int .u64 y.seq)).setCell ⟨w.heap.size + 1, 2, none⟩ (.int .i64 y.place) → Blk w3 w.heap.size 37 #[.int .u64 0, .int .u64 0, .int .i64 0] ∧ Blk w3 (w.heap.size + 1) 37 #[.int .u64 y.at_, .int .u64 y.seq, .int .i64 y.place] ∧ TmAt w3 w.heap.size (some ⟨b, o, none⟩) m ∧ Below w.heap.size w w3 := by
            rintro w3 rfl
            have hk3 : Below w.heap.size w2 (((w2.setCell ⟨w.heap.size + 1, 0, none⟩ (.int .u64 y.at_)).setCell ⟨w.heap.size + 1, 1, none⟩ (.int .u64 y.seq)).setCell ⟨w.heap.size + 1, 2, none⟩ (.int .i64 y.place)) := (((Below.refl _ _).setCell (Nat.le_succ _) _).setCell (Nat.le_succ _) _).setCell (Nat.le_succ _) _
            exact ⟨((g0.far (by simp) _).far (by simp) _).far (by simp) _, ((g1.put 0 _).put 1 _).put 2 _, gT.below hk3 (Nat.le_refl _), gb.trans hk3⟩
          clear HG HS hG g0 g1 gT gb
          generalize cmpT y z = c at *
          go_wp2_with fail
          go_roundw
          case rel => exact ⟨k + 1, by omega, by go_num, by rw [HS2.out]; exact fin _ rfl⟩
          case measure => simp [intOf]; omega
        · rw [decide_eq_false hneg] at hG
          have HS2 : Hid (bestL x (m.take (k + 1)) = z) := Lib.hid (by rw [HS.out, ← hG, if_neg (by simp)])
          clear HG HS hG e0 e1 e2
          generalize cmpT y z = c at *
          go_wp2_with fail
          go_roundw
          case rel => exact ⟨k + 1, by omega, by go_num, g0, by rw [HS2.out]; exact g1, gT, gb⟩
          case measure => simp [intOf]; omega
      · have ht : m.take k = m := List.take_of_length_le (by omega)
        rw [ht] at q1
        have c1 := q1.cell
        have z0 := q0.frozen
        have c0 := q0.cell
        have l0 := q0.lt
        have HB : Hid (∀ a b c, Below w.heap.size w (((wr.setCell ⟨w.heap.size, 0, none⟩ a).setCell ⟨w.heap.size, 1, none⟩ b).setCell ⟨w.heap.size, 2, none⟩ c)) := Lib.hid fun _ _ _ => ((hb.setCell (Nat.le_refl _) _).setCell (Nat.le_refl _) _).setCell (Nat.le_refl _) _
        have hs3 := fun a b c i => (((q0.put 0 a).put 1 b).put 2 c).cell i
        clear ht hT hx0 q0 q1 hb
        generalize bestL x m = z at *
        go_wp2_with fail
        refine bodyPost_ret (v := pairT (some z)) (by simp [results, Tryz.results41, go_sem, pairT, Timer.val, hs3]) rfl ⟨by rw [hfb.out], HB.out _ _ _⟩
end Go.Proofs.YtckkfbepclogcaaGreatDoor
