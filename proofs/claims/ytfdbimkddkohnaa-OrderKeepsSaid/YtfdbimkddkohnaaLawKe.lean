/- Order: the law OrderKeeps, walked. -/
import Derived.Test.YtfdbimkddkohnaaLawFi
namespace Go.Proofs.Ytfdbimkddkohnaa
open Go.RowKit
def cntT (l : List Timer) (t : Timer) : Nat := l.countP fun x => decide (x = t)
theorem cntT_take (l : List Timer) (t : Timer) (k : Nat) (hk : k < l.length) : cntT (l.take (k + 1)) t = cntT (l.take k) t + if decide (l[k] = t) = true then 1 else 0 := by
  rw [take_snoc l k hk]
  unfold cntT
  rw [List.countP_append, List.countP_singleton]
theorem cntT_le (l : List Timer) (t : Timer) : cntT l t ≤ l.length := List.countP_le_length
structure KS (A A2 : Option Addr) (c c2 : Nat) (l s : List Timer) (t : Timer) (w w' : World) : Prop where
  l1 : LAt w' (.slice A l.length c) l
  l2 : LAt w' (.slice A2 l.length c2) s
  box : Blk w' w.heap.size 25 #[.int .u64 t.at_, .int .u64 t.seq, .int .i64 t.place]
  below : Below w.heap.size w w'
theorem KS.drew {A A2 : Option Addr} {c c2 : Nat} {l s : List Timer} {t : Timer} {w x : World} (h : KS A A2 c c2 l s t w x) : KS A A2 c c2 l s t w x.drew :=
  ⟨h.l1.on ((Below.refl _ _).drew), h.l2.on ((Below.refl _ _).drew), h.box.drew, h.below.drew⟩
set_option maxRecDepth 100000 in
set_option maxHeartbeats 4000000 in
theorem keeps_walk (v : Value) (l : List Timer) (t : Timer) (w : World) (h : LAt w v l) :
    Calls Try.prog 10 #[v, t.val] w fun e w' => e = .returned (.bool true) ∧ Below w.heap.size w w' := by
  have hlat := h
  obtain ⟨A, c, rfl, _⟩ := h
  have hb0 : Below w.heap.size w (w.alloc (.cells #[.int .u64 t.at_, .int .u64 t.seq, .int .i64 t.place] 25)) := (Below.refl _ _).alloc (Nat.le_refl _) _
  have L0 := Lib.hid (hlat.on hb0)
  have B0 := Lib.hid (Blk.new w 25 #[.int .u64 t.at_, .int .u64 t.seq, .int .i64 t.place])
  have hB := B0.out.cell
  have hcon := oworks_any (w.alloc (.cells #[.int .u64 t.at_, .int .u64 t.seq, .int .i64 t.place] 25))
  clear hlat
  unfold Timer.val
  go_enter Try.func10, Try.ntmps10
  go_wp2_with fail
  refine hcon.mono ?_
  rintro e w1 ⟨rfl, hx⟩
  by_cases hl : l.length ≤ 60
  · have hli : ¬ (60 : Int) < l.length := by omega
    have L1 := Lib.hid (L0.out.on hx)
    have B1 := Lib.hid (B0.out.below hx B0.out.lt)
    have hb1 := hb0.trans (Below.mono hx hb0.size)
    clear hB hcon hx L0 B0 hb0
    have hB := B1.out.cell
    have hcon := osort_any _ l w1 L1.out (by omega)
    have HSL := Lib.hid (sortL_length l)
    have HCN := Lib.hid ((sortL_perm l).countP_eq fun x => decide (x = t))
    have HSR := Lib.hid ((srtB_iff _).2 (sortL_srt l))
    generalize sortL l = s at *
    go_wp2_with fail
    refine hcon.mono ?_
    rintro e w2 ⟨v2, rfl, o2, hx⟩
    obtain ⟨A2, c2, e2, _⟩ := o2.at
    rw [HSL.out] at e2
    subst e2
    have P2 := Lib.hid o2.lat
    clear o2
    have L2 := Lib.hid (L1.out.on hx)
    have B2 := Lib.hid (B1.out.below hx B1.out.lt)
    have hb2 := hb1.trans (Below.mono hx hb1.size)
    clear hB hcon hx L1 B1 hb1
    have hB := B2.out.cell
    have hcon := sorted_lat _ s w2 P2.out (by rw [HSL.out]; omega)
    rw [HSR.out] at hcon
    go_wp2_with fail
    refine hcon.mono ?_
    rintro e w3 ⟨rfl, hx⟩
    have P3 := Lib.hid (P2.out.on hx)
    clear P2
    have L3 := Lib.hid (L2.out.on hx)
    have B3 := Lib.hid (B2.out.below hx B2.out.lt)
    have hb3 := hb2.trans (Below.mono hx hb2.size)
    clear hB hcon hx L2 B2 hb2
    have hB := B3.out.cell
    have k0 : KS A A2 c c2 l s t w w3 := ⟨L3.out, P3.out, B3.out, hb3⟩
    clear hB L3 P3 B3 hb3 HSR
    go_wp2_with fail
    go_loopw [7, 8] (fun n i wr => ∃ (k : Nat) (z : Int), k ≤ l.length ∧ i = .int .i64 k ∧ n = .int .i64 z ∧ z = (cntT (l.take k) t : Int) - cntT (s.take k) t ∧ KS A A2 c c2 l s t w wr) (fun _ i _ => l.length - (intOf i).toNat)
    case atStart => exact ⟨0, 0, Nat.zero_le _, rfl, rfl, by simp [cntT], k0⟩
    case round =>
      obtain ⟨k, z, hk, rfl, rfl, hz, hks⟩ := hrel
      clear k0
      by_cases hlt : k < l.length
      · obtain ⟨b1, o1, rfl, hb1, p0, p1, p2⟩ := hks.l1.tm k hlt
        have hlt2 : k < s.length := by rw [HSL.out]; exact hlt
        obtain ⟨b2, o2, rfl, hb2, q0, q1, q2⟩ := hks.l2.tm k hlt2
        have hB := hks.box.cell
        have HZ1 := Lib.hid (cntT_take l t k hlt)
        have HZ2 := Lib.hid (cntT_take s t k hlt2)
        have hz1 := cntT_le (l.take k) t
        have hz2 := cntT_le (s.take k) t
        simp only [List.length_take] at hz1 hz2
        have hzb : -100 ≤ z ∧ z ≤ 100 := by omega
        have HZ := Lib.hid hz
        have HK := Lib.hid hks
        clear hz hz1 hz2 hks
        generalize l[k] = x at *
        generalize s[k] = y at *
        by_cases hex : x = t <;> by_cases hey : y = t
        · skip
          have hx2 : decide (x = t) = true := by first | exact decide_eq_true hex | exact decide_eq_false hex
          have hy2 : decide (y = t) = true := by first | exact decide_eq_true hey | exact decide_eq_false hey
          have hd : z + 1 - 1 = (cntT (l.take (k + 1)) t : Int) - cntT (s.take (k + 1)) t := by
            rw [HZ1.out, HZ2.out, HZ.out, hx2, hy2]
            simp
            try omega
          have HD := Lib.hid hd
          clear hd hex hey HZ HZ1 HZ2
          go_wp2
          refine still_all (by kernel_rfl) (by kernel_rfl) ?_
          repeat still_step
          refine wpStill_nil ?_
          go_wp2
          refine still_all (by kernel_rfl) (by kernel_rfl) ?_
          repeat still_step
          refine wpStill_nil ?_
          go_wp2
          go_roundw
          case rel => exact ⟨k + 1, z + 1 - 1, by omega, by go_num, by first | rfl | go_num, HD.out, HK.out.drew.drew⟩
          case measure => simp [intOf]; omega
        · skip
          have hx2 : decide (x = t) = true := by first | exact decide_eq_true hex | exact decide_eq_false hex
          have hy2 : decide (y = t) = false := by first | exact decide_eq_true hey | exact decide_eq_false hey
          have hd : z + 1 = (cntT (l.take (k + 1)) t : Int) - cntT (s.take (k + 1)) t := by
            rw [HZ1.out, HZ2.out, HZ.out, hx2, hy2]
            simp
            try omega
          have HD := Lib.hid hd
          clear hd hex hey HZ HZ1 HZ2
          go_wp2
          refine still_all (by kernel_rfl) (by kernel_rfl) ?_
          repeat still_step
          refine wpStill_nil ?_
          go_wp2
          refine still_all (by kernel_rfl) (by kernel_rfl) ?_
          repeat still_step
          refine wpStill_nil ?_
          go_wp2
          go_roundw
          case rel => exact ⟨k + 1, z + 1, by omega, by go_num, by first | rfl | go_num, HD.out, HK.out.drew.drew⟩
          case measure => simp [intOf]; omega
        · skip
          have hx2 : decide (x = t) = false := by first | exact decide_eq_true hex | exact decide_eq_false hex
          have hy2 : decide (y = t) = true := by first | exact decide_eq_true hey | exact decide_eq_false hey
          have hd : z - 1 = (cntT (l.take (k + 1)) t : Int) - cntT (s.take (k + 1)) t := by
            rw [HZ1.out, HZ2.out, HZ.out, hx2, hy2]
            simp
            try omega
          have HD := Lib.hid hd
          clear hd hex hey HZ HZ1 HZ2
          go_wp2
          refine still_all (by kernel_rfl) (by kernel_rfl) ?_
          repeat still_step
          refine wpStill_nil ?_
          go_wp2
          refine still_all (by kernel_rfl) (by kernel_rfl) ?_
          repeat still_step
          refine wpStill_nil ?_
          go_wp2
          go_roundw
          case rel => exact ⟨k + 1, z - 1, by omega, by go_num, by first | rfl | go_num, HD.out, HK.out.drew.drew⟩
          case measure => simp [intOf]; omega
        · skip
          have hx2 : decide (x = t) = false := by first | exact decide_eq_true hex | exact decide_eq_false hex
          have hy2 : decide (y = t) = false := by first | exact decide_eq_true hey | exact decide_eq_false hey
          have hd : z + 0 = (cntT (l.take (k + 1)) t : Int) - cntT (s.take (k + 1)) t := by
            rw [HZ1.out, HZ2.out, HZ.out, hx2, hy2]
            simp
            try omega
          have HD := Lib.hid hd
          clear hd hex hey HZ HZ1 HZ2
          go_wp2
          refine still_all (by kernel_rfl) (by kernel_rfl) ?_
          repeat still_step
          refine wpStill_nil ?_
          go_wp2
          refine still_all (by kernel_rfl) (by kernel_rfl) ?_
          repeat still_step
          refine wpStill_nil ?_
          go_wp2
          go_roundw
          case rel => exact ⟨k + 1, z + 0, by omega, by go_num, by first | rfl | go_num, HD.out, HK.out.drew.drew⟩
          case measure => simp [intOf]; omega
      · have hkl : k = l.length := by omega
        have hz0 : z = 0 := by
          rw [hz, hkl, List.take_length, List.take_of_length_le (by rw [HSL.out]; omega)]
          have := HCN.out
          unfold cntT
          omega
        have hbl := hks.below
        clear hz hks HCN HSL
        subst hz0
        go_wp2
        go_ret
        exact ⟨rfl, hbl⟩
  · have hli : (60 : Int) < l.length := by omega
    have hb1 := hb0.trans (Below.mono hx hb0.size)
    clear hcon hx L0 B0
    go_wp2_with fail
    go_ret
    exact ⟨rfl, hb1⟩
end Go.Proofs.Ytfdbimkddkohnaa
