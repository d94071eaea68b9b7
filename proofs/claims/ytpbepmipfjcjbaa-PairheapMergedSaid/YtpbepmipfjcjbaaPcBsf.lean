/- The law: the texts Bsf, laid end to end by a program. -/
import Derived.Shelf.SlSortCmp.QuietGrown
import Derived.Test.YtpbepmipfjcjbaaPk6
namespace Go.Proofs.Ytpbepmipfjcjbaa
open Go.RowKit
theorem Srt.lt_at {l : List Timer} (h : Srt l) (t : Timer) (k : Nat) (hk : k < l.length) : l[k].lt t = decide (k < nBefore l t) := by
  obtain ⟨h1, h2⟩ := h.split t
  by_cases hn : k < nBefore l t
  · rw [decide_eq_true hn]
    refine h1 _ ?_
    rw [List.mem_iff_getElem]
    exact ⟨k, by simp; omega, by simp⟩
  · rw [decide_eq_false hn]
    refine h2 _ ?_
    rw [List.mem_iff_getElem]
    exact ⟨k - nBefore l t, by simp; omega, by simp only [List.getElem_drop]; congr 1; omega⟩
theorem below_grow (w : World) {B : Nat} (hB : B ≤ w.heap.size) (n : Nat) (os : Array Obj) : Below B w (Sort.grow (w.drewN n) os) := by
  refine ⟨rfl, rfl, rfl, ?_, fun k hk => ?_⟩
  · unfold Sort.grow World.drewN
    simp
  · unfold Sort.grow World.drewN
    simp only
    rw [Array.getElem?_append_left (by omega)]
set_option maxRecDepth 100000 in
set_option maxHeartbeats 2000000 in
theorem bsf_any (A : Option Addr) (l : List Timer) (c : Nat) (t : Timer) (w : World) (h : TmAt w w.heap.size A l) (hl : l.length ≤ 1000000) (hs : Srt l) :
    Calls Try.prog 56 #[.slice A l.length c, t.val, .func (.func 48) #[] #[]] w fun e w' => (∃ bt, e = .returned (.tuple #[.int .i64 (nBefore l t), .bool bt])) ∧ Below w.heap.size w w' := by
  have hnb := nBefore_le l t
  have HS := Lib.hid (fun k hk => (cmpT_lt _ _).trans (hs.lt_at t k hk))
  generalize nBefore l t = n at *
  unfold Timer.val
  go_enter Try.func56, Try.ntmps56
  go_wp2_with fail
  go_loopw [9, 10] (fun i j wr => ∃ a b : Nat, i = .int .i64 a ∧ j = .int .i64 b ∧ a ≤ n ∧ n ≤ b ∧ b ≤ l.length ∧ Blk wr w.heap.size 35 #[.int .u64 t.at_, .int .u64 t.seq, .int .i64 t.place] ∧ Below w.heap.size w wr) (fun i j _ => (intOf j).toNat - (intOf i).toNat)
  case atStart => exact ⟨0, l.length, rfl, rfl, Nat.zero_le _, hnb, Nat.le_refl _, Blk.new _ _ _, (Below.refl _ _).alloc (Nat.le_refl _) _⟩
  case round =>
    obtain ⟨a, b, rfl, rfl, ha, hb, hbl, hT, hbel⟩ := hrel
    by_cases hlt : a < b
    · have hmid : (a + b) / 2 < l.length := by omega
      obtain ⟨bb, o, rfl, hbb, c0, c1, c2⟩ := (h.below hbel (Nat.le_refl _)) ((a + b) / 2) hmid
      have hbw : bb < wr.heap.size := Nat.lt_of_lt_of_le hbb hbel.size
      have e1 := HS.out ((a + b) / 2) hmid
      have hne : bb ≠ w.heap.size := by omega
      have HLO := Lib.hid (show cmpT l[(a + b) / 2] t < 0 → (a + b) / 2 + 1 ≤ n from fun e => of_decide_eq_true (e1.symm.trans (decide_eq_true e)))
      have HHI := Lib.hid (show ¬ cmpT l[(a + b) / 2] t < 0 → n ≤ (a + b) / 2 from fun e => Nat.le_of_not_lt (of_decide_eq_false (e1.symm.trans (decide_eq_false e))))
      have hbd := cmp_any l[(a + b) / 2] t wr.drew
      have hcT := hT.cell
      clear e1
      generalize l[(a + b) / 2] = x at *
      unfold Timer.val at hbd
      have HMC := Lib.hid (show ((a : Int) + (b : Int)) / 2 = (((a + b) / 2 : Nat) : Int) by omega)
      have HM := Lib.hid (show a ≤ (a + b) / 2 ∧ (a + b) / 2 < b from by omega)
      go_wp2_with fail
      rw [HMC.out]
      generalize (a + b) / 2 = m at *
      clear h
      refine still_tail 6 (by kernel_rfl) (by kernel_rfl) ?_
      simp only [List.take_succ_cons, List.take_zero, List.drop_succ_cons, List.drop_zero]
      repeat still_step
      refine wpStill_nil ?_
      go_wp2_with fail
      refine hbd.mono ?_
      rintro e w1 ⟨rfl, hx⟩
      have hb1 := hbel.drew.trans (Below.mono hx hbel.size)
      have hT1 := hT.drew.below hx hT.lt
      have hlo := HLO.out
      have hhi := HHI.out
      have hmm := HM.out
      clear hbd hx c0 c1 c2 HLO HHI HM hbel hT hcT
      generalize cmpT x t = cm at *
      by_cases hcm : cm < 0
      · have hs1 := hlo hcm
        clear hlo hhi
        go_wp2_with fail
        go_roundw
        case rel => exact ⟨m + 1, b, by go_num, rfl, hs1, hb, hbl, hT1, hb1⟩
        case measure => simp [intOf]; omega
      · have hs1 := hhi (by omega)
        clear hlo hhi
        go_wp2_with fail
        go_roundw
        case rel => exact ⟨a, m, rfl, rfl, ha, hs1, by omega, hT1, hb1⟩
        case measure => simp [intOf]; omega
    · have hab : a = b := by omega
      have han : n = b := by omega
      subst hab
      by_cases hin : a < l.length
      · obtain ⟨bb, o, rfl, hbb, c0, c1, c2⟩ := (h.below hbel (Nat.le_refl _)) a hin
        have hbw : bb < wr.heap.size := Nat.lt_of_lt_of_le hbb hbel.size
        have hne : bb ≠ w.heap.size := by omega
        have hbd := fun n os => Calls.grown_of (cmp_exact l[a] t (Sort.grow (wr.drewN n) os))
        have d0 := fun n os => cell_grown (w := wr) (by exact hbw) c0 n os
        have d1 := fun n os => cell_grown (w := wr) (by exact hbw) c1 n os
        have d2 := fun n os => cell_grown (w := wr) (by exact hbw) c2 n os
        have dT : ∀ k v, (#[.int .u64 t.at_, .int .u64 t.seq, .int .i64 t.place] : Array Value)[k]? = some v → ∀ n os, (Sort.grow (wr.drewN n) os).cell? ⟨w.heap.size, k, none⟩ = some v := fun k v e n os => cell_grown (w := wr) (by exact hT.lt) ((hT.cell k).trans e) n os
        have t0 := dT 0 _ rfl
        have t1 := dT 1 _ rfl
        have t2 := dT 2 _ rfl
        clear dT c0 c1 c2
        generalize l[a] = x at *
        have HN := Lib.hid han
        have HB := Lib.hid hbel
        have hWs : w.heap.size < wr.heap.size := hT.lt
        clear han h ha hb hlt hbel hT
        unfold Timer.val at hbd
        generalize cmpT x t = cm at *
        have hmix : Try.prog.follows .mixedOrders = true := by kernel_rfl
        go_upto_region 8 with fail
        go_quiet_grown (first | (go_at_call 48; exact hbd _ _))
        go_wp2_with fail
        go_ret2
        exact ⟨⟨_, by rw [HN.out]; rfl⟩, HB.out.trans (below_grow wr (Nat.le_of_lt hWs) _ _)⟩
      · have HN := Lib.hid han
        clear han h ha hb hlt
        have hal : ¬ (a : Int) < l.length := by omega
        have hmix : Try.prog.follows .mixedOrders = true := by kernel_rfl
        have HB := Lib.hid hbel
        have hWs : w.heap.size < wr.heap.size := hT.lt
        clear hbel hT
        have hal2 : a = l.length := by omega
        clear hal hin
        subst hal2
        go_wp2
        go_big_region_o
        go_wp2
        go_ret2
        exact ⟨⟨_, by rw [HN.out]; rfl⟩, HB.out.drew⟩
end Go.Proofs.Ytpbepmipfjcjbaa
