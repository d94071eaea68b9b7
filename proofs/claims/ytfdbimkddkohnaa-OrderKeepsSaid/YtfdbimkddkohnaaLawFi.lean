/- Order: the laws OrderFinds and OrderCuts, walked. -/
import Derived.Test.YtfdbimkddkohnaaLawSo
namespace Go.Proofs.Ytfdbimkddkohnaa
open Go.RowKit
theorem put_lat (v : Value) (l : List Timer) (t : Timer) (w : World) (h : LAt w v l) (hl : l.length ≤ 100000) :
    Calls Try.prog 40 #[v, t.val] w fun e w' => ∃ v, e = .returned v ∧ OwnT w' w.heap.size v (putL l t) ∧ Below w.heap.size w w' := by
  obtain ⟨A, c, rfl, hT, hc, hm, hA, _⟩ := h
  exact put_any A l c t w hT hl ⟨hc, by unfold maxLen at hm; omega⟩ hA
theorem rfind_lat (v : Value) (l : List Timer) (t : Timer) (w : World) (h : LAt w v l) (hl : l.length ≤ 1000000) :
    Calls Try.prog 41 #[v, t.val] w fun e w' => e = .returned (.int .i64 (nBefore l t)) ∧ Below w.heap.size w w' := by
  obtain ⟨A, c, rfl, hT, _⟩ := h
  exact find_any A l c t w hT hl
theorem ofind_lat (v : Value) (l : List Timer) (t : Timer) (w : World) (h : LAt w v l) (hl : l.length ≤ 1000000) (hs : srtB l = false) :
    Calls Try.prog 39 #[v, t.val] w fun e w' => e = .returned (.tuple #[.int .i64 0, .int .i64 12]) ∧ Below w.heap.size w w' := by
  obtain ⟨A, c, rfl, hT, _⟩ := h
  exact ofind_bad A l c t w hT hl hs
theorem due_lat (v : Value) (l : List Timer) (now : Int) (due : Bool) (w : World) (h : LAt w v l) (hl : l.length ≤ 1000000) :
    Calls Try.prog 43 #[v, .int .u64 now, .bool due] w fun e w' => ∃ v, e = .returned v ∧ OwnT w' w.heap.size v (dueL l now due) ∧ Below w.heap.size w w' := by
  obtain ⟨A, c, rfl, hT, _⟩ := h
  exact due_any A l c now due w hT hl
set_option maxRecDepth 100000 in
set_option maxHeartbeats 2000000 in
theorem finds_walk (v : Value) (l : List Timer) (t : Timer) (w : World) (h : LAt w v l) :
    Calls Try.prog 12 #[v, t.val] w fun e w' => e = .returned (.bool true) ∧ Below w.heap.size w w' := by
  have hlat := h
  obtain ⟨A, c, rfl, _⟩ := h
  have hb0 : Below w.heap.size w (w.alloc (.cells #[.int .u64 t.at_, .int .u64 t.seq, .int .i64 t.place] 25)) := (Below.refl _ _).alloc (Nat.le_refl _) _
  have L0 := Lib.hid (hlat.on hb0)
  have B0 := Lib.hid (Blk.new w 25 #[.int .u64 t.at_, .int .u64 t.seq, .int .i64 t.place])
  have hB := B0.out.cell
  have hcon := oworks_any (w.alloc (.cells #[.int .u64 t.at_, .int .u64 t.seq, .int .i64 t.place] 25))
  clear hlat
  unfold Timer.val
  go_enter Try.func12, Try.ntmps12
  go_wp2_with fail
  refine hcon.mono ?_
  rintro e w1 ⟨rfl, hx⟩
  by_cases hl : l.length ≤ 60
  · have hli : ¬ (60 : Int) < l.length := by omega
    have L1 := Lib.hid (L0.out.on hx)
    have B1 := Lib.hid (B0.out.below hx B0.out.lt)
    have hb1 := hb0.trans (Below.mono hx hb0.size)
    clear hB hcon hx L0 B0 hb0
    have hB := B1.out.cell
    cases hs : srtB l with
    | true =>
    have hcon := find_lat _ l t w1 L1.out (by omega) hs
    have NB := Lib.hid (show nBefore l t = nBefore l t from rfl)
    have hnb := nBefore_le l t
    have HRF := Lib.hid (fun w h => rfind_lat (.slice A l.length c) l t w h (by omega))
    generalize nBefore l t = nb at *
    unfold Timer.val at hcon
    go_wp2_with fail
    refine hcon.mono ?_
    rintro e w2 ⟨rfl, hx⟩
    have L2 := Lib.hid (L1.out.on hx)
    have B2 := Lib.hid (B1.out.below hx B1.out.lt)
    have hb2 := hb1.trans (Below.mono hx hb1.size)
    clear hB hcon hx L1 B1 hb1
    have hB := B2.out.cell
    have hcon := oput_ok _ l t w2 L2.out (by omega) hs
    unfold Timer.val at hcon
    go_wp2_with fail
    refine hcon.mono ?_
    rintro e w3 ⟨v3, rfl, o3, hx⟩
    have P3 := Lib.hid o3.lat
    clear o3
    have L3 := Lib.hid (L2.out.on hx)
    have B3 := Lib.hid (B2.out.below hx B2.out.lt)
    have hb3 := hb2.trans (Below.mono hx hb2.size)
    clear hB hcon hx L2 B2 hb2
    have hB := B3.out.cell
    have hcon := rsorted_lat _ l w3 L3.out (by omega)
    rw [hs] at hcon
    go_wp2_with fail
    refine hcon.mono ?_
    rintro e w4 ⟨rfl, hx⟩
    have P4 := Lib.hid (P3.out.on hx)
    clear P3
    have L4 := Lib.hid (L3.out.on hx)
    have B4 := Lib.hid (B3.out.below hx B3.out.lt)
    have hb4 := hb3.trans (Below.mono hx hb3.size)
    clear hB hcon hx L3 B3 hb3
    have hB := B4.out.cell
    have hcon := put_lat _ l t w4 L4.out (by omega)
    unfold Timer.val at hcon
    go_wp2_with fail
    refine hcon.mono ?_
    rintro e w5 ⟨v5, rfl, o5, hx⟩
    have P5 := Lib.hid (P4.out.on hx)
    have Q5 := Lib.hid o5.lat
    clear P4 o5
    have L5 := Lib.hid (L4.out.on hx)
    have B5 := Lib.hid (B4.out.below hx B4.out.lt)
    have hb5 := hb4.trans (Below.mono hx hb4.size)
    clear hB hcon hx L4 B4 hb4
    have hB := B5.out.cell
    have hcon := same_refl v3 v5 (putL l t) w5 P5.out Q5.out (by rw [putL_length]; omega)
    go_wp2_with fail
    refine hcon.mono ?_
    rintro e w6 ⟨rfl, hx⟩
    clear P5 Q5
    have L6 := Lib.hid (L5.out.on hx)
    have B6 := Lib.hid (B5.out.below hx B5.out.lt)
    have hb6 := hb5.trans (Below.mono hx hb5.size)
    clear hB hcon hx L5 B5 hb5
    have hB := B6.out.cell
    have hcon := HRF.out w6 L6.out
    unfold Timer.val at hcon
    go_wp2_with fail
    refine hcon.mono ?_
    rintro e w7 ⟨rfl, hx⟩
    have L7 := Lib.hid (L6.out.on hx)
    have B7 := Lib.hid (B6.out.below hx B6.out.lt)
    have hb7 := hb6.trans (Below.mono hx hb6.size)
    clear hB hcon hx L6 B6 hb6
    have hB := B7.out.cell
    go_wp2_with fail
    go_ret
    exact ⟨by simp, hb7⟩
    | false =>
    have hcon := ofind_lat _ l t w1 L1.out (by omega) hs
    unfold Timer.val at hcon
    go_wp2_with fail
    refine hcon.mono ?_
    rintro e w2 ⟨rfl, hx⟩
    have L2 := Lib.hid (L1.out.on hx)
    have B2 := Lib.hid (B1.out.below hx B1.out.lt)
    have hb2 := hb1.trans (Below.mono hx hb1.size)
    clear hB hcon hx L1 B1 hb1
    have hB := B2.out.cell
    have hcon := oput_bad _ l t w2 L2.out (by omega) hs
    unfold Timer.val at hcon
    go_wp2_with fail
    refine hcon.mono ?_
    rintro e w3 ⟨rfl, hx⟩
    have L3 := Lib.hid (L2.out.on hx)
    have B3 := Lib.hid (B2.out.below hx B2.out.lt)
    have hb3 := hb2.trans (Below.mono hx hb2.size)
    clear hB hcon hx L2 B2 hb2
    have hB := B3.out.cell
    have hcon := rsorted_lat _ l w3 L3.out (by omega)
    rw [hs] at hcon
    go_wp2_with fail
    refine hcon.mono ?_
    rintro e w4 ⟨rfl, hx⟩
    have L4 := Lib.hid (L3.out.on hx)
    have B4 := Lib.hid (B3.out.below hx B3.out.lt)
    have hb4 := hb3.trans (Below.mono hx hb3.size)
    clear hB hcon hx L3 B3 hb3
    have hB := B4.out.cell
    go_wp2_with fail
    go_ret
    exact ⟨rfl, hb4⟩
  · have hli : (60 : Int) < l.length := by omega
    have hb1 := hb0.trans (Below.mono hx hb0.size)
    clear hcon hx L0 B0
    go_wp2_with fail
    go_ret
    exact ⟨rfl, hb1⟩
set_option maxRecDepth 100000 in
set_option maxHeartbeats 2000000 in
theorem cuts_walk (v : Value) (l : List Timer) (now : Int) (w : World) (h : LAt w v l) (hf : ∀ x ∈ l, x.Fit) (hnow : 0 ≤ now ∧ now ≤ 18446744073709551615) :
    Calls Try.prog 13 #[v, .int .u64 now] w fun e w' => e = .returned (.bool true) ∧ Below w.heap.size w w' := by
  have hlat := h
  obtain ⟨A, c, rfl, _⟩ := h
  have hb0 : Below w.heap.size w w := Below.refl _ _
  have L0 := Lib.hid hlat
  have hcon := oworks_any w
  have HNW := Lib.hid hnow
  clear hlat hnow
  go_enter Try.func13, Try.ntmps13
  go_wp2_with fail
  refine hcon.mono ?_
  rintro e w1 ⟨rfl, hx⟩
  by_cases hl : l.length ≤ 60
  · have hli : ¬ (60 : Int) < l.length := by omega
    have L1 := Lib.hid (L0.out.on hx)
    have hb1 := hb0.trans (Below.mono hx hb0.size)
    clear hcon hx L0 hb0
    cases hs : srtB l with
    | true =>
    have hsr := (srtB_iff l).1 hs
    obtain ⟨e1, e2⟩ := cut_law hsr hf now
    have hflat : [dueL l now true, dueL l now false].flatten = l := by
      rw [← e1, ← e2]
      simp
    have hd1 : (dueL l now true).length ≤ l.length := List.length_filter_le _ _
    have hd2 : (dueL l now false).length ≤ l.length := List.length_filter_le _ _
    have hm : sortL [dueL l now true, dueL l now false].flatten = l := by rw [hflat, hsr.sort_self]
    have hs1 : srtB (dueL l now true) = true := (srtB_iff _).2 (hsr.sub List.filter_sublist)
    have hs2 : srtB (dueL l now false) = true := (srtB_iff _).2 (hsr.sub List.filter_sublist)
    have hcon := ocut_ok _ l now w1 L1.out (by omega) hs HNW.out
    rw [e1, e2] at hcon
    have HM := Lib.hid hm
    have HF := Lib.hid hflat
    have HS1 := Lib.hid hs1
    have HS2 := Lib.hid hs2
    have HD1 := Lib.hid hd1
    have HD2 := Lib.hid hd2
    clear e1 e2 hf hflat hm hs1 hs2 hd1 hd2
    go_wp2_with fail
    refine hcon.mono ?_
    rintro e w2 ⟨v1, v2, rfl, o1, o2, hx⟩
    have P2 := Lib.hid o1.lat
    have Q2 := Lib.hid o2.lat
    clear o1 o2
    have L2 := Lib.hid (L1.out.on hx)
    have hb2 := hb1.trans (Below.mono hx hb1.size)
    clear hcon hx L1 hb1
    have hcon := rsorted_lat _ l w2 L2.out (by omega)
    rw [hs] at hcon
    go_wp2_with fail
    refine hcon.mono ?_
    rintro e w3 ⟨rfl, hx⟩
    have P3 := Lib.hid (P2.out.on hx)
    have Q3 := Lib.hid (Q2.out.on hx)
    clear P2 Q2
    have L3 := Lib.hid (L2.out.on hx)
    have hb3 := hb2.trans (Below.mono hx hb2.size)
    clear hcon hx L2 hb2
    have hcon := due_lat _ l now true w3 L3.out (by omega)
    go_wp2_with fail
    refine hcon.mono ?_
    rintro e w4 ⟨v4, rfl, o4, hx⟩
    have P4 := Lib.hid (P3.out.on hx)
    have Q4 := Lib.hid (Q3.out.on hx)
    have R4 := Lib.hid o4.lat
    clear P3 Q3 o4
    have L4 := Lib.hid (L3.out.on hx)
    have hb4 := hb3.trans (Below.mono hx hb3.size)
    clear hcon hx L3 hb3
    have hcon := same_refl v1 v4 (dueL l now true) w4 P4.out R4.out (by have := HD1.out; omega)
    go_wp2_with fail
    refine hcon.mono ?_
    rintro e w5 ⟨rfl, hx⟩
    have P5 := Lib.hid (P4.out.on hx)
    have Q5 := Lib.hid (Q4.out.on hx)
    clear P4 Q4 R4
    have L5 := Lib.hid (L4.out.on hx)
    have hb5 := hb4.trans (Below.mono hx hb4.size)
    clear hcon hx L4 hb4
    have hcon := due_lat _ l now false w5 L5.out (by omega)
    go_wp2_with fail
    refine hcon.mono ?_
    rintro e w6 ⟨v6, rfl, o6, hx⟩
    have P6 := Lib.hid (P5.out.on hx)
    have Q6 := Lib.hid (Q5.out.on hx)
    have R6 := Lib.hid o6.lat
    clear P5 Q5 o6
    have L6 := Lib.hid (L5.out.on hx)
    have hb6 := hb5.trans (Below.mono hx hb5.size)
    clear hcon hx L5 hb5
    have hcon := same_refl v2 v6 (dueL l now false) w6 Q6.out R6.out (by have := HD2.out; omega)
    go_wp2_with fail
    refine hcon.mono ?_
    rintro e w7 ⟨rfl, hx⟩
    have hp7 := P6.out.on hx
    have hq7 := Q6.out.on hx
    clear P6 Q6 R6
    have L7 := Lib.hid (L6.out.on hx)
    have hb7 := hb6.trans (Below.mono hx hb6.size)
    clear hcon hx L6 hb6
    have hll := LL.two w7 v1 v2 _ _ hp7 hq7
    obtain ⟨A1, c1, rfl, _⟩ := hp7
    obtain ⟨A2, c2, rfl, _⟩ := hq7
    have hcon := merge_ok _ _ 2 _ hll (by simp) (by
      intro x hx
      have := HD1.out
      have := HD2.out
      simp only [List.mem_cons, List.not_mem_nil, or_false] at hx
      rcases hx with rfl | rfl <;> omega) (by simp) (by unfold maxLen; omega) (by rw [HF.out]; omega) (by
      intro x hx
      simp only [List.mem_cons, List.not_mem_nil, or_false] at hx
      rcases hx with rfl | rfl
      · exact HS1.out
      · exact HS2.out)
    rw [HM.out] at hcon
    have hb8 := alloc_kept' w7 (.cells #[.slice A1 (dueL l now true).length c1, .slice A2 (dueL l now false).length c2] 33)
    have L8 := Lib.hid (L7.out.on hb8)
    have hb9 := hb7.trans (Below.mono hb8 hb7.size)
    generalize (dueL l now true).length = n1 at *
    generalize (dueL l now false).length = n2 at *
    clear hll hb8 L7 hb7 HD1 HD2 HS1 HS2 HF HM
    go_wp2_with fail
    refine hcon.mono ?_
    rintro e w9 ⟨v9, rfl, o9, hx⟩
    have hp9 := o9.lat
    have hl9 := L8.out.on hx
    have hb10 := hb9.trans (Below.mono hx hb9.size)
    clear hcon hx o9 L8 hb9
    have hcon := same_refl v9 _ l w9 hp9 hl9 (by omega)
    clear hp9 hl9
    go_wp2_with fail
    refine hcon.mono ?_
    rintro e w10 ⟨rfl, hx⟩
    have hb11 := hb10.trans (Below.mono hx hb10.size)
    clear hcon hx hb10
    go_wp2_with fail
    go_ret
    exact ⟨rfl, hb11⟩
    | false =>
    have hcon := ocut_bad _ l now w1 L1.out (by omega) hs
    go_wp2_with fail
    refine hcon.mono ?_
    rintro e w2 ⟨rfl, hx⟩
    have L2 := Lib.hid (L1.out.on hx)
    have hb2 := hb1.trans (Below.mono hx hb1.size)
    clear hcon hx L1 hb1
    have hcon := rsorted_lat _ l w2 L2.out (by omega)
    rw [hs] at hcon
    go_wp2_with fail
    refine hcon.mono ?_
    rintro e w3 ⟨rfl, hx⟩
    have L3 := Lib.hid (L2.out.on hx)
    have hb3 := hb2.trans (Below.mono hx hb2.size)
    clear hcon hx L2 hb2
    go_wp2_with fail
    go_ret
    exact ⟨rfl, hb3⟩
  · have hli : (60 : Int) < l.length := by omega
    have hb1 := hb0.trans (Below.mono hx hb0.size)
    clear hcon hx L0
    go_wp2_with fail
    go_ret
    exact ⟨rfl, hb1⟩
end Go.Proofs.Ytfdbimkddkohnaa
