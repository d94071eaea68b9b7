/- Order: the laws OrderSorts, OrderFinds, OrderCuts, walked. -/
import Derived.Test.YtfdbimkddkohnaaOWorks
namespace Go.Proofs.Ytfdbimkddkohnaa
open Go.RowKit
theorem rsort_lat (v : Value) (l : List Timer) (w : World) (h : LAt w v l) (hl : l.length ≤ 100000) :
    Calls Try.prog 35 #[v] w fun e w' => ∃ v, e = .returned v ∧ OwnT w' w.heap.size v (sortL l) ∧ Below w.heap.size w w' := by
  obtain ⟨A, c, rfl, hT, _⟩ := h
  exact rsort_any A l c w hT hl
theorem rsorted_lw (v : Value) (l : List Timer) (w : World) (h : LW w v l) (hl : l.length ≤ 1000000) :
    Calls Try.prog 37 #[v] w fun e w' => e = .returned (.bool (srtB l)) ∧ Below w.heap.size w w' := by
  obtain ⟨A, c, rfl, hT, _⟩ := h
  exact rsorted_any A l c w hT hl
theorem rsorted_lat (v : Value) (l : List Timer) (w : World) (h : LAt w v l) (hl : l.length ≤ 1000000) :
    Calls Try.prog 37 #[v] w fun e w' => e = .returned (.bool (srtB l)) ∧ Below w.heap.size w w' := rsorted_lw v l w h.lw hl
set_option maxRecDepth 100000 in
set_option maxHeartbeats 2000000 in
theorem sorts_walk (v : Value) (l : List Timer) (w : World) (h : LAt w v l) :
    Calls Try.prog 8 #[v] w fun e w' => e = .returned (.bool true) ∧ Below w.heap.size w w' := by
  have hlat := h
  obtain ⟨A, c, rfl, _⟩ := h
  have hw := oworks_any w
  go_enter Try.func8, Try.ntmps8
  go_wp2_with fail
  refine hw.mono ?_
  rintro e w1 ⟨rfl, hb1⟩
  have l1 := Lib.hid (hlat.on hb1)
  clear hw hlat
  by_cases hl : l.length ≤ 60
  · have hli : ¬ (60 : Int) < l.length := by omega
    have hcon := rsort_lat _ l w1 l1.out (by omega)
    go_wp2_with fail
    refine hcon.mono ?_
    rintro e w2 ⟨v2, rfl, o2, hx⟩
    have s2 := Lib.hid o2.lat
    have l2 := Lib.hid (l1.out.on hx)
    have hb2 := hb1.trans (Below.mono hx hb1.size)
    clear hcon hx o2 l1 hb1
    have hcon := osort_any _ l w2 l2.out (by omega)
    go_wp2_with fail
    refine hcon.mono ?_
    rintro e w3 ⟨v3, rfl, o3, hx⟩
    have s3 := Lib.hid o3.lat
    have l3 := Lib.hid (l2.out.on hx)
    have r3 := Lib.hid (s2.out.on hx)
    have hb3 := hb2.trans (Below.mono hx hb2.size)
    clear hcon hx o3 l2 hb2 s2
    have hcon := same_refl v3 v2 (sortL l) w3 s3.out r3.out (by rw [sortL_length]; omega)
    go_wp2_with fail
    refine hcon.mono ?_
    rintro e w4 ⟨rfl, hx⟩
    have l4 := Lib.hid (l3.out.on hx)
    have hb4 := hb3.trans (Below.mono hx hb3.size)
    clear hcon hx l3 hb3 s3 r3
    have hcon := sorted_lat _ l w4 l4.out (by omega)
    go_wp2_with fail
    refine hcon.mono ?_
    rintro e w5 ⟨rfl, hx⟩
    have l5 := Lib.hid (l4.out.on hx)
    have hb5 := hb4.trans (Below.mono hx hb4.size)
    clear hcon hx l4 hb4
    have hcon := rsorted_lat _ l w5 l5.out (by omega)
    go_wp2_with fail
    refine hcon.mono ?_
    rintro e w6 ⟨rfl, hx⟩
    have hb6 := hb5.trans (Below.mono hx hb5.size)
    clear hcon hx l5 hb5
    generalize srtB l = q
    go_wp2_with fail
    go_ret
    exact ⟨by simp, hb6⟩
  · have hli : (60 : Int) < l.length := by omega
    go_wp2_with fail
    go_ret
    exact ⟨rfl, hb1⟩
end Go.Proofs.Ytfdbimkddkohnaa
