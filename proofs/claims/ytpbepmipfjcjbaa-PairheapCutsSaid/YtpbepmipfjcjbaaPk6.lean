/- Part 6: the texts CmpX OwnSort, laid end to end by a program. -/
import Derived.Shelf.SlSortCmp.InsertionK
import Derived.Test.YtpbepmipfjcjbaaPk3
namespace Go.Proofs.Ytpbepmipfjcjbaa
open Go.RowKit
set_option maxRecDepth 100000 in
set_option maxHeartbeats 2000000 in
theorem cmp_exact (x y : Timer) (w : World) : Calls Try.prog 48 #[x.val, y.val] w fun e w' => e = .returned (.int .i64 (cmpT x y)) ∧ ∃ q os', w' = Sort.grow (w.drewN q) os' := by
  have HW := Lib.hid (show cmpT x y = if cmpI x.at_ y.at_ ≠ 0 then cmpI x.at_ y.at_ else if cmpI x.seq y.seq ≠ 0 then cmpI x.seq y.seq else cmpI x.place y.place from rfl)
  generalize cmpT x y = c at *
  unfold Timer.val
  go_enter Try.func48, Try.ntmps48
  go_wp2
  refine still_tail 15 (by kernel_rfl) (by kernel_rfl) ?_
  simp only [List.take_succ_cons, List.take_zero, List.drop_succ_cons, List.drop_zero]
  iterate 4 still_step
  still_call (flip (cmp_u x.at_ y.at_ _))
  iterate 4 still_step
  still_call (flip (cmp_u x.seq y.seq _))
  iterate 4 still_step
  still_call (flip (cmp_i x.place y.place _))
  refine wpStill_nil ?_
  go_wp2_with fail
  refine (or_three _ (cmpI x.at_ y.at_) (cmpI x.seq y.seq) (cmpI x.place y.place) _ (fun i => by simpa using (Blk.new ((w.alloc (.cells #[.int .u64 x.at_, .int .u64 x.seq, .int .i64 x.place] 35)).alloc (.cells #[.int .u64 y.at_, .int .u64 y.seq, .int .i64 y.place] 35)) 3 #[.int .i64 (cmpI x.at_ y.at_), .int .i64 (cmpI x.seq y.seq), .int .i64 (cmpI x.place y.place)]).drew.cell i)).mono ?_
  rintro e w' ⟨rfl, rfl⟩
  rw [← HW.out]
  go_wp2_with fail
  go_ret
  exact ⟨rfl, 1, _, by rw [Sort.alloc_eq_grow, Sort.alloc_eq_grow, Sort.alloc_eq_grow, Sort.grow_grow, Sort.grow_grow]; rfl⟩
instance : Inhabited Timer := ⟨Timer.zero⟩
theorem cmp_lays (blk off size : Nat) (w : World) : CmpLays Try.prog 48 #[] Timer.cells 3 cmpT blk off size w :=
  fun _ _ _ _ x y => cmp_exact x y _
theorem ltOf_cmpT (x y : Timer) : ltOf cmpT x y = x.lt y := cmpT_lt x y
theorem cmp_swo : Sort.SWO (ltOf cmpT) where
  irrefl x := by rw [ltOf_cmpT, Timer.lt_irrefl]
  trans x y z h1 h2 := by rw [ltOf_cmpT] at *; exact Timer.lt_trans h1 h2
  ntrans x y z h1 h2 := by rw [ltOf_cmpT] at *; exact Timer.le_trans h2 h1
end Go.Proofs.Ytpbepmipfjcjbaa
namespace Go.Proofs.Ytpbepmipfjcjbaa
open Go.RowKit
theorem flatK_tm (l : List Timer) (t : Nat) (ht : t < l.length * 3) : (Sort.flatK Timer.cells 3 l.toArray)[t]? = (l.flatMap Timer.cells)[t]? := by
  have hd : t / 3 < l.length := by omega
  have hm : t % 3 < 3 := Nat.mod_lt _ (by omega)
  have e := flat_idx l (t / 3) hd (t % 3) hm
  rw [show t / 3 * 3 + t % 3 = t from by omega] at e
  rw [e]
  have hs : t < (Sort.flatK Timer.cells 3 l.toArray).size := by simpa using ht
  rw [Array.getElem?_eq_getElem hs]
  have g := Sort.get_flatK Timer.cells 3 l.toArray t (by simpa using ht)
  rw [getElem!_pos _ t hs] at g
  rw [g, getElem!_pos l.toArray (t / 3) (by simpa using hd)]
  have hc : t % 3 < (l[t / 3]).cells.length := by simpa [Timer.cells] using hm
  simp only [List.getElem_toArray]
  rw [getElem!_pos (l[t / 3]).cells (t % 3) hc, List.getElem?_eq_getElem hc]
theorem flatK_list (l : List Timer) : (Sort.flatK Timer.cells 3 l.toArray).toList = l.flatMap Timer.cells := by
  apply List.ext_getElem?
  intro t
  by_cases ht : t < l.length * 3
  · rw [Array.getElem?_toList, flatK_tm l t ht]
  · rw [List.getElem?_eq_none (by simp; omega), List.getElem?_eq_none (by rw [flat_len]; omega)]
theorem flatK_get (l : List Timer) (t : Nat) (ht : t < l.length * 3) : (l.flatMap Timer.cells)[t]? = some ((Sort.flatK Timer.cells 3 l.toArray)[t]!) := by
  have hs : t < (Sort.flatK Timer.cells 3 l.toArray).size := by simpa using ht
  rw [← flatK_tm l t ht, getElem!_pos _ t hs, Array.getElem?_eq_getElem hs]
theorem own_holds {w : World} {g : Nat} {cur : Array Value} {l : List Timer} (hg : w.heap[g]? = some (.cells cur 35 (0, 0))) (hcur : cur.toList.take (l.length * 3) = l.flatMap Timer.cells) : Sort.HoldsK Timer.cells 3 w g 0 l.toArray := by
  intro j hj
  have hj' : j < l.length * 3 := by simpa using hj
  have e := flatK_get l j hj'
  rw [← hcur, List.getElem?_take_of_lt hj', Array.getElem?_toList] at e
  have hb : Blk w g 35 cur := hg
  refine ⟨?_, ?_⟩
  · rw [hb.cell (0 + j), Nat.zero_add, e]
    rfl
  · exact hb.frozen (0 + j)
theorem putCells_take {cur : Array Value} {l : List Timer} (hc : l.length * 3 ≤ cur.size) : (Sort.putCells id 0 (Sort.flatK Timer.cells 3 l.toArray) cur).toList.take (l.length * 3) = l.flatMap Timer.cells := by
  apply List.ext_getElem?
  intro t
  by_cases ht : t < l.length * 3
  · rw [List.getElem?_take_of_lt ht, Array.getElem?_toList, flatK_get l t ht]
    unfold Sort.putCells
    rw [Array.getElem?_mapIdx, Array.getElem?_eq_getElem (by omega)]
    simp [ht]
  · rw [List.getElem?_take, if_neg ht, List.getElem?_eq_none (by rw [flat_len]; omega)]
theorem sortWorld_block {w : World} {g n k : Nat} {l : List Timer} {os : Array Obj} (hk : k < w.heap.size) (hne : k ≠ g) : (sortWorldK Timer.cells 3 w g 0 n l.toArray os).heap[k]? = w.heap[k]? := by
  unfold sortWorldK Sort.grow Sort.putRowK Sort.putRow Sort.mapBlock Sort.ahead
  simp only
  rw [Array.getElem?_append_left (by simpa using hk), Array.getElem?_modify, if_neg (Ne.symm hne)]
theorem sortWorld_own {w : World} {g cap n : Nat} {cur : Array Value} {l : List Timer} {os : Array Obj} {base : Nat} (hg : w.heap[g]? = some (.cells cur 35 (0, 0))) (hb : base ≤ g) (hl : l.length ≤ cap) (hm : cap ≤ maxLen) (hs : cur.size = cap * 3) :
    OwnT (sortWorldK Timer.cells 3 w g 0 n l.toArray os) base (.slice (some ⟨g, 0, none⟩) l.length cap) l := by
  have hgs : g < w.heap.size := by
    rcases Nat.lt_or_ge g w.heap.size with h | h
    · exact h
    · rw [Array.getElem?_eq_none h] at hg; cases hg
  refine ⟨flat_len l, .inr ⟨g, cap, Sort.putCells id 0 (Sort.flatK Timer.cells 3 l.toArray) cur, rfl, hb, ?_, hl, hm, ?_, putCells_take (by rw [hs]; exact Nat.mul_le_mul_right 3 hl)⟩⟩
  · unfold sortWorldK Sort.grow Sort.putRowK Sort.putRow Sort.mapBlock Sort.ahead
    simp only
    rw [Array.getElem?_append_left (by simpa using hgs), Array.getElem?_modify, if_pos rfl, hg]
    rfl
  · unfold Sort.putCells
    rw [Array.size_mapIdx, hs]
theorem sortWorld_below {w : World} {g n B : Nat} {l : List Timer} {os : Array Obj} (hB : B ≤ g) (hs : B ≤ w.heap.size) : Below B w (sortWorldK Timer.cells 3 w g 0 n l.toArray os) := by
  refine ⟨rfl, rfl, rfl, ?_, fun k hk => sortWorld_block (by omega) (by omega)⟩
  unfold sortWorldK Sort.grow Sort.putRowK Sort.putRow Sort.mapBlock Sort.ahead
  simp
end Go.Proofs.Ytpbepmipfjcjbaa
