/- Order: what the library's sort leaves, as a list of one's own. -/
import Derived.Test.YtfdbimkddkohnaaCmpX
namespace Go.Proofs.Ytfdbimkddkohnaa
open Go.RowKit
theorem flatK_tm (l : List Timer) (t : Nat) (ht : t < l.length * 3) : (Sort.flatK Timer.cells 3 l.toArray)[t]? = (l.flatMap Timer.cells)[t]? := by
  have hd : t / 3 < l.length := by omega
  have hm : t % 3 < 3 := Nat.mod_lt _ (by omega)
  have e := flat_idx l (t / 3) hd (t % 3) hm
  rw [show t / 3 * 3 + t % 3 = t from by omega] at e
  rw [e]
  have hs : t < (Sort.flatK Timer.cells 3 l.toArray).size := by simpa using ht
  rw [Array.getElem?_eq_getElem hs]
  have g := Sort.get_flatK Timer.cells 3 l.toArray t (by simpa using ht)
  rw [getElem!_pos _ t hs] at g
  rw [g, getElem!_pos l.toArray (t / 3) (by simpa using hd)]
  have hc : t % 3 < (l[t / 3]).cells.length := by simpa [Timer.cells] using hm
  simp only [List.getElem_toArray]
  rw [getElem!_pos (l[t / 3]).cells (t % 3) hc, List.getElem?_eq_getElem hc]
theorem flatK_list (l : List Timer) : (Sort.flatK Timer.cells 3 l.toArray).toList = l.flatMap Timer.cells := by
  apply List.ext_getElem?
  intro t
  by_cases ht : t < l.length * 3
  · rw [Array.getElem?_toList, flatK_tm l t ht]
  · rw [List.getElem?_eq_none (by simp; omega), List.getElem?_eq_none (by rw [flat_len]; omega)]
theorem flatK_get (l : List Timer) (t : Nat) (ht : t < l.length * 3) : (l.flatMap Timer.cells)[t]? = some ((Sort.flatK Timer.cells 3 l.toArray)[t]!) := by
  have hs : t < (Sort.flatK Timer.cells 3 l.toArray).size := by simpa using ht
  rw [← flatK_tm l t ht, getElem!_pos _ t hs, Array.getElem?_eq_getElem hs]
theorem own_holds {w : World} {g : Nat} {cur : Array Value} {l : List Timer} (hg : w.heap[g]? = some (.cells cur 25 (0, 0))) (hcur : cur.toList.take (l.length * 3) = l.flatMap Timer.cells) : Sort.HoldsK Timer.cells 3 w g 0 l.toArray := by
  intro j hj
  have hj' : j < l.length * 3 := by simpa using hj
  have e := flatK_get l j hj'
  rw [← hcur, List.getElem?_take_of_lt hj', Array.getElem?_toList] at e
  have hb : Blk w g 25 cur := hg
  refine ⟨?_, ?_⟩
  · rw [hb.cell (0 + j), Nat.zero_add, e]
    rfl
  · exact hb.frozen (0 + j)
theorem putCells_take {cur : Array Value} {l : List Timer} (hc : l.length * 3 ≤ cur.size) : (Sort.putCells id 0 (Sort.flatK Timer.cells 3 l.toArray) cur).toList.take (l.length * 3) = l.flatMap Timer.cells := by
  apply List.ext_getElem?
  intro t
  by_cases ht : t < l.length * 3
  · rw [List.getElem?_take_of_lt ht, Array.getElem?_toList, flatK_get l t ht]
    unfold Sort.putCells
    rw [Array.getElem?_mapIdx, Array.getElem?_eq_getElem (by omega)]
    simp [ht]
  · rw [List.getElem?_take, if_neg ht, List.getElem?_eq_none (by rw [flat_len]; omega)]
theorem sortWorld_block {w : World} {g n k : Nat} {l : List Timer} {os : Array Obj} (hk : k < w.heap.size) (hne : k ≠ g) : (sortWorldK Timer.cells 3 w g 0 n l.toArray os).heap[k]? = w.heap[k]? := by
  unfold sortWorldK Sort.grow Sort.putRowK Sort.putRow Sort.mapBlock Sort.ahead
  simp only
  rw [Array.getElem?_append_left (by simpa using hk), Array.getElem?_modify, if_neg (Ne.symm hne)]
theorem sortWorld_own {w : World} {g cap n : Nat} {cur : Array Value} {l : List Timer} {os : Array Obj} {base : Nat} (hg : w.heap[g]? = some (.cells cur 25 (0, 0))) (hb : base ≤ g) (hl : l.length ≤ cap) (hm : cap ≤ maxLen) (hs : cur.size = cap * 3) :
    OwnT (sortWorldK Timer.cells 3 w g 0 n l.toArray os) base (.slice (some ⟨g, 0, none⟩) l.length cap) l := by
  have hgs : g < w.heap.size := by
    rcases Nat.lt_or_ge g w.heap.size with h | h
    · exact h
    · rw [Array.getElem?_eq_none h] at hg; cases hg
  refine ⟨flat_len l, .inr ⟨g, cap, Sort.putCells id 0 (Sort.flatK Timer.cells 3 l.toArray) cur, rfl, hb, ?_, hl, hm, ?_, putCells_take (by rw [hs]; exact Nat.mul_le_mul_right 3 hl)⟩⟩
  · unfold sortWorldK Sort.grow Sort.putRowK Sort.putRow Sort.mapBlock Sort.ahead
    simp only
    rw [Array.getElem?_append_left (by simpa using hgs), Array.getElem?_modify, if_pos rfl, hg]
    rfl
  · unfold Sort.putCells
    rw [Array.size_mapIdx, hs]
theorem sortWorld_below {w : World} {g n B : Nat} {l : List Timer} {os : Array Obj} (hB : B ≤ g) (hs : B ≤ w.heap.size) : Below B w (sortWorldK Timer.cells 3 w g 0 n l.toArray os) := by
  refine ⟨rfl, rfl, rfl, ?_, fun k hk => sortWorld_block (by omega) (by omega)⟩
  unfold sortWorldK Sort.grow Sort.putRowK Sort.putRow Sort.mapBlock Sort.ahead
  simp
end Go.Proofs.Ytfdbimkddkohnaa
