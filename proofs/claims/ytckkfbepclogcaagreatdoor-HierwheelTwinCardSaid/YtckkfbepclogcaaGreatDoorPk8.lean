/- Part 8: the texts CNew, laid end to end by a program. -/
import Derived.OwnWalk
import Derived.Test.YtckkfbepclogcaaGreatDoorPk6
import Derived.Test.YtckkfbepclogcaaGreatDoorPk1
namespace Go.Proofs.YtckkfbepclogcaaGreatDoor
open Go.RowKit
theorem made_blk {w : World} {base g n size : Nat} {e : TypeId} {xs : List Value} (h : w.ownsRow base e size (.slice (some ⟨g, 0, none⟩) n n) n xs) : Blk w g e xs.toArray := by
  rcases h.2 with ⟨hv, _⟩ | ⟨g', cap, cur, hv, hg, hh, hc, hm, hs, ht⟩
  · cases hv
  · simp only [Value.slice.injEq, Option.some.injEq, Addr.mk.injEq, and_true, true_and] at hv
    obtain ⟨rfl, rfl⟩ := hv
    have e2 : cur = xs.toArray := by
      rw [← ht, List.take_of_length_le (by simp [hs])]
    rw [← e2]
    exact hh
theorem grown_below {w w' : World} (h : w.grownBy w' none) : Below w.heap.size w w' := (Below.refl _ _).grown h (Nat.le_refl _) (fun _ e => by cases e)
def nw (i k : Nat) : Nat := if k < i then k else 0
def nwo (i k : Nat) : Option Nat := if k < i then none else some 0
theorem nw_upd (i : Nat) : upd (nw i) i i = nw (i + 1) := by
  funext k
  unfold upd nw
  by_cases h : k = i
  · rw [if_pos h, if_pos (by omega), h]
  · rw [if_neg h]
    by_cases h2 : k < i
    · rw [if_pos h2, if_pos (by omega)]
    · rw [if_neg h2, if_neg (by omega)]
theorem nwo_upd (i : Nat) : updO (nwo i) i none = nwo (i + 1) := by
  funext k
  unfold updO nwo
  by_cases h : k = i
  · rw [if_pos h, if_pos (by omega)]
  · rw [if_neg h]
    by_cases h2 : k < i
    · rw [if_pos h2, if_pos (by omega)]
    · rw [if_neg h2, if_neg (by omega)]
theorem nodeC_congr {n : Nat} {nx pv nx' pv' : Nat → Nat} {inn inn' : Nat → Option Nat} (h1 : ∀ k, k < n → nx k = nx' k) (h2 : ∀ k, k < n → pv k = pv' k) (h3 : ∀ k, k < n → inn k = inn' k) : nodeC n nx pv inn = nodeC n nx' pv' inn' := by
  apply Array.ext_getElem?
  intro t
  by_cases ht : t < n * 3
  · rw [nodeC_get _ _ _ _ _ ht, nodeC_get _ _ _ _ _ ht]
    unfold ndv
    rw [h1 _ (by omega), h2 _ (by omega), h3 _ (by omega)]
  · rw [Array.getElem?_eq_none (by rw [nodeC_size]; omega), Array.getElem?_eq_none (by rw [nodeC_size]; omega)]
theorem made_nodes (n : Nat) : madeCells #[.int .i64 0, .int .i64 0, .int .i64 0] (n * 3) = nodeC n (nw 0) (nw 0) (nwo 0) := by
  unfold madeCells nodeC
  refine Array.map_congr_left fun t _ => ?_
  unfold ndv nw nwo
  have H : t % 3 = 0 ∨ t % 3 = 1 ∨ t % 3 = 2 := by omega
  rcases H with h | h | h <;> simp [h, innI]
theorem info_node : (Tryz.prog.info? 114).map (fun i => (i.zero, i.size, i.bytes)) = some (some (.agg #[.int .i64 0, .int .i64 0, .int .i64 0]), 3, 24) := by kernel_rfl
set_option maxRecDepth 100000 in
set_option maxHeartbeats 2000000 in
theorem cnew_ok (P N : Nat) (w : World) (hP : P ≤ 1024) (hN : N ≤ 1024) :
    Calls Tryz.prog 34 #[.int .i64 P, .int .i64 N] w fun e w' => ∃ c nb, e = .returned (.tuple #[.pointer (some ⟨c, 0, none⟩), .int .i64 0]) ∧ w.heap.size ≤ c ∧ w.heap.size ≤ nb ∧ CM w' c nb P N (fun _ => none) (fun _ => []) ∧ Below w.heap.size w w' := by
  obtain ⟨i0, hi, hz0, hz1, hz2⟩ := info_parts info_node
  go_enter Tryz.func34, Tryz.ntmps34
  go_wp2_with (at_make; refine wpList_make_full _ rfl _ _ 108 rfl w.heap.size 114 i0 (.agg #[.int .i64 0, .int .i64 0, .int .i64 0]) 3 Tryz.underlying108 hi hz0 hz1 .i64 .i64 _ _ (P + N) rfl rfl (by first | rfl | exact (Int.natCast_add _ _).symm | omega) (by first | rfl | exact (Int.natCast_add _ _).symm | omega) (by rw [hz2]; omega) (by unfold maxLen; omega) (Nat.le_refl _) ?_)
  intro w1 hown hgr
  have hb1 := grown_below hgr
  have hn0 : Blk w1 w.heap.size 114 (nodeC (P + N) (nw 0) (nw 0) (nwo 0)) := by
    rw [← made_nodes]
    exact made_blk hown
  have hnl := hn0.lt
  have hsz := hb1.size
  have hP' : ¬ (P : Int) < 0 := by omega
  clear hown hgr hi hz0 hz1 hz2
  go_wp2
  have h0 : CNod (w1.alloc (.cells #[.int .i64 P, .int .i64 N, .slice (some ⟨w.heap.size, 0, none⟩) (P + N) (P + N)] 110)) w1.heap.size w.heap.size (P + N) P N (nw 0) (nw 0) (nwo 0) := ⟨Blk.new _ _ _, hn0.alloc _⟩
  have hb2 : Below w.heap.size w (w1.alloc (.cells #[.int .i64 P, .int .i64 N, .slice (some ⟨w.heap.size, 0, none⟩) (P + N) (P + N)] 110)) := hb1.alloc hsz _
  clear hb1 hn0
  generalize w1.alloc (.cells #[.int .i64 P, .int .i64 N, .slice (some ⟨w.heap.size, 0, none⟩) (P + N) (P + N)] 110) = w2 at *
  generalize w1.heap.size = c at *
  go_loopw [35] (fun i wr => ∃ k : Nat, k ≤ P + N ∧ i = .int .i64 k ∧ CNod wr c w.heap.size (P + N) P N (nw k) (nw k) (nwo k) ∧ Below w.heap.size w wr) (fun i _ => P + N - (intOf i).toNat)
  case atStart => exact ⟨0, Nat.zero_le _, rfl, h0, hb2⟩
  case round =>
    clear h0 hb2
    obtain ⟨k, hk, rfl, hC, hb⟩ := hrel
    have hc := hC.blk.cell
    by_cases hlt : k < P + N
    · have hz := hC.nod.frozen
      have hl := hC.nod.lt
      have d0 := (hC.nod.cell _).trans (nodeC_nx (P + N) _ _ (nwo k) k hlt)
      have d1 := (hC.nod.cell _).trans (nodeC_pv (P + N) _ _ (nwo k) k hlt)
      have d2 := (hC.nod.cell _).trans (nodeC_in (P + N) _ _ (nwo k) k hlt)
      have hs0 := nodeC_set_nx (P + N) (nw k) (nw k) (nwo k) k k hlt
      have hs1 := nodeC_set_pv (P + N) (upd (nw k) k k) (nw k) (nwo k) k k hlt
      have hs2 := nodeC_set_in (P + N) (upd (nw k) k k) (upd (nw k) k k) (nwo k) k none hlt
      rw [nw_upd] at hs0 hs1 hs2
      rw [nwo_upd] at hs2
      have fin : ∀ w3, w3 = ((wr.setCell ⟨w.heap.size, k * 3, none⟩ (.int .i64 k)).setCell ⟨w.heap.size, k * 3 + 1, none⟩ (.int .i64 k)).setCell ⟨w.heap.size, k * 3 + 2, none⟩ (.int .i64 (innI none)) → CNod w3 c w.heap.size (P + N) P N (nw (k + 1)) (nw (k + 1)) (nwo (k + 1)) ∧ Below w.heap.size w w3 := by
        rintro w3 rfl
        refine ⟨⟨((hC.blk.far hC.ne _).far hC.ne _).far hC.ne _, ?_⟩, ((hb.setCell (Nat.le_refl _) _).setCell (Nat.le_refl _) _).setCell (Nat.le_refl _) _⟩
        rw [← hs2, ← hs1, ← hs0]
        exact ((hC.nod.put _ _).put _ _).put _ _
      clear hs0 hs1 hs2 hC hb
      go_wp2
      go_roundw
      case rel => exact ⟨k + 1, by omega, by go_num, (fin _ rfl).1, (fin _ rfl).2⟩
      case measure => simp [intOf]; omega
    · obtain rfl : k = P + N := by omega
      have hd : nodeC (P + N) (nw (P + N)) (nw (P + N)) (nwo (P + N)) = nodeC (P + N) (fun k => k) (fun k => k) (fun _ => none) := nodeC_congr (fun k hk => by simp [nw, hk]) (fun k hk => by simp [nw, hk]) (fun k hk => by simp [nwo, hk])
      have hD : CNod wr c w.heap.size (P + N) P N (fun k => k) (fun k => k) (fun _ => none) := ⟨hC.blk, by rw [← hd]; exact hC.nod⟩
      have HD := Lib.hid hD
      clear hd hD hC
      go_wp2
      refine bodyPost_ret (v := .tuple #[.pointer (some ⟨c, 0, none⟩), .int .i64 0]) (by simp [results, Tryz.results34, go_sem]) rfl ?_
      exact ⟨c, w.heap.size, rfl, hsz, Nat.le_refl _, ⟨_, _, HD.out, ChOk.new P N⟩, hb⟩
end Go.Proofs.YtckkfbepclogcaaGreatDoor
