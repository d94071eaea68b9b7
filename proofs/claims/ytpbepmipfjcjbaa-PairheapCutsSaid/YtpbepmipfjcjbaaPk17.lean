/- Part 17: the texts Sort, laid end to end by a program. -/
import Derived.Shelf.SlSortCmp.NoneTotal
import Derived.Test.YtpbepmipfjcjbaaPk6
import Derived.Test.YtpbepmipfjcjbaaPk16
namespace Go.Proofs.Ytpbepmipfjcjbaa
open Go.RowKit
theorem sortf_own (w : World) (base g cap : Nat) (cur : Array Value) (l : List Timer) (hg : w.heap[g]? = some (.cells cur 35 (0, 0))) (hb : base ≤ g) (hl : l.length ≤ cap) (hm : cap ≤ maxLen) (hs : cur.size = cap * 3) (hcur : cur.toList.take (l.length * 3) = l.flatMap Timer.cells) (hbig : l.length ≤ 1000000) (hBw : base ≤ w.heap.size) :
    Calls Try.prog 53 #[.slice (some ⟨g, 0, none⟩) l.length cap, .func (.func 48) #[] #[]] w fun e w' =>
      e = .returned (.tuple #[]) ∧ OwnT w' base (.slice (some ⟨g, 0, none⟩) l.length cap) (sortL l) ∧ Below base w w' := by
  have eg : ∀ args w, (callFunc 48 args).run Try.prog w = .ok (.enter 48 args) w := enters_of Try.func48 (by kernel_rfl) rfl
  have hgs : g < w.heap.size := by
    rcases Nat.lt_or_ge g w.heap.size with h | h
    · exact h
    · rw [Array.getElem?_eq_none h] at hg; cases hg
  have hcon := AnyQ.slices_SortFunc_total Try.sortT 3 Try.isAgg35 Try.sizeOf35 Timer.cells (fun _ => rfl) (fun x v hv => by simp [Timer.cells] at hv; rcases hv with rfl | rfl | rfl <;> rfl) cmpT cmp_swo 48 #[] g 0 cap l.toArray w eg (cmp_lays g 0 _ w) (own_holds hg hcur) hgs (by simp; omega) (fun x y h1 h2 => by rw [ltOf_cmpT] at h1 h2; exact Timer.lt_total h1 h2)
  have e1 : (l.toArray.toList.mergeSort fun x y => !(ltOf cmpT) y x) = sortL l := by
    rw [← merge_sortL]
    simp only [ltOf_cmpT]
  rw [e1] at hcon
  change Calls Try.prog 53 _ _ _ at hcon
  simp only [List.size_toArray] at hcon
  refine hcon.mono ?_
  rintro e w' ⟨rfl, n, os, rfl⟩
  refine ⟨rfl, ?_, sortWorld_below hb hBw⟩
  have ho := sortWorld_own (n := n) (os := os) (l := sortL l) hg hb (by rw [sortL_length]; exact hl) hm hs
  rw [sortL_length] at ho
  exact ho
theorem sortf_any (v : Value) (l : List Timer) (w : World) (base : Nat) (h : OwnT w base v l) (hbig : l.length ≤ 1000000) (hBw : base ≤ w.heap.size) :
    Calls Try.prog 53 #[v, .func (.func 48) #[] #[]] w fun e w' =>
      e = .returned (.tuple #[]) ∧ OwnT w' base v (sortL l) ∧ Below base w w' := by
  rcases h with ⟨hlen, ⟨rfl, h0⟩ | ⟨g, cap, cur, rfl, hb, hg, hl, hm, hs, hcur⟩⟩
  · have hl0 : l = [] := List.eq_nil_of_length_eq_zero h0
    subst hl0
    have hcon := AnyF.slices_SortFunc_none (Try.sortT) none 0 (.func (.func 48) #[] #[]) w
    change Calls Try.prog 53 _ _ _ at hcon
    refine hcon.mono ?_
    rintro e w' ⟨rfl, rfl⟩
    exact ⟨rfl, OwnT.nil _ _, Below.refl _ _⟩
  · exact sortf_own w base g cap cur l hg hb hl hm hs hcur hbig hBw
set_option maxRecDepth 100000 in
set_option maxHeartbeats 2000000 in
theorem osort_any (v : Value) (l : List Timer) (w : World) (h : LAt w v l) (hl : l.length ≤ 1000000) :
    Calls Try.prog 38 #[v] w fun e w' => ∃ v', e = .returned v' ∧ OwnT w' w.heap.size v' (sortL l) ∧ Below w.heap.size w w' := by
  have hcl := clone_any v l w h.lw hl
  go_enter Try.func38, Try.ntmps38
  go_wp2_with fail
  refine hcl.mono ?_
  rintro e w1 ⟨v1, rfl, ho, hx⟩
  have hso := sortf_any v1 l w1 w.heap.size ho hl hx.size
  clear hcl h
  go_wp2_with fail
  refine hso.mono ?_
  rintro e w2 ⟨rfl, ho2, hy⟩
  have hb := hx.trans hy
  clear hso hx hy ho
  go_wp2_with fail
  go_ret
  exact ⟨_, rfl, ho2, hb⟩
end Go.Proofs.Ytpbepmipfjcjbaa
