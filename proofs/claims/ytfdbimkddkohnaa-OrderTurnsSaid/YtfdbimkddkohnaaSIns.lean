/- Order: slices.Insert of one timer. -/
import Derived.Test.YtfdbimkddkohnaaCopy3
import Derived.Test.YtfdbimkddkohnaaClone
import Derived.Lib.Overlaps
import Derived.Lib.AppendZerosOnto
import Derived.Shelf.RegionOpenPlain
namespace Go.Proofs.Ytfdbimkddkohnaa
open Go.RowKit

set_option maxRecDepth 100000 in
set_option maxHeartbeats 2000000 in
theorem sins_end (v : Value) (l : List Timer) (t : Timer) (base vb : Nat) (w : World) (h : OwnT w base v l) (hb : base ≤ w.heap.size) (hl : l.length ≤ 1000000) (ht : Blk w vb 25 #[.int .u64 t.at_, .int .u64 t.seq, .int .i64 t.place]) (hne : v.ownBlock ≠ some vb) :
    Calls Try.prog 57 #[v, .int .i64 l.length, .slice (some ⟨vb, 0, none⟩) 1 1] w fun e w' => ∃ v', e = .returned v' ∧ OwnT w' base v' (l ++ [t]) ∧ Below base w w' := by
  obtain ⟨i0, hi, hz0, hz1, hz2⟩ := info_parts info_timer
  obtain ⟨A, c, rfl, hT, hc, hm, hA0, hA⟩ := h.lat
  have hown : w.ownsRow base 25 3 (.slice A l.length c) l.length (l.flatMap Timer.cells) := h
  have hsrc : ∀ j u, ([t].flatMap Timer.cells)[j]? = some u → w.cell? ((⟨vb, 0, none⟩ : Addr).add j) = some u := by
    intro j u hj
    have hj3 : j < 3 := by
      have := (List.getElem?_eq_some_iff.1 hj).1
      simpa [Timer.cells] using this
    rw [Addr.add_lit, ht.cell]
    match j, hj3 with
    | 0, _ => simpa [Timer.cells] using hj
    | 1, _ => simpa [Timer.cells] using hj
    | 2, _ => simpa [Timer.cells] using hj
  have hbig : (c : Int) ≤ 9223372036854775807 := by unfold maxLen at hm; omega
  cases A with
  | none =>
    have hc0 := hA0 rfl
    have hl0 : l.length = 0 := by omega
    clear h hT ht hA hA0
    subst hc0
    obtain rfl : l = [] := List.eq_nil_of_length_eq_zero hl0
    go_enter Try.func57, Try.ntmps57
    go_wp2_with (at_builtin; refine wpList_append_own _ rfl _ _ 33 rfl base 25 i0 (.agg #[.int .u64 0, .int .u64 0, .int .i64 0]) 3 24 Try.underlying33 hi hz0 hz1 hz2 rfl (by decide) _ _ _ rfl hown ⟨vb, 0, none⟩ 1 1 ([t].flatMap Timer.cells) rfl ?c0 ?c1 ?c2 ?c3 ?c4 ?c5 ?_)
    case c0 => rfl
    case c1 => exact hsrc
    case c2 => exact one_cell [t]
    case c3 => unfold maxLen; omega
    case c4 => omega
    case c5 => first | exact hb | simp
    intro v2 w2 hown2 hgr2 _
    have hb2 : Below base w w2 := ⟨hgr2.os, hgr2.tape, hgr2.output, hgr2.size, fun k hk => hgr2.block k (by omega) (by simp [Value.ownBlock])⟩
    have hown3 : OwnT w2 base v2 (([] : List Timer) ++ [t]) := by
      unfold OwnT
      simpa using hown2
    clear hgr2 hown2 hown hsrc hi hz0 hz1 hz2
    go_wp2
    go_ret
    exact ⟨_, rfl, hown3, hb2⟩
  | some a =>
    obtain ⟨g, o, sp⟩ := a
    have hg := hA g rfl
    have hbg : base ≤ g := by
      rcases h.2 with ⟨hv, _⟩ | ⟨g', cap', cur', hv, hb', _⟩
      · cases hv
      · injection hv with hv
        injection hv with hv
        injection hv with hv
        omega
    have hcl : (l.length : Int) ≤ c := by omega
    clear h hT ht hA hA0
    by_cases hce : c = l.length
    · subst hce
      go_enter Try.func57, Try.ntmps57
      go_wp2_with (at_builtin; refine wpList_append_own _ rfl _ _ 33 rfl base 25 i0 (.agg #[.int .u64 0, .int .u64 0, .int .i64 0]) 3 24 Try.underlying33 hi hz0 hz1 hz2 rfl (by decide) _ _ _ rfl hown ⟨vb, 0, none⟩ 1 1 ([t].flatMap Timer.cells) rfl ?c0 ?c1 ?c2 ?c3 ?c4 ?c5 ?_)
      case c0 => rfl
      case c1 => exact hsrc
      case c2 => exact one_cell [t]
      case c3 => unfold maxLen; omega
      case c4 => omega
      case c5 => first | exact hb | simp
      intro v2 w2 hown2 hgr2 _
      have hb2 : Below base w w2 := ⟨hgr2.os, hgr2.tape, hgr2.output, hgr2.size, fun k hk => hgr2.block k (by omega) (by simp [Value.ownBlock]; omega)⟩
      have hown3 : OwnT w2 base v2 (l ++ [t]) := by
        unfold OwnT
        simpa using hown2
      clear hgr2 hown2 hown hsrc hi hz0 hz1 hz2
      go_wp2
      go_ret
      exact ⟨_, rfl, hown3, hb2⟩
    · 
      go_enter Try.func57, Try.ntmps57
      go_wp2_with (at_builtin; refine wpList_append_own _ rfl _ _ 33 rfl base 25 i0 (.agg #[.int .u64 0, .int .u64 0, .int .i64 0]) 3 24 Try.underlying33 hi hz0 hz1 hz2 rfl (by decide) _ _ _ rfl hown ⟨vb, 0, none⟩ 1 1 ([t].flatMap Timer.cells) rfl ?c0 ?c1 ?c2 ?c3 ?c4 ?c5 ?_)
      case c0 => rfl
      case c1 => exact hsrc
      case c2 => exact one_cell [t]
      case c3 => unfold maxLen; omega
      case c4 => omega
      case c5 => first | exact hb | simp
      intro v2 w2 hown2 hgr2 _
      have hb2 : Below base w w2 := ⟨hgr2.os, hgr2.tape, hgr2.output, hgr2.size, fun k hk => hgr2.block k (by omega) (by simp [Value.ownBlock]; omega)⟩
      have hown3 : OwnT w2 base v2 (l ++ [t]) := by
        unfold OwnT
        simpa using hown2
      clear hgr2 hown2 hown hsrc hi hz0 hz1 hz2
      go_wp2
      go_ret
      exact ⟨_, rfl, hown3, hb2⟩
set_option maxRecDepth 100000 in
set_option maxHeartbeats 4000000 in
theorem sins_shift (g c k : Nat) (cur : Array Value) (l : List Timer) (t : Timer) (base vb : Nat) (w : World) (hg : w.heap[g]? = some (.cells cur 25 (0, 0))) (hcs : cur.size = c * 3) (hcur : cur.toList.take (l.length * 3) = l.flatMap Timer.cells) (hk : k < l.length) (hroom : l.length + 1 ≤ c) (hm : c ≤ maxLen) (hbg : base ≤ g) (_hb : base ≤ w.heap.size) (hl : l.length ≤ 1000000) (ht : Blk w vb 25 #[.int .u64 t.at_, .int .u64 t.seq, .int .i64 t.place]) (hne : vb ≠ g) :
    Calls Try.prog 57 #[.slice (some ⟨g, 0, none⟩) l.length c, .int .i64 k, .slice (some ⟨vb, 0, none⟩) 1 1] w fun e w' => ∃ v', e = .returned v' ∧ OwnT w' base v' (l.take k ++ [t] ++ l.drop k) ∧ Below base w w' := by
  have hbig : (c : Int) ≤ 9223372036854775807 := by unfold maxLen at hm; omega
  have hov : ∀ lb cb, (callFunc 72 #[.slice (some ⟨vb, 0, none⟩) 1 1, .slice (some ⟨g, (k + 1) * 3, none⟩) lb cb]).run Try.prog w = .ok (.value (.bool false)) w := fun lb cb => by
    rw [run_callFunc_extern Try.func72 (by kernel_rfl) (by kernel_rfl) (by kernel_rfl) (e := Extern.SlicesOverlaps.overlaps #[33, 33] #[4]) (by kernel_rfl),
      Lib.run_overlaps_apart w 33 4 25 Try.underlying33 3 Try.sizeOf25 ⟨vb, 0, none⟩ ⟨g, (k + 1) * 3, none⟩ 1 1 lb cb hne 25 25 3 (c * 3) (by unfold Blk at ht; simp [World.shape?, ht]) (by simp [World.shape?, hg, hcs]) (by omega) (ht.frozen 0) (ht.frozen 3)]
    rfl
  have hkk : k + 1 ≤ l.length + 1 := by omega
  have hw1 : IntKind.i64.wrap ((k : Int) + 1) = ((k + 1 : Nat) : Int) := (IntWalk.i64_in _ (by omega)).trans (by omega)
  have hw2 : IntKind.i64.wrap ((l.length : Int) + 1) = ((l.length + 1 : Nat) : Int) := (IntWalk.i64_in _ (by omega)).trans (by omega)
  have hfl : (l.flatMap Timer.cells).length = l.length * 3 := flat_len l
  obtain ⟨L0, hL0⟩ : ∃ L0, L0 = cur.toList := ⟨_, rfl⟩
  have hg' : w.heap[g]? = some (.cells L0.toArray 25 (0, 0)) := by rw [hL0]; simpa using hg
  have hLn : L0.length = c * 3 := by rw [hL0]; simpa using hcs
  have hcu : L0.take (l.length * 3) = l.flatMap Timer.cells := by rw [hL0]; exact hcur
  obtain ⟨CS, hCS⟩ : ∃ CS, CS = (l.flatMap Timer.cells).drop (k * 3) := ⟨_, rfl⟩
  have hCn : CS.length = (l.length - k) * 3 := by rw [hCS, List.length_drop, hfl]; omega
  have hC1 : ∀ v ∈ CS, v.oneCell' = true := fun v hv => one_cell l v (by rw [hCS] at hv; exact List.mem_of_mem_drop hv)
  have hcell : ∀ j, w.cell? ⟨g, j, none⟩ = L0[j]? := fun j => by simp [World.cell?, hg']
  have hsrc : ∀ j v, CS[j]? = some v → w.cell? ((⟨g, k * 3, none⟩ : Addr).add j) = some v := by
    intro j v hj
    have hlt := (List.getElem?_eq_some_iff.1 hj).1
    rw [Addr.add_lit, hcell]
    rw [hCS, List.getElem?_drop, ← hcu, List.getElem?_take, if_pos (by omega)] at hj
    exact hj
  have HX := Lib.hid (show (splice (splice L0 ((k + 1) * 3) CS) (k * 3) t.cells).take ((l.take k ++ [t] ++ l.drop k).length * 3) = (l.take k ++ [t] ++ l.drop k).flatMap Timer.cells from by
    have e := splice_shift L0 (k * 3) (l.length * 3) t.cells (by omega) rfl (by omega)
    rw [hcu, ← hCS, show k * 3 + 3 = (k + 1) * 3 from by omega] at e
    rw [show (l.take k ++ [t] ++ l.drop k).length * 3 = l.length * 3 + 3 from by simp; omega, e, List.flatMap_append, List.flatMap_append, flat_take, flat_drop, hCS]
    simp)
  have HC := Lib.hid hCS
  have HL := Lib.hid (show (splice (splice L0 ((k + 1) * 3) CS) (k * 3) t.cells).length = c * 3 from by
    rw [length_splice _ _ _ (by rw [length_splice _ _ _ (by omega)]; simp [Timer.cells]; omega), length_splice _ _ _ (by omega), hLn])
  have hX1 : (k + 1) * 3 + CS.length ≤ L0.length := by omega
  have hX2 : k * 3 + t.cells.length ≤ (splice L0 ((k + 1) * 3) CS).length := by rw [length_splice _ _ _ hX1]; simp [Timer.cells]; omega
  have hmn : Nat.min (l.length + 1 - k) (l.length - k) = l.length - k := by simp only [Nat.min_def]; split <;> omega
  have hmn2 : Nat.min 1 (l.length + 1 - k) = 1 := by simp only [Nat.min_def]; split <;> omega
  have hsz : (Try.prog.info? 25).map (·.size) = some 3 := by kernel_rfl
  have hgl : g < w.heap.size := by
    rcases Nat.lt_or_ge g w.heap.size with h | h
    · exact h
    · rw [Array.getElem?_eq_none h] at hg; cases hg
  have htc : ∀ j v, t.cells[j]? = some v → w.cell? ((⟨vb, 0, none⟩ : Addr).add j) = some v := by
    intro j u hj
    have hj3 : j < 3 := by
      have := (List.getElem?_eq_some_iff.1 hj).1
      simpa [Timer.cells] using this
    rw [Addr.add_lit, ht.cell]
    match j, hj3 with
    | 0, _ => simpa [Timer.cells] using hj
    | 1, _ => simpa [Timer.cells] using hj
    | 2, _ => simpa [Timer.cells] using hj
  obtain ⟨TC, hTC⟩ : ∃ TC, TC = t.cells := ⟨_, rfl⟩
  have hT1 : ∀ v ∈ TC, v.oneCell' = true := fun v hv => one_cell [t] v (by simpa [hTC] using hv)
  have hTn : TC.length = 1 * 3 := by rw [hTC]; rfl
  rw [← hTC] at HX HL hX2 htc
  have HT := Lib.hid htc
  obtain ⟨RES, hRES⟩ : ∃ RES, RES = l.take k ++ [t] ++ l.drop k := ⟨_, rfl⟩
  have hRl : RES.length = l.length + 1 := by rw [hRES]; simp; omega
  rw [← hRES] at HX ⊢
  have HS := Lib.hid hsrc
  have hmix : Try.prog.follows .mixedOrders = true := by kernel_rfl
  have hk0 : (0 : Int) ≤ (k : Int) + 1 := by omega
  have hkl : k ≤ l.length := by omega
  have hck : ¬ c = k + 1 := by omega
  have hck2 : ¬ c = k := by omega
  have hkn : (k : Int) ≤ (l.length : Int) + 1 := by omega
  clear hTC hRES hsrc htc hCS hcell hcu hL0 hg hcs hcur hfl ht
  go_enter Try.func57, Try.ntmps57
  go_wp2_with (simp only [hov])
  go_region_law_o (refine step_copy_row3 rfl _ _ 33 33 rfl 25 Try.underlying33 hsz g ((k + 1) * 3) (l.length - k) (c - (k + 1)) ⟨g, k * 3, none⟩ (l.length + 1 - k) (c - k) (l.length - k) (by simp [Act.eval, Act.put]) (by simp [Act.eval, Act.put]) hmn L0 _ hg' CS hCn HS.out hX1 hC1 base w (Below.refl _ _).drew hbg ?_; intro w1 hg1 hb1 hk1)
  have ht1 : ∀ j v, TC[j]? = some v → w1.cell? ((⟨vb, 0, none⟩ : Addr).add j) = some v := by
    intro j v hj
    have := HT.out j v hj
    rw [Addr.add_lit] at this ⊢
    rw [← this]
    exact World.cell?_of_block (hk1 vb hne)
  have HT1 := Lib.hid ht1
  have HB1 := Lib.hid hb1
  clear ht1 HT HS hk1 hb1 hov
  go_wp2_with (refine wpList_copy_row3 rfl _ _ 33 33 rfl 25 Try.underlying33 hsz g (k * 3) (l.length + 1 - k) (c - k) ⟨vb, 0, none⟩ 1 1 1 rfl rfl hmn2 _ _ hg1.out TC hTn HT1.out hX2 hT1 base w HB1.out hbg ?_)
  intro w2 hg2 hb2 _
  have hown := own_cells (m := RES) hg2.out hbg (by omega) hm HL.out HX.out
  rw [hRl] at hown
  clear hg1 HT1 HB1 hX1 hX2 HC HL HX hCn hC1 hT1 hTn hg' hLn hmn hmn2 hg2
  go_wp2
  go_ret
  exact ⟨_, rfl, hown, hb2⟩
end Go.Proofs.Ytfdbimkddkohnaa
