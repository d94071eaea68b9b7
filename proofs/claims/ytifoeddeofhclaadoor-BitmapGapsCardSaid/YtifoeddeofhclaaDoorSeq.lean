/- Layer 2 (bitmap): each's contract, slices.AppendSeq and slices.Collect over it, List; walked. -/
import Derived.Test.YtifoeddeofhclaaDoorIter
namespace Go.Proofs.YtifoeddeofhclaaDoor
open Go.RowKit Go.Shelf
attribute [local go_sem] Oper.semAt_some
theorem each_stops (n : Nat) (hn : 1 ≤ n) (Bn n₀ : Nat) (b : Bits) (hb : b.Ok) (w : World) (hB : Blk w Bn 24 b.cells) (hBn : Bn < n₀) (hg0 : 0 < n₀) (hn₀ : n₀ ≤ w.heap.size) (hT : TabAt w) :
    SeqStopsK Fence.wide n Tryd.prog 35 #[.pointer (some ⟨Bn, 0, none⟩)] (fun x : Int => #[Value.int .i64 x]) (Below n₀) (fun ys => ys = b.list) (fun pre => pre <+: b.list) 256 w := fun l J Jx W hW _ _ hY h0 =>
  each1_in n hn l Bn n₀ b hb J Jx hY W (hB.below hW hB.lt) hBn hg0 (hT.below hW (by omega)) h0
theorem each_any (b : Bits) (w : World) : Calls Tryd.prog 31 #[b.val] w fun e w' => e = .returned (.func (.func 35) #[] #[.pointer (some ⟨w.heap.size, 0, none⟩)]) ∧ w' = w.alloc (.cells b.cells 24) := by
  unfold Bits.val
  go_enter Tryd.func31, Tryd.ntmps31
  go_wp2
  go_ret
  exact ⟨rfl, rfl⟩
set_option maxRecDepth 100000 in
set_option maxHeartbeats 2000000 in
theorem appseq_in (n : Nat) (hn : 3 ≤ n) (Bn : Nat) (b : Bits) (hb : b.Ok) (w : World) (hB : Blk w Bn 24 b.cells) (hT : TabAt w) :
    CallsIn Fence.wide n Tryd.prog 34 #[.slice none 0 0, .func (.func 35) #[] #[.pointer (some ⟨Bn, 0, none⟩)]] w fun e W' => ∃ v, e = .returned v ∧ W'.ownsRow w.heap.size 3 1 v b.list.length (b.list.map (Value.int .i64)) ∧ Below w.heap.size w W' := by
  have h1 : 1 ≤ n := by omega
  have hg0 : 0 < w.heap.size := by
    have := hT 0 (by omega)
    rcases Nat.lt_or_ge 0 w.heap.size with h | h
    · exact h
    · exact absurd this (by rw [World.cell?, Array.getElem?_eq_none h]; simp)
  have hBlt := hB.lt
  obtain ⟨i0, hi, hz0, hz1, hz2⟩ := info_parts info_int
  refine callsIn_of_wp_marks Tryd.func34 rfl trivial ?_ rfl
  simp only [Tryd.ntmps34, List.size_toArray, List.length_cons, List.length_nil, Nat.reduceAdd, Nat.reduceSub, Array.replicate_succ, Array.replicate_zero, List.push_toArray, List.append_toArray, List.nil_append, List.cons_append]
  gi_wp2
  have bO := Boxed.new w 30 (.slice none 0 0)
  have hB0 : Below w.heap.size w (w.alloc (.cells #[.slice none 0 0] 30)) := (Below.refl _ w).alloc (Nat.le_refl _) _
  refine wpIn_rangeFunc_ownG rfl h1 (gf := 35) (lb := #[.pointer (some ⟨Bn, 0, none⟩)]) rfl trivial (enters_of Tryd.func35 (by kernel_rfl) rfl)
    (each_stops (n - 1) (by omega) Bn w.heap.size b hb _ (hB.alloc _) hBlt hg0 (by simp) (hT.below hB0 hg0)) belowK_t (belowK_b (by simp)) (Below.refl _ _) (fun _ => rfl)
    (fun pre W => (∃ v, Boxed W w.heap.size 30 v ∧ W.ownsRow w.heap.size 3 1 v pre.length (pre.map (Value.int .i64)) ∧ (v = .slice none 0 0 ↔ pre = [])) ∧ Below w.heap.size w W)
    (fun _ _ _ => False)
    (OwnFrom.and (Own.from (holdsRow_own w.heap.size w.heap.size 30 3 1 (fun pre => pre.length) (fun pre => pre.map (Value.int .i64)) (fun pre v => v = .slice none 0 0 ↔ pre = [])) _) (ownFrom_below (Nat.le_refl _) (by simp)))
    (fun _ _ _ _ _ hs _ _ => hs)
    ⟨⟨_, bO, World.ownsRow_nil _ _ _ _, by simp⟩, hB0⟩
    (fun x => { tmps := #[.slice none 0 0, .func (.func 35) #[] #[.pointer (some ⟨Bn, 0, none⟩)], .pointer (some ⟨w.heap.size, 0, none⟩), undef, .slice none 0 0, .int .i64 x, .func (.func 35) #[] #[.pointer (some ⟨Bn, 0, none⟩)], .int .i64 x, undef, undef, undef, undef, undef], defers := [] }) ?assign ?body ?done ?stop
  case assign =>
    intro l x W K hK
    gi_wp2
    exact hK
  case body =>
    rintro l pre x W ⟨⟨v, hv, hrow, hnil⟩, hBW⟩ hlt
    have hc := hv.cell
    gi_wp2_with (gi_at_builtin; refine wpListIn_append_own _ rfl _ _ 30 rfl w.heap.size 3 i0 (.int .i64 0) 1 8 Tryd.underlying30 hi hz0 hz1 hz2 rfl (by decide) _ _ _ rfl (hrow.alloc _) ⟨W.heap.size, 0, none⟩ 1 1 [.int .i64 x] rfl rfl (cell_one_new _ _ _) (by simp [Value.oneCell']) (by unfold maxLen; omega) (by omega) (by have := hBW.size; simp; omega) ?_; intro v' w1 hown' hgrow _; obtain ⟨g', cap', rfl⟩ := ownsRow_succ hown'; obtain ⟨hv1, hv2, hr2, hk2, hb2⟩ := hv.appended (by decide) hrow hBW.size (Nat.le_refl _) hown' hgrow; have hc1 := hv1.cell; have hf1 := hv1.frozen)
    exact ⟨hk2.from _, hb2, ⟨_, hv2, by simpa using hr2, by simp⟩, hBW.trans hb2⟩
  case done =>
    rintro D ys W hD rfl ⟨⟨v, hv, hrow, hnil⟩, hBW⟩ hK
    have hc := hv.cell
    gi_wp2
    refine ⟨by simp, .inl ⟨_, _, rfl, run_takeDeferred hK, ?_⟩⟩
    exact ⟨_, results_tmp rfl _ _ _, v, rfl, ownsRow_putObj hrow _ hK rfl, hBW.trans (belowK_b (w := w) (Nat.le_refl _) W D _ _ (by simp at hD; omega) hK rfl rfl)⟩
  case stop =>
    rintro D c pre W _ _ h _
    exact h.elim
set_option maxRecDepth 100000 in
theorem collect_any (Bn : Nat) (b : Bits) (hb : b.Ok) (w : World) (hB : Blk w Bn 24 b.cells) (hT : TabAt w) :
    Calls Tryd.prog 30 #[.func (.func 35) #[] #[.pointer (some ⟨Bn, 0, none⟩)]] w fun e W' => ∃ v, e = .returned v ∧ W'.ownsRow w.heap.size 3 1 v b.list.length (b.list.map (Value.int .i64)) ∧ Below w.heap.size w W' := by
  have hap := (callsIn_wide (n := 3)).1 (appseq_in 3 (by omega) Bn b hb w hB hT)
  go_enter Tryd.func30, Tryd.ntmps30
  go_wp2_with fail
  refine hap.mono ?_
  rintro e w2 ⟨v, rfl, hown, hb2⟩
  go_wp2
  go_ret
  exact ⟨_, rfl, hown, hb2⟩
set_option maxRecDepth 100000 in
theorem list_any (b : Bits) (hb : b.Ok) (w : World) (hT : TabAt w) :
    Calls Tryd.prog 18 #[b.val] w fun e W' => ∃ v, e = .returned v ∧ W'.ownsRow w.heap.size 3 1 v b.list.length (b.list.map (Value.int .i64)) ∧ Below w.heap.size w W' := by
  have hg0 : 0 < w.heap.size := by
    have := hT 0 (by omega)
    rcases Nat.lt_or_ge 0 w.heap.size with h | h
    · exact h
    · exact absurd this (by rw [World.cell?, Array.getElem?_eq_none h]; simp)
  have he := each_any b (w.alloc (.cells b.cells 24))
  unfold Bits.val at he ⊢
  go_enter Tryd.func18, Tryd.ntmps18
  go_wp2_with fail
  refine he.mono ?_
  rintro e w2 ⟨rfl, rfl⟩
  have hB : Blk ((w.alloc (.cells b.cells 24)).alloc (.cells b.cells 24)) (w.alloc (.cells b.cells 24)).heap.size 24 b.cells := Blk.new _ _ _
  have hbl : Below w.heap.size w ((w.alloc (.cells b.cells 24)).alloc (.cells b.cells 24)) := ((Below.refl _ _).alloc (Nat.le_refl _) _).alloc (by simp) _
  have hco := collect_any _ b hb _ hB (hT.below hbl hg0)
  simp only [World.size_alloc] at hco
  go_wp2_with fail
  refine hco.mono ?_
  rintro e w2 ⟨v, rfl, hown, hb2⟩
  go_wp2
  go_ret
  exact ⟨_, rfl, ⟨hown.1, hown.2.imp id (fun ⟨g, cap, cur, h1, h2, h3⟩ => ⟨g, cap, cur, h1, by omega, h3⟩)⟩, hbl.trans (hb2.mono (by first | omega | (simp; omega)))⟩
end Go.Proofs.YtifoeddeofhclaaDoor
