/- Order: slices.Insert of one timer, where the row has no room. -/
import Derived.Test.YtfdbimkddkohnaaSIns
namespace Go.Proofs.Ytfdbimkddkohnaa
open Go.RowKit
set_option maxRecDepth 100000 in
set_option maxHeartbeats 4000000 in
theorem sins_grow (g c k : Nat) (cur : Array Value) (l : List Timer) (t : Timer) (base vb : Nat) (w : World) (hg : w.heap[g]? = some (.cells cur 25 (0, 0))) (_hcs : cur.size = c * 3) (hcur : cur.toList.take (l.length * 3) = l.flatMap Timer.cells) (hk : k < l.length) (hlc : l.length ≤ c) (hroom : c < l.length + 1) (hb : base ≤ w.heap.size) (hl : l.length ≤ 1000000) (ht : Blk w vb 25 #[.int .u64 t.at_, .int .u64 t.seq, .int .i64 t.place]) (_hne : vb ≠ g) :
    Calls Try.prog 57 #[.slice (some ⟨g, 0, none⟩) l.length c, .int .i64 k, .slice (some ⟨vb, 0, none⟩) 1 1] w fun e w' => ∃ v', e = .returned v' ∧ OwnT w' base v' (l.take k ++ [t] ++ l.drop k) ∧ Below base w w' := by
  obtain ⟨i0, hi0, hz0, hzs, hzb⟩ := info_parts info_timer
  have hkk : k + 1 ≤ l.length + 1 := by omega
  have hw1 : IntKind.i64.wrap ((k : Int) + 1) = ((k + 1 : Nat) : Int) := (IntWalk.i64_in _ (by omega)).trans (by omega)
  have hw2 : IntKind.i64.wrap ((l.length : Int) + 1) = ((l.length + 1 : Nat) : Int) := (IntWalk.i64_in _ (by omega)).trans (by omega)
  have hw3 : IntKind.i64.wrap ((l.length : Int) + 1 - (k : Int)) = ((l.length + 1 - k : Nat) : Int) := (IntWalk.i64_in _ (by omega)).trans (by omega)
  have hfl : (l.flatMap Timer.cells).length = l.length * 3 := flat_len l
  have hgl : g < w.heap.size := by
    rcases Nat.lt_or_ge g w.heap.size with h | h
    · exact h
    · rw [Array.getElem?_eq_none h] at hg; cases hg
  have hcell : ∀ j, w.cell? ⟨g, j, none⟩ = cur[j]? := fun j => by simp [World.cell?, hg]
  have hfc : ∀ j v, (l.flatMap Timer.cells)[j]? = some v → w.cell? ⟨g, j, none⟩ = some v := by
    intro j v hj
    have hlt := (List.getElem?_eq_some_iff.1 hj).1
    rw [hcell]
    rw [← hcur, List.getElem?_take, if_pos (by omega), Array.getElem?_toList] at hj
    exact hj
  have hold : (Builtin.firstCells i0.size k (.slice (some ⟨g, 0, none⟩) k c)).run Try.prog w.drew = .ok ((l.flatMap Timer.cells).take (k * 3)).toArray w.drew := by
    rw [hzs]
    exact run_firstCells_some w.drew 3 k ⟨g, 0, none⟩ k c _ (by rw [List.length_take, hfl]; omega) (fun j v hj => by
      rw [Addr.add_lit, Nat.zero_add]
      rw [List.getElem?_take] at hj
      split at hj
      · exact hfc j v hj
      · cases hj)
  have hrz : ∀ ty, (Builtin.append_ #[33, 3] ty #[.slice (some ⟨g, 0, none⟩) k c, .int .i64 ((l.length + 1 - k : Nat) : Int)]).run Try.prog w = _ := fun ty =>
    Lib.run_append_grow_zeros w 33 3 ty 25 i0 _ .i64 .i64 Try.underlying33 Try.underlying3 hi0 hz0 (some ⟨g, 0, none⟩) k c _ hold (l.length + 1 - k) (by omega) (by omega) (by omega) (by omega) (by rw [hzb]; omega) (by rw [hzb, show k + (l.length + 1 - k) = l.length + 1 from by omega]; exact growslice_fits hroom (by omega))
  have hnk : k + (l.length + 1 - k) = l.length + 1 := by omega
  rw [hnk] at hrz
  have hGn := grownCap_ge w (l.length + 1) c 25
  have hGm := grownCap_le_maxLen w (l.length + 1) c 25 (by unfold maxLen; omega)
  generalize grownCap w (l.length + 1) c 25 = G at *
  have hG63 : (G : Int) ≤ 9223372036854775807 := by unfold maxLen at hGm; omega
  obtain ⟨ROW, hROW⟩ : ∃ ROW : Array Value, ROW = ((l.flatMap Timer.cells).take (k * 3)).toArray ++ Builtin.zeroCells (Value.agg #[.int .u64 0, .int .u64 0, .int .i64 0]).cells (l.length + 1 - k) ++ Builtin.zeroCells (Value.agg #[.int .u64 0, .int .u64 0, .int .i64 0]).cells (G - (l.length + 1)) := ⟨_, rfl⟩
  simp only [← hROW] at hrz
  have hzc : (Value.agg #[.int .u64 0, .int .u64 0, .int .i64 0]).cells.size = 3 := rfl
  have hRs : ROW.toList.length = G * 3 := by
    rw [hROW]
    simp [Builtin.zeroCells, hzc, hfl]
    omega
  have hRt : ROW.toList.take (k * 3) = (l.flatMap Timer.cells).take (k * 3) := by
    rw [hROW]
    simp only [Array.toList_append, List.append_assoc]
    rw [List.take_append_of_le_length (by simp [hfl]; omega)]
    exact List.take_of_length_le (by simp; omega)
  obtain ⟨R0, hR0⟩ : ∃ R0, R0 = ROW.toList := ⟨_, rfl⟩
  rw [← hR0] at hRs hRt
  have hg1 : (w.drew.alloc (.cells ROW 25)).heap[w.heap.size]? = some (.cells R0.toArray 25 (0, 0)) := by rw [hR0]; exact Blk.new w.drew 25 ROW
  have hb1 : Below base w (w.drew.alloc (.cells ROW 25)) := ((Below.refl base w).drew).alloc hb _
  have htc : ∀ j v, t.cells[j]? = some v → w.cell? ((⟨vb, 0, none⟩ : Addr).add j) = some v := by
    intro j u hj
    have hj3 : j < 3 := by
      have := (List.getElem?_eq_some_iff.1 hj).1
      simpa [Timer.cells] using this
    rw [Addr.add_lit, ht.cell]
    match j, hj3 with
    | 0, _ => simpa [Timer.cells] using hj
    | 1, _ => simpa [Timer.cells] using hj
    | 2, _ => simpa [Timer.cells] using hj
  have hold1 : ∀ b j, b < w.heap.size → (w.drew.alloc (.cells ROW 25)).cell? ⟨b, j, none⟩ = w.cell? ⟨b, j, none⟩ := fun b j hbl => World.cell?_of_block (Below.heap_alloc w.drew _ b hbl)
  obtain ⟨TC, hTC⟩ : ∃ TC, TC = t.cells := ⟨_, rfl⟩
  obtain ⟨CS, hCS⟩ : ∃ CS, CS = (l.flatMap Timer.cells).drop (k * 3) := ⟨_, rfl⟩
  have hCn : CS.length = (l.length - k) * 3 := by rw [hCS, List.length_drop, hfl]; omega
  have hC1 : ∀ v ∈ CS, v.oneCell' = true := fun v hv => one_cell l v (by rw [hCS] at hv; exact List.mem_of_mem_drop hv)
  have hT1 : ∀ v ∈ TC, v.oneCell' = true := fun v hv => one_cell [t] v (by simpa [hTC] using hv)
  have hTn : TC.length = 1 * 3 := by rw [hTC]; rfl
  have htc1 : ∀ j v, TC[j]? = some v → (w.drew.alloc (.cells ROW 25)).cell? ((⟨vb, 0, none⟩ : Addr).add j) = some v := by
    intro j v hj
    rw [Addr.add_lit, hold1 vb _ ht.lt]
    rw [hTC] at hj
    have := htc j v hj
    rwa [Addr.add_lit] at this
  have hsrc1 : ∀ j v, CS[j]? = some v → (w.drew.alloc (.cells ROW 25)).cell? ((⟨g, k * 3, none⟩ : Addr).add j) = some v := by
    intro j v hj
    rw [Addr.add_lit, hold1 g _ hgl]
    rw [hCS, List.getElem?_drop] at hj
    exact hfc _ v hj
  have hX1 : k * 3 + TC.length ≤ R0.length := by omega
  have hX2 : (k + 1) * 3 + CS.length ≤ (splice R0 (k * 3) TC).length := by rw [length_splice _ _ _ hX1]; omega
  have HL := Lib.hid (show (splice (splice R0 (k * 3) TC) ((k + 1) * 3) CS).length = G * 3 from by rw [length_splice _ _ _ hX2, length_splice _ _ _ hX1, hRs])
  have HX := Lib.hid (show (splice (splice R0 (k * 3) TC) ((k + 1) * 3) CS).take ((l.take k ++ [t] ++ l.drop k).length * 3) = (l.take k ++ [t] ++ l.drop k).flatMap Timer.cells from by
    have e := splice_new (l.flatMap Timer.cells) R0 (k * 3) (l.length * 3) TC (by omega) hfl (by omega) (by omega) hRt
    rw [← hCS, show k * 3 + 3 = (k + 1) * 3 from by omega] at e
    rw [show (l.take k ++ [t] ++ l.drop k).length * 3 = l.length * 3 + 3 from by simp; omega, e, List.flatMap_append, List.flatMap_append, flat_take, flat_drop, hCS, hTC]
    simp)
  have hmn : Nat.min (l.length - k) (l.length - k) = l.length - k := Nat.min_self _
  have hmn2 : Nat.min 1 (l.length + 1 - k) = 1 := by simp only [Nat.min_def]; split <;> omega
  have hsz : (Try.prog.info? 25).map (·.size) = some 3 := by kernel_rfl
  obtain ⟨RES, hRES⟩ : ∃ RES, RES = l.take k ++ [t] ++ l.drop k := ⟨_, rfl⟩
  have hRl : RES.length = l.length + 1 := by rw [hRES]; simp; omega
  rw [← hRES] at HX ⊢
  have hmix : Try.prog.follows .mixedOrders = true := by kernel_rfl
  have hk0 : (0 : Int) ≤ (k : Int) + 1 := by omega
  have hkl : k ≤ l.length := by omega
  have hck : ¬ G = k + 1 := by omega
  have hck2 : ¬ G = k := by omega
  have hck3 : ¬ c = k := by omega
  have hkn : (k : Int) ≤ (l.length : Int) + 1 := by omega
  have HT1 := Lib.hid htc1
  have HS1 := Lib.hid hsrc1
  have HB1 := Lib.hid hb1
  have HG1 := Lib.hid hg1
  have hNg : g ≠ w.heap.size := by omega
  have hck4 : (c : Int) < (l.length : Int) + 1 := by omega
  have hw4 : ((l.length : Int) + 1 - (k : Int)) = ((l.length + 1 - k : Nat) : Int) := by omega
  have HR := Lib.hid hrz
  have HW4 := Lib.hid hw4
  clear hTC hRES htc1 hsrc1 hb1 hg1 hCS htc hold1 hfc hold hcell hcur hfl hROW hR0 hRt hRs hzc hg ht hrz hi0 hz0 hzs hzb hw4 hnk
  go_enter Try.func57, Try.ntmps57
  go_wp2_with (first
    | (at_builtin; refine Lib.wpList_append_run _ rfl _ _ _ _ rfl _ _ rfl rfl _ _ (by first | exact HR.out _ | (rw [HW4.out]; exact HR.out _)) ?_)
    | (refine wpList_copy_row3 rfl _ _ 33 33 rfl 25 Try.underlying33 hsz w.heap.size (k * 3) (l.length + 1 - k) (G - k) ⟨vb, 0, none⟩ 1 1 1 rfl rfl hmn2 _ _ HG1.out TC hTn HT1.out hX1 hT1 base w HB1.out hb ?_))
  intro w1 hg1 hb1 hk1
  have hS1 : ∀ j v, CS[j]? = some v → w1.cell? ((⟨g, k * 3, none⟩ : Addr).add j) = some v := by
    intro j v hj
    have := HS1.out j v hj
    rw [Addr.add_lit] at this ⊢
    rw [← this]
    exact World.cell?_of_block (hk1 g hNg)
  have HS2 := Lib.hid hS1
  have HB2 := Lib.hid hb1
  clear hS1 HT1 HS1 hk1 hb1 HG1 HR HB1 HW4
  go_wp2_with fail
  go_region_law_o (refine step_copy_row3 rfl _ _ 33 33 rfl 25 Try.underlying33 hsz w.heap.size ((k + 1) * 3) (l.length - k) (G - (k + 1)) ⟨g, k * 3, none⟩ (l.length - k) (c - k) (l.length - k) (by simp [Act.eval, Act.put]) (by simp [Act.eval, Act.put]) hmn _ _ hg1.out CS hCn HS2.out hX2 hC1 base w HB2.out.drew hb ?_; intro w2 hg2 hb2 hk2)
  have hown := own_cells (base := base) (m := RES) hg2.out hb (by omega) hGm HL.out HX.out
  rw [hRl] at hown
  clear hg1 HS2 HB2 hX1 hX2 HL HX hCn hC1 hT1 hTn hmn hmn2 hg2 hk2
  go_wp2
  go_ret
  exact ⟨_, rfl, hown, hb2⟩
end Go.Proofs.Ytfdbimkddkohnaa
