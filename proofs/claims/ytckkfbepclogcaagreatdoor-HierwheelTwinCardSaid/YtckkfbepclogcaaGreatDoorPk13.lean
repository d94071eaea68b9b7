/- Part 13: the texts Each First All, laid end to end by a program. -/
import Derived.Test.YtckkfbepclogcaaGreatDoorPk6
import Derived.Test.YtckkfbepclogcaaGreatDoorPk11
import Derived.Test.YtckkfbepclogcaaGreatDoorPk5
namespace Go.Proofs.YtckkfbepclogcaaGreatDoor
open Go.RowKit Go.Shelf
attribute [local go_sem] Oper.semAt_some
theorem drop_node (l : List Nat) (k h : Nat) (hk : k < l.length) : headOf (l.drop k) h = l[k] := by
  rw [List.drop_eq_getElem_cons hk]
  rfl
theorem idxOf_get {l : List Nat} (hn : l.Nodup) {k : Nat} (hk : k < l.length) : l.idxOf l[k] = k := by
  have h1 : l.idxOf l[k] < l.length := List.idxOf_lt_length_iff.2 (List.getElem_mem _)
  have h2 : l[l.idxOf l[k]] = l[k] := List.getElem_idxOf h1
  have h3 : l[l.idxOf l[k]]? = l[k]? := by
    rw [List.getElem?_eq_getElem h1, List.getElem?_eq_getElem hk]
    exact congrArg some h2
  exact (List.getElem?_inj h1 hn).1 h3
set_option maxRecDepth 100000 in
set_option maxHeartbeats 2000000 in
theorem ceach1_in (n : Nat) (hn : 1 ≤ n) (l n₀ bc bj c nb P N j : Nat) (nx pv : Nat → Nat) (inn : Nat → Option Nat) (L : Nat → List Nat) (hO : ChOk P N nx pv inn L) (hj : j < N) (hM : P + N ≤ 4096) (J Jx : List Nat → World → Prop) (hJa : ∀ pre W, J pre W → J pre W.drew)
    (hY : ∀ pre x W, J pre W → pre.length < 4096 → YieldAt Fence.wide (n - 1) Tryz.prog l #[.int .i64 (x : Nat)] W fun e W' =>
      (e = .returned (.bool true) ∧ J (pre ++ [x]) W' ∧ Below n₀ W W') ∨ (e = .returned (.bool false) ∧ Jx (pre ++ [x]) W'))
    (W : World) (hC : CNod W c nb (P + N) P N nx pv inn) (hc0 : c < n₀) (hn0 : nb < n₀) (hB1 : Blk W bc 66 #[.pointer (some ⟨c, 0, none⟩)]) (hb1 : bc < n₀) (hB2 : Blk W bj 3 #[.int .i64 j]) (hb2 : bj < n₀) (hJ0 : J [] W) :
    CallsIn Fence.wide n Tryz.prog 97 #[.func (.yield l) #[] #[], .pointer (some ⟨bc, 0, none⟩), .pointer (some ⟨bj, 0, none⟩)] W fun e W' => (∃ v, e = .returned v) ∧
      ((∃ ys, ys = L j ∧ J ys W') ∨ (∃ pre, pre <+: L j ∧ Jx pre W')) := by
  have hli := clist_any c nb (P + N) P N nx pv inn j W hC
  rw [cin_of hj] at hli
  have hnd := hO.nodup j hj
  have hmem := fun x (hx : x ∈ L j) => hO.lt hj hx
  have hlen : (L j).length ≤ P := by
    have := nodup_le (L j) (List.range P) hnd fun x hx => List.mem_range.2 (hmem x hx)
    simpa using this
  have hf0 := hO.first hj
  have hnext : ∀ k (hk : k < (L j).length), nx (L j)[k] = headOf ((L j).drop (k + 1)) (P + j) := fun k hk =>
    (hO.sides (i := (L j)[k]) (l1 := (L j).take k) (l2 := (L j).drop (k + 1)) hj (by rw [← List.drop_eq_getElem_cons hk, List.take_append_drop])).2
  have ePj : ((P + j : Nat) : Int) = (P : Int) + (j : Int) := by omega
  have hhl : ∀ k, headOf ((L j).drop k) (P + j) < P + N := fun k => headOf_lt (by omega) fun x hx => by have := hmem x (List.mem_of_mem_drop hx); omega
  clear hO
  have c0 := (hC.nod.cell _).trans (nodeC_nx (P + N) nx pv inn (P + j) (by omega))
  rw [hf0] at c0
  have hc1 := hC.blk.cell
  have d1 := hB1.cell
  have d2 := hB2.cell
  refine callsIn_of_wp Tryz.func97 rfl trivial ?_ rfl
  simp only [Tryz.ntmps97, List.size_toArray, List.length_cons, List.length_nil, Nat.reduceAdd, Nat.reduceSub, Array.replicate_succ, Array.replicate_zero, List.push_toArray, List.append_toArray, List.nil_append, List.cons_append]
  gi_wp2_with (refine ⟨trivial, ?_⟩; gi_at_call 70; refine (callsIn_wide.2 hli).mono ?_; rintro e w' ⟨rfl, rfl⟩)
  refine wpIn_wide.2 (still_all (by kernel_rfl) (by kernel_rfl) ?_)
  repeat still_step
  refine wpStill_nil ?_
  replace hC := hC.drew
  replace hB1 := hB1.drew
  replace hB2 := hB2.drew
  replace hJ0 := hJa _ _ hJ0
  clear hli hJa
  gi_wp2
  clear c0 hc1 d1 d2
  generalize W.drew = W0 at *
  rw [← ePj]
  clear ePj
  have hH0 : P ≤ P + j := by omega
  generalize P + j = H at *
  gi_loopw [5] (fun p wr => ∃ k : Nat, k ≤ (L j).length ∧ p = .int .i64 (headOf ((L j).drop k) H : Nat) ∧ CNod wr c nb (P + N) P N nx pv inn ∧ Blk wr bc 66 #[.pointer (some ⟨c, 0, none⟩)] ∧ Blk wr bj 3 #[.int .i64 j] ∧ J ((L j).take k) wr)
    (fun p _ => (L j).length - (L j).idxOf (intOf p).toNat)
  case atStart => exact ⟨0, by omega, rfl, hC, hB1, hB2, hJ0⟩
  case round =>
    clear hC hB1 hB2 hJ0
    obtain ⟨k, hk, rfl, hC, hB1, hB2, hJ⟩ := hrel
    by_cases hlt : k < (L j).length
    · have hxn := drop_node (L j) k H hlt
      have hxm := hmem _ (List.getElem_mem hlt)
      have hid := idxOf_get hnd hlt
      have hnx := hnext k hlt
      have hxnx := hhl (k + 1)
      have htk := take_snoc (L j) k hlt
      have hnid : ∀ h' : k + 1 < (L j).length, (L j).idxOf (L j)[k + 1] = k + 1 := fun h' => idxOf_get hnd h'
      have hnxt : headOf ((L j).drop (k + 1)) H = if h' : k + 1 < (L j).length then (L j)[k + 1] else H := by
        split
        · rename_i h'
          exact drop_node _ _ _ h'
        · rw [List.drop_eq_nil_of_le (by omega)]
          rfl
      have hout : (L j).idxOf H = (L j).length := List.idxOf_eq_length (fun hm => by have := hmem _ hm; omega)
      have hM1 : (L j).length - (L j).idxOf (headOf ((L j).drop (k + 1)) H) < (L j).length - (L j).idxOf (L j)[k] := by
        rw [hid, hnxt]
        split
        · rename_i h'
          rw [hnid h']
          omega
        · rw [hout]
          omega
      have HM := Lib.hid hM1
      rw [hxn]
      have hlen2 : ((L j).take k).length < 4096 := by simp; omega
      have HT := Lib.hid htk
      have HX := Lib.hid hnx
      clear hnext hhl hnid hnxt hout hM1 htk hnx hid hxn hmem hnd hf0
      have HL : Hid (∀ pre, pre <+: L j → pre <+: L j) := Lib.hid fun _ h => h
      have hpre : Hid ((L j).take k ++ [(L j)[k]] <+: L j) := Lib.hid (by rw [← HT.out]; exact List.take_prefix _ _)
      generalize hxe : (L j)[k] = x at *
      clear hxe
      have hne : ((x : Int) != (H : Int)) = true := by
        rw [bne_iff_ne]
        omega
      obtain ⟨fn, tmps, assign, body, hy, hR⟩ := hY ((L j).take k) x wr hJ hlen2
      clear hY
      gi_wp2
      refine hR.mono ?_
      rintro e W3 (⟨rfl, hJ3, hk3⟩ | ⟨rfl, hJx3⟩)
      · have hC3 : CNod W3 c nb (P + N) P N nx pv inn := ⟨hC.blk.below hk3 hc0, hC.nod.below hk3 hn0⟩
        have hB13 := hB1.below hk3 hb1
        have hB23 := hB2.below hk3 hb2
        have cx := (hC3.nod.cell _).trans (nodeC_nx (P + N) nx pv inn x (by omega))
        rw [HX.out] at cx
        have hc3 := hC3.blk.cell
        have d1 := hB13.cell
        clear hC hB1 hB2 hJ hk3
        gi_wp2
        go_roundw
        case rel => exact ⟨k + 1, by omega, rfl, hC3, hB13, hB23, by rw [HT.out]; exact hJ3⟩
        case measure => exact HM.out
      · gi_wp2
        refine bodyPost_ret (results_none rfl _ _ _) rfl ?_
        exact ⟨⟨_, rfl⟩, .inr ⟨_, hpre.out, hJx3⟩⟩
    · have hke : k = (L j).length := by omega
      have hh : headOf ((L j).drop k) H = H := by
        rw [hke, List.drop_length]
        rfl
      rw [hh]
      have ht : (L j).take k = L j := List.take_of_length_le (by omega)
      rw [ht] at hJ
      gi_wp2
      go_end0
      exact ⟨⟨_, rfl⟩, .inl ⟨_, rfl, hJ⟩⟩
end Go.Proofs.YtckkfbepclogcaaGreatDoor
namespace Go.Proofs.YtckkfbepclogcaaGreatDoor
open Go.RowKit Go.Shelf
attribute [local go_sem] Oper.semAt_some
theorem ceach_any (c j : Nat) (w : World) : Calls Tryz.prog 74 #[.pointer (some ⟨c, 0, none⟩), .int .i64 j] w fun e w' =>
    e = .returned (.func (.func 97) #[] #[.pointer (some ⟨w.heap.size, 0, none⟩), .pointer (some ⟨w.heap.size + 1, 0, none⟩)]) ∧ w' = (w.alloc (.cells #[.pointer (some ⟨c, 0, none⟩)] 66)).alloc (.cells #[.int .i64 j] 3) := by
  go_enter Tryz.func74, Tryz.ntmps74
  go_wp2
  go_ret
  exact ⟨by simp, rfl⟩
theorem abides_drew {β : Type} {B : Nat} {J : β → World → Prop} (h : AbidesFrom B J) : ∀ pre W, J pre W → J pre W.drew := fun pre W hJ => h pre W W.drew none hJ ⟨rfl, rfl, rfl, Nat.le_refl _, fun _ _ _ => rfl⟩ (fun _ e => by cases e)
theorem ceach_stops (n : Nat) (hn : 1 ≤ n) (n₀ bc bj c nb P N j : Nat) (nx pv : Nat → Nat) (inn : Nat → Option Nat) (L : Nat → List Nat) (hO : ChOk P N nx pv inn L) (hj : j < N) (hM : P + N ≤ 4096) (w : World) (hC : CNod w c nb (P + N) P N nx pv inn) (hc0 : c < n₀) (hn0 : nb < n₀)
    (hB1 : Blk w bc 66 #[.pointer (some ⟨c, 0, none⟩)]) (hb1 : bc < n₀) (hB2 : Blk w bj 3 #[.int .i64 j]) (hb2 : bj < n₀) :
    SeqStopsK Fence.wide n Tryz.prog 97 #[.pointer (some ⟨bc, 0, none⟩), .pointer (some ⟨bj, 0, none⟩)] (fun x : Nat => #[Value.int .i64 (x : Nat)]) (Below n₀) (fun ys => ys = L j) (fun pre => pre <+: L j) 4096 w := fun l J Jx W hW hA _ hY h0 =>
  ceach1_in n hn l n₀ bc bj c nb P N j nx pv inn L hO hj hM J Jx (abides_drew hA) hY W (hC.below hW) hc0 hn0 (hB1.below hW hB1.lt) hb1 (hB2.below hW hB2.lt) hb2 h0
def headI (l : List Nat) : Option Int := l.head?.map fun x => (x : Int)
set_option maxRecDepth 100000 in
set_option maxHeartbeats 4000000 in
theorem cfirst_any (c nb P N j : Nat) (inn : Nat → Option Nat) (L : Nat → List Nat) (w : World) (h : CM w c nb P N inn L) (hM : P + N ≤ 4096) (hj : j < N) :
    Calls Tryz.prog 48 #[.pointer (some ⟨c, 0, none⟩), .int .i64 j] w fun e w' => e = .returned (pairV (headI (L j))) ∧ Below w.heap.size w w' := by
  obtain ⟨nx, pv, h1, hO⟩ := h.st
  have hcl := h1.blk.lt
  have hnl := h1.nod.lt
  have hN0 : Blk (w.alloc (.cells #[.int .i64 0] 3)) w.heap.size 3 #[.int .i64 0] := Blk.new _ _ _
  have hF0 : Blk ((w.alloc (.cells #[.int .i64 0] 3)).alloc (.cells #[.bool false] 4)) (w.heap.size + 1) 4 #[.bool false] := by simpa using Blk.new (w.alloc (.cells #[.int .i64 0] 3)) 4 #[.bool false]
  have hbl : Below w.heap.size w ((w.alloc (.cells #[.int .i64 0] 3)).alloc (.cells #[.bool false] 4)) := two_new _ _ _
  have h2 := h1.below hbl
  have hN1 := hN0.alloc (.cells #[.bool false] 4)
  have hea := ceach_any c j ((w.alloc (.cells #[.int .i64 0] 3)).alloc (.cells #[.bool false] 4))
  have hsz : ((w.alloc (.cells #[.int .i64 0] 3)).alloc (.cells #[.bool false] 4)).heap.size = w.heap.size + 1 + 1 := by simp
  clear h hN0
  refine (callsIn_wide (n := 3)).1 ?_
  refine callsIn_of_wp_marks Tryz.func48 rfl trivial ?_ rfl
  simp only [Tryz.ntmps48, List.size_toArray, List.length_cons, List.length_nil, Nat.reduceAdd, Nat.reduceSub, Array.replicate_succ, Array.replicate_zero, List.push_toArray, List.append_toArray, List.nil_append, List.cons_append]
  gi_wp2_with (refine ⟨trivial, ?_⟩; gi_at_call 74; refine (callsIn_wide.2 hea).mono ?_; rintro e w' ⟨rfl, rfl⟩)
  clear hea
  generalize (w.alloc (.cells #[.int .i64 0] 3)).alloc (.cells #[.bool false] 4) = wr at *
  have hB1 : Blk (wr.alloc (.cells #[.pointer (some ⟨c, 0, none⟩)] 66)) wr.heap.size 66 #[.pointer (some ⟨c, 0, none⟩)] := Blk.new _ _ _
  have hB1' := hB1.alloc (.cells #[.int .i64 j] 3)
  have hB2 : Blk ((wr.alloc (.cells #[.pointer (some ⟨c, 0, none⟩)] 66)).alloc (.cells #[.int .i64 j] 3)) (wr.heap.size + 1) 3 #[.int .i64 j] := by simpa using Blk.new (wr.alloc (.cells #[.pointer (some ⟨c, 0, none⟩)] 66)) 3 #[.int .i64 j]
  have hbl2 : Below w.heap.size w ((wr.alloc (.cells #[.pointer (some ⟨c, 0, none⟩)] 66)).alloc (.cells #[.int .i64 j] 3)) := hbl.trans (Below.mono (two_new _ _ _) hbl.size)
  have h3 := h2.below (two_new wr (.cells #[.pointer (some ⟨c, 0, none⟩)] 66) (.cells #[.int .i64 j] 3))
  have hN2 := (hN1.alloc (.cells #[.pointer (some ⟨c, 0, none⟩)] 66)).alloc (.cells #[.int .i64 j] 3)
  have hF2 := (hF0.alloc (.cells #[.pointer (some ⟨c, 0, none⟩)] 66)).alloc (.cells #[.int .i64 j] 3)
  have hse : ((wr.alloc (.cells #[.pointer (some ⟨c, 0, none⟩)] 66)).alloc (.cells #[.int .i64 j] 3)).heap.size = w.heap.size + 1 + 1 + 1 + 1 := by simp [hsz]
  rw [hsz] at *
  generalize (wr.alloc (.cells #[.pointer (some ⟨c, 0, none⟩)] 66)).alloc (.cells #[.int .i64 j] 3) = w0 at *
  clear hB1 hN1 hF0 h2 hbl hsz h1
  have hZ := hse
  refine wpIn_rangeFunc_ownF rfl (by omega) (gf := 97) (lb := #[.pointer (some ⟨w.heap.size + 1 + 1, 0, none⟩), .pointer (some ⟨w.heap.size + 1 + 1 + 1, 0, none⟩)]) rfl trivial (enters_of Tryz.func97 (by kernel_rfl) rfl)
    (ceach_stops 2 (by omega) w0.heap.size (w.heap.size + 1 + 1) (w.heap.size + 1 + 1 + 1) c nb P N j nx pv inn L hO hj hM _ h3 (by omega) (by omega) hB1' (by omega) hB2 (by omega)) belowK_t (belowK_b (Nat.le_refl _)) (Below.refl _ _) (fun _ => rfl)
    (fun pre W => (pre = [] ∧ W.cell? ⟨w.heap.size, 0, none⟩ = some (.int .i64 0) ∧ W.frozen? ⟨w.heap.size, 0, none⟩ = false ∧ W.cell? ⟨w.heap.size + 1, 0, none⟩ = some (.bool false) ∧ W.frozen? ⟨w.heap.size + 1, 0, none⟩ = false) ∧ Below w.heap.size w W)
    (fun e pre W => (e = .ret ∧ ∃ x : Nat, pre = [x] ∧ W.cell? ⟨w.heap.size, 0, none⟩ = some (.int .i64 x) ∧ W.cell? ⟨w.heap.size + 1, 0, none⟩ = some (.bool true)) ∧ Below w.heap.size w W)
    (OwnFrom.and (Own.from (fun s A B row hs hg hr => ⟨hs.1, cell_kept hs.2.1 hg hr, (frozen_kept hs.2.1 hg hr).trans hs.2.2.1, cell_kept hs.2.2.2.1 hg hr, (frozen_kept hs.2.2.2.1 hg hr).trans hs.2.2.2.2⟩) _) (ownFrom_below (Nat.le_refl _) (by omega)))
    (fun e => OwnFrom.and (Own.from (fun s A B row hs hg hr => by obtain ⟨h1, x, h2, h3, h4⟩ := hs; exact ⟨h1, x, h2, cell_kept h3 hg hr, cell_kept h4 hg hr⟩) _) (ownFrom_below (Nat.le_refl _) (by omega)))
    ⟨⟨rfl, hN2.cell 0, hN2.frozen 0, hF2.cell 0, hF2.frozen 0⟩, hbl2⟩ ?a1 ?assign ?body ?done ?stop
  case assign =>
    intro l x W K hK
    gi_wp2
    exact hK
  case body =>
    rintro l pre x W ⟨⟨rfl, c1, f1, c2, f2⟩, hBW⟩ _
    gi_wp2
    refine ⟨(KeepsOthers.setCell _ _ _).trans (KeepsOthers.setCell _ _ _), ⟨rfl, x, rfl, ?_, ?_⟩, (hBW.setCell (by simp) _).setCell (by simp) _⟩
    · rw [World.cell?_setCell_other _ _ _ _ (by simp)]
      exact World.cell?_setCell_same' _ _ _ (by rw [c1]; rfl)
    · exact World.cell?_setCell_same' _ _ _ (by rw [World.cell?_setCell_other _ _ _ _ (by simp), c2]; rfl)
  case done =>
    rintro D ys W hD hys ⟨⟨rfl, c1, f1, c2, f2⟩, hBW⟩ hK
    have hnil : Hid (headI (L j) = none) := Lib.hid (by unfold headI; rw [← hys]; rfl)
    gi_wp2
    have hd1 : (W.setCell ⟨w.heap.size, 0, none⟩ (.int .i64 0)).cell? ⟨w.heap.size, 0, none⟩ = some (.int .i64 0) := World.cell?_setCell_same' _ _ _ (by rw [c1]; rfl)
    have hd2 : ((W.setCell ⟨w.heap.size, 0, none⟩ (.int .i64 0)).setCell ⟨w.heap.size + 1, 0, none⟩ (.bool false)).cell? ⟨w.heap.size, 0, none⟩ = some (.int .i64 0) := by
      rw [World.cell?_setCell_other _ _ _ _ (by simp)]; exact hd1
    have hd3 : ((W.setCell ⟨w.heap.size, 0, none⟩ (.int .i64 0)).setCell ⟨w.heap.size + 1, 0, none⟩ (.bool false)).cell? ⟨w.heap.size + 1, 0, none⟩ = some (.bool false) := World.cell?_setCell_same' _ _ _ (by rw [World.cell?_setCell_other _ _ _ _ (by simp), c2]; rfl)
    have hK' := ((KeepsOthers.setCell W ⟨w.heap.size, 0, none⟩ (.int .i64 0)).trans (KeepsOthers.setCell _ ⟨w.heap.size + 1, 0, none⟩ (.bool false))).same D _ hK rfl
    have hBB := (hBW.setCell (p := ⟨w.heap.size, 0, none⟩) (by simp) (.int .i64 0)).setCell (p := ⟨w.heap.size + 1, 0, none⟩) (by simp) (.bool false)
    generalize (W.setCell ⟨w.heap.size, 0, none⟩ (.int .i64 0)).setCell ⟨w.heap.size + 1, 0, none⟩ (.bool false) = W2 at *
    refine ⟨by simp, .inl ⟨_, _, rfl, run_takeDeferred hK', ?_⟩⟩
    have hk5 := cell_kept hd2 (grownBy_putObj' _ D (.deferred none)) (fun r e => by cases e; exact ⟨_, hK', rfl⟩)
    have hb5 := cell_kept hd3 (grownBy_putObj' _ D (.deferred none)) (fun r e => by cases e; exact ⟨_, hK', rfl⟩)
    refine ⟨pairV none, ?_, by rw [hnil.out], hBB.trans (belowK_b (w := w) (Nat.le_refl _) W2 D _ _ (by omega) hK' rfl rfl)⟩
    simp [results, Tryz.results48, go_sem, hk5, hb5, pairV]
  case stop =>
    rintro D e pre W hD hpre ⟨⟨rfl, x, rfl, c1, c2⟩, hBW⟩ hK
    have hhd : Hid (headI (L j) = some (x : Int)) := Lib.hid (by obtain ⟨s, hs⟩ := hpre; unfold headI; rw [← hs]; rfl)
    gi_wp2
    refine ⟨by simp, .inl ⟨_, _, rfl, run_takeDeferred hK, ?_⟩⟩
    have hk5 := cell_kept c1 (grownBy_putObj' _ D (.deferred none)) (fun r e => by cases e; exact ⟨_, hK, rfl⟩)
    have hb5 := cell_kept c2 (grownBy_putObj' _ D (.deferred none)) (fun r e => by cases e; exact ⟨_, hK, rfl⟩)
    refine ⟨pairV (some (x : Int)), ?_, by rw [hhd.out], hBW.trans (belowK_b (w := w) (Nat.le_refl _) W D _ _ (by omega) hK rfl rfl)⟩
    simp [results, Tryz.results48, go_sem, hk5, hb5, pairV]
end Go.Proofs.YtckkfbepclogcaaGreatDoor
namespace Go.Proofs.YtckkfbepclogcaaGreatDoor
open Go.RowKit Go.Shelf
attribute [local go_sem] Oper.semAt_some
def natV (x : Nat) : Value := .int .i64 (x : Int)
set_option maxRecDepth 100000 in
set_option maxHeartbeats 2000000 in
theorem cappseq_in (n : Nat) (hn : 3 ≤ n) (bc bj c nb P N j : Nat) (nx pv : Nat → Nat) (inn : Nat → Option Nat) (L : Nat → List Nat) (hO : ChOk P N nx pv inn L) (hj : j < N) (hM : P + N ≤ 4096) (w : World) (hC : CNod w c nb (P + N) P N nx pv inn)
    (hB1 : Blk w bc 66 #[.pointer (some ⟨c, 0, none⟩)]) (hB2 : Blk w bj 3 #[.int .i64 j]) :
    CallsIn Fence.wide n Tryz.prog 102 #[.slice none 0 0, .func (.func 97) #[] #[.pointer (some ⟨bc, 0, none⟩), .pointer (some ⟨bj, 0, none⟩)]] w fun e W' => ∃ v, e = .returned v ∧ W'.ownsRow w.heap.size 3 1 v (L j).length ((L j).map natV) ∧ Below w.heap.size w W' := by
  have h1 : 1 ≤ n := by omega
  obtain ⟨i0, hi, hz0, hz1, hz2⟩ := info_parts info_int
  refine callsIn_of_wp_marks Tryz.func102 rfl trivial ?_ rfl
  simp only [Tryz.ntmps102, List.size_toArray, List.length_cons, List.length_nil, Nat.reduceAdd, Nat.reduceSub, Array.replicate_succ, Array.replicate_zero, List.push_toArray, List.append_toArray, List.nil_append, List.cons_append]
  gi_wp2
  have bO := Boxed.new w 104 (.slice none 0 0)
  have hB0 : Below w.heap.size w (w.alloc (.cells #[.slice none 0 0] 104)) := (Below.refl _ w).alloc (Nat.le_refl _) _
  refine wpIn_rangeFunc_ownG rfl h1 (gf := 97) (lb := #[.pointer (some ⟨bc, 0, none⟩), .pointer (some ⟨bj, 0, none⟩)]) rfl trivial (enters_of Tryz.func97 (by kernel_rfl) rfl)
    (ceach_stops (n - 1) (by omega) w.heap.size bc bj c nb P N j nx pv inn L hO hj hM _ (hC.below hB0) hC.blk.lt hC.nod.lt (hB1.alloc _) hB1.lt (hB2.alloc _) hB2.lt) belowK_t (belowK_b (by simp)) (Below.refl _ _) (fun _ => rfl)
    (fun pre W => (∃ v, Boxed W w.heap.size 104 v ∧ W.ownsRow w.heap.size 3 1 v pre.length (pre.map natV) ∧ (v = .slice none 0 0 ↔ pre = [])) ∧ Below w.heap.size w W)
    (fun _ _ _ => False)
    (OwnFrom.and (Own.from (holdsRow_own w.heap.size w.heap.size 104 3 1 (fun pre => pre.length) (fun pre => pre.map natV) (fun pre v => v = .slice none 0 0 ↔ pre = [])) _) (ownFrom_below (Nat.le_refl _) (by simp)))
    (fun _ _ _ _ _ hs _ _ => hs)
    ⟨⟨_, bO, World.ownsRow_nil _ _ _ _, by simp⟩, hB0⟩
    (fun x => { tmps := #[.slice none 0 0, .func (.func 97) #[] #[.pointer (some ⟨bc, 0, none⟩), .pointer (some ⟨bj, 0, none⟩)], .pointer (some ⟨w.heap.size, 0, none⟩), undef, .slice none 0 0, .int .i64 (x : Nat), .func (.func 97) #[] #[.pointer (some ⟨bc, 0, none⟩), .pointer (some ⟨bj, 0, none⟩)], .int .i64 (x : Nat), undef, undef, undef, undef, undef], defers := [] }) ?assign ?body ?done ?stop
  case assign =>
    intro l x W K hK
    gi_wp2
    exact hK
  case body =>
    rintro l pre x W ⟨⟨v, hv, hrow, hnil⟩, hBW⟩ hlt
    have hc := hv.cell
    gi_wp2_with (gi_at_builtin; refine wpListIn_append_own _ rfl _ _ 104 rfl w.heap.size 3 i0 (.int .i64 0) 1 8 Tryz.underlying104 hi hz0 hz1 hz2 rfl (by decide) _ _ _ rfl (hrow.alloc _) ⟨W.heap.size, 0, none⟩ 1 1 [.int .i64 (x : Nat)] rfl rfl (cell_one_new _ _ _) (by simp [Value.oneCell']) (by unfold maxLen; omega) (by omega) (by have := hBW.size; simp; omega) ?_; intro v' w1 hown' hgrow _; obtain ⟨g', cap', rfl⟩ := ownsRow_succ hown'; obtain ⟨hv1, hv2, hr2, hk2, hb2⟩ := hv.appended (by decide) hrow hBW.size (Nat.le_refl _) hown' hgrow; have hc1 := hv1.cell; have hf1 := hv1.frozen)
    exact ⟨hk2.from _, hb2, ⟨_, hv2, by simpa [natV] using hr2, by simp⟩, hBW.trans hb2⟩
  case done =>
    rintro D ys W hD rfl ⟨⟨v, hv, hrow, hnil⟩, hBW⟩ hK
    have hc := hv.cell
    gi_wp2
    refine ⟨by simp, .inl ⟨_, _, rfl, run_takeDeferred hK, ?_⟩⟩
    exact ⟨_, results_tmp rfl _ _ _, v, rfl, ownsRow_putObj hrow _ hK rfl, hBW.trans (belowK_b (w := w) (Nat.le_refl _) W D _ _ (by simp at hD; omega) hK rfl rfl)⟩
  case stop =>
    rintro D c pre W _ _ h _
    exact h.elim
set_option maxRecDepth 100000 in
theorem ccollect_any (bc bj c nb P N j : Nat) (nx pv : Nat → Nat) (inn : Nat → Option Nat) (L : Nat → List Nat) (hO : ChOk P N nx pv inn L) (hj : j < N) (hM : P + N ≤ 4096) (w : World) (hC : CNod w c nb (P + N) P N nx pv inn)
    (hB1 : Blk w bc 66 #[.pointer (some ⟨c, 0, none⟩)]) (hB2 : Blk w bj 3 #[.int .i64 j]) :
    Calls Tryz.prog 80 #[.func (.func 97) #[] #[.pointer (some ⟨bc, 0, none⟩), .pointer (some ⟨bj, 0, none⟩)]] w fun e W' => ∃ v, e = .returned v ∧ W'.ownsRow w.heap.size 3 1 v (L j).length ((L j).map natV) ∧ Below w.heap.size w W' := by
  have hap := (callsIn_wide (n := 3)).1 (cappseq_in 3 (by omega) bc bj c nb P N j nx pv inn L hO hj hM w hC hB1 hB2)
  go_enter Tryz.func80, Tryz.ntmps80
  go_wp2_with fail
  refine hap.mono ?_
  rintro e w2 ⟨v, rfl, hown, hb2⟩
  go_wp2
  go_ret
  exact ⟨_, rfl, hown, hb2⟩
set_option maxRecDepth 100000 in
theorem call_any (c nb P N j : Nat) (inn : Nat → Option Nat) (L : Nat → List Nat) (w : World) (h : CM w c nb P N inn L) (hM : P + N ≤ 4096) (hj : j < N) :
    Calls Tryz.prog 55 #[.pointer (some ⟨c, 0, none⟩), .int .i64 j] w fun e W' => ∃ v, e = .returned v ∧ W'.ownsRow w.heap.size 3 1 v (L j).length ((L j).map natV) ∧ Below w.heap.size w W' := by
  obtain ⟨nx, pv, h1, hO⟩ := h.st
  have hea := ceach_any c j w
  have hbl := two_new w (.cells #[.pointer (some ⟨c, 0, none⟩)] 66) (.cells #[.int .i64 j] 3)
  have hB1 : Blk ((w.alloc (.cells #[.pointer (some ⟨c, 0, none⟩)] 66)).alloc (.cells #[.int .i64 j] 3)) w.heap.size 66 #[.pointer (some ⟨c, 0, none⟩)] := (Blk.new _ _ _).alloc _
  have hB2 : Blk ((w.alloc (.cells #[.pointer (some ⟨c, 0, none⟩)] 66)).alloc (.cells #[.int .i64 j] 3)) (w.heap.size + 1) 3 #[.int .i64 j] := by simpa using Blk.new (w.alloc (.cells #[.pointer (some ⟨c, 0, none⟩)] 66)) 3 #[.int .i64 j]
  have hco := ccollect_any _ _ c nb P N j nx pv inn L hO hj hM _ (h1.below hbl) hB1 hB2
  clear hB1 hB2
  go_enter Tryz.func55, Tryz.ntmps55
  go_wp2_with fail
  refine hea.mono ?_
  rintro e w2 ⟨rfl, rfl⟩
  go_wp2_with fail
  refine hco.mono ?_
  rintro e w2 ⟨v, rfl, hown, hb2⟩
  go_wp2_with fail
  go_ret
  exact ⟨_, rfl, ⟨hown.1, hown.2.imp id (fun ⟨g, cap, cur, h1, h2, h3⟩ => ⟨g, cap, cur, h1, by simp at h2; omega, h3⟩)⟩, hbl.trans (hb2.mono (by simp; omega))⟩
end Go.Proofs.YtckkfbepclogcaaGreatDoor
