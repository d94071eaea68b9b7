/- Layer 2 (bitmap): Of, the reference's Of and List. -/
import Derived.Test.YtifoeddeofhclaaDoorBits5
namespace Go.Proofs.YtifoeddeofhclaaDoor
open Go.RowKit
def ofL (l : List Int) : Bits := l.foldl Bits.put Bits.zero
theorem zero_ok : Bits.zero.Ok := ⟨by decide, by decide, by decide, by decide⟩
theorem fold_ok (l : List Int) : ∀ b : Bits, b.Ok → (l.foldl Bits.put b).Ok := by
  induction l with
  | nil => intro b h; exact h
  | cons x l ih => intro b h; exact ih _ (h.put x)
theorem of_ok (l : List Int) : (ofL l).Ok := fold_ok l _ zero_ok
theorem of_snoc (l : List Int) (k : Nat) (hk : k < l.length) : ofL (l.take (k + 1)) = (ofL (l.take k)).put l[k] := by
  unfold ofL
  rw [List.take_succ_eq_append_getElem hk, List.foldl_append]
  rfl
set_option maxHeartbeats 1000000 in
theorem rof_any (A : Option Addr) (l : List Int) (c : Nat) (w : World) (h : IntsAt w w.heap.size A l) (hl : l.length ≤ 1000000) :
    Calls Tryd.prog 15 #[.slice A l.length c] w fun e w' => e = .returned (ofL l).val ∧ Below w.heap.size w w' := by
  go_enter Tryd.func15, Tryd.ntmps15
  go_wp2
  have hR0 : Blk (w.alloc (.cells Bits.zero.cells 24)) w.heap.size 24 Bits.zero.cells := Blk.new _ _ _
  have hB0 : Blk ((w.alloc (.cells Bits.zero.cells 24)).alloc (.cells Bits.zero.cells 24)) (w.heap.size + 1) 24 Bits.zero.cells := by simpa using Blk.new (w.alloc (.cells Bits.zero.cells 24)) 24 Bits.zero.cells
  go_loopw [4] (fun i wr => ∃ j : Nat, j ≤ l.length ∧ i = .int .i64 j ∧ Blk wr (w.heap.size + 1) 24 (ofL (l.take j)).cells ∧ Blk wr w.heap.size 24 Bits.zero.cells ∧ Below w.heap.size w wr) (fun i _ => l.length - (intOf i).toNat)
  case atStart => exact ⟨0, by omega, rfl, hB0, hR0.alloc _, ((Below.refl _ _).alloc (Nat.le_refl _) _).alloc (by simp) _⟩
  case round =>
    obtain ⟨j, hj, rfl, hB, hR, hb⟩ := hrel
    clear hR0 hB0
    have hltB := hB.lt
    by_cases hlt : j < l.length
    · have hs := of_snoc l j hlt
      have hok := of_ok (l.take j)
      generalize ofL (l.take j) = B at *
      obtain ⟨b1, o1, rfl, hb1, c1⟩ := (h.below hb (Nat.le_refl _)) j hlt
      have hc := hB.cell
      have hz := hB.frozen
      simp only [Bits.cells] at hc
      generalize l[j] = x at *
      have HS := Lib.hid hs
      clear hs
      go_wp2
      refine still_tail 5 (by kernel_rfl) (by kernel_rfl) ?_
      simp only [List.take_succ_cons, List.take_zero, List.drop_succ_cons, List.drop_zero]
      repeat still_step
      refine wpStill_nil ?_
      go_wp2_with fail
      refine (rput_on B x _ hok).mono ?_
      rintro e w2 ⟨rfl, hb2⟩
      replace hB := hB.drew
      replace hR := hR.drew
      replace hb := hb.drew
      have hB2 : Blk w2 (w.heap.size + 1) 24 B.cells := Blk.below hB hb2 (by first | exact hltB | simpa using hltB)
      have hR2 : Blk w2 w.heap.size 24 Bits.zero.cells := Blk.below hR hb2 (by first | omega | (simp; omega))
      have hbb : Below w.heap.size w w2 := hb.trans (Below.mono hb2 (by first | omega | (simp; omega)))
      clear hb2 hB hR hb hc hz c1
      have hc := hB2.cell
      have hz := hB2.frozen
      simp only [Bits.cells] at hc
      obtain ⟨wz, hwz, hQ, hG⟩ := fill4 B (B.put x) hB2 hbb (by omega)
      have hR3 : Blk wz w.heap.size 24 Bits.zero.cells := by
        rw [hwz]
        exact (((hR2.far (by simp) _).far (by simp) _).far (by simp) _).far (by simp) _
      unfold Bits.val
      go_wp2
      rw [← hwz]
      go_roundw
      case rel => exact ⟨j + 1, by omega, by go_num, by rw [HS.out]; exact hQ, hR3, hG⟩
      case measure => simp [intOf]; omega
    · have ht : l.take j = l := List.take_of_length_le (by omega)
      rw [ht] at hB
      clear ht
      have hc := hB.cell
      have hz := hR.frozen
      have hc2 := hR.cell
      obtain ⟨wz, hwz, hQ, hG⟩ := fill4 Bits.zero (ofL l) hR hb (by omega)
      simp only [Bits.cells, Bits.zero] at hc hc2
      go_wp2
      rw [← hwz]
      have hQc := hQ.cell
      simp only [Bits.cells] at hQc
      exact bodyPost_ret (v := (ofL l).val) (by simp [results, Tryd.results15, go_sem, Bits.val, hQc]) rfl ⟨rfl, hG⟩
set_option maxHeartbeats 1000000 in
theorem of_any (A : Option Addr) (l : List Int) (c : Nat) (w : World) (h : IntsAt w w.heap.size A l) (hl : l.length ≤ 1000000) :
    Calls Tryd.prog 19 #[.slice A l.length c] w fun e w' => e = .returned (ofL l).val ∧ Below w.heap.size w w' := by
  go_enter Tryd.func19, Tryd.ntmps19
  go_wp2
  have hR0 : Blk (w.alloc (.cells Bits.zero.cells 24)) w.heap.size 24 Bits.zero.cells := Blk.new _ _ _
  have hB0 : Blk ((w.alloc (.cells Bits.zero.cells 24)).alloc (.cells Bits.zero.cells 24)) (w.heap.size + 1) 24 Bits.zero.cells := by simpa using Blk.new (w.alloc (.cells Bits.zero.cells 24)) 24 Bits.zero.cells
  go_loopw [8] (fun i wr => ∃ j : Nat, j ≤ l.length ∧ i = .int .i64 j ∧ Blk wr (w.heap.size + 1) 24 (ofL (l.take j)).cells ∧ Blk wr w.heap.size 24 Bits.zero.cells ∧ Below w.heap.size w wr) (fun i _ => l.length - (intOf i).toNat)
  case atStart => exact ⟨0, by omega, rfl, hB0, hR0.alloc _, ((Below.refl _ _).alloc (Nat.le_refl _) _).alloc (by simp) _⟩
  case round =>
    obtain ⟨j, hj, rfl, hB, hR, hb⟩ := hrel
    clear hR0 hB0
    have hltB := hB.lt
    by_cases hlt : j < l.length
    · have hs := of_snoc l j hlt
      have hok := of_ok (l.take j)
      generalize ofL (l.take j) = B at *
      obtain ⟨b1, o1, rfl, hb1, c1⟩ := (h.below hb (Nat.le_refl _)) j hlt
      have hc := hB.cell
      have hz := hB.frozen
      simp only [Bits.cells] at hc
      generalize l[j] = x at *
      have HS := Lib.hid hs
      clear hs
      go_wp2_with fail
      refine (put_any B x _ hok).mono ?_
      rintro e w2 ⟨rfl, hb2⟩
      have hB2 : Blk w2 (w.heap.size + 1) 24 B.cells := Blk.below hB hb2 (by first | exact hltB | simpa using hltB)
      have hR2 : Blk w2 w.heap.size 24 Bits.zero.cells := Blk.below hR hb2 (by first | omega | (simp; omega))
      have hbb : Below w.heap.size w w2 := hb.trans (Below.mono hb2 (by first | omega | (simp; omega)))
      clear hb2 hB hR hb hc hz c1
      have hc := hB2.cell
      have hz := hB2.frozen
      simp only [Bits.cells] at hc
      obtain ⟨wz, hwz, hQ, hG⟩ := fill4 B (B.put x) hB2 hbb (by omega)
      have hR3 : Blk wz w.heap.size 24 Bits.zero.cells := by
        rw [hwz]
        exact (((hR2.far (by simp) _).far (by simp) _).far (by simp) _).far (by simp) _
      unfold Bits.val
      go_wp2
      rw [← hwz]
      go_roundw
      case rel => exact ⟨j + 1, by omega, by go_num, by rw [HS.out]; exact hQ, hR3, hG⟩
      case measure => simp [intOf]; omega
    · have ht : l.take j = l := List.take_of_length_le (by omega)
      rw [ht] at hB
      clear ht
      have hc := hB.cell
      have hz := hR.frozen
      have hc2 := hR.cell
      obtain ⟨wz, hwz, hQ, hG⟩ := fill4 Bits.zero (ofL l) hR hb (by omega)
      simp only [Bits.cells, Bits.zero] at hc hc2
      go_wp2
      rw [← hwz]
      have hQc := hQ.cell
      simp only [Bits.cells] at hQc
      exact bodyPost_ret (v := (ofL l).val) (by simp [results, Tryd.results19, go_sem, Bits.val, hQc]) rfl ⟨rfl, hG⟩
theorem info_int : (Tryd.prog.info? 3).map (fun i => (i.zero, i.size, i.bytes)) = some (some (.int .i64 0), 1, 8) := by kernel_rfl
def Bits.upl (b : Bits) (k : Nat) : List Int := ((List.range k).filter b.at).map fun n => ((n : Nat) : Int)
def Bits.list (b : Bits) : List Int := b.upl 256
theorem upl_succ (b : Bits) (k : Nat) : b.upl (k + 1) = if b.at k then b.upl k ++ [(k : Int)] else b.upl k := by
  unfold Bits.upl
  rw [List.range_succ, List.filter_append, List.map_append]
  cases h : b.at k <;> simp [h]
theorem upl_len (b : Bits) (k : Nat) : (b.upl k).length ≤ k := by
  unfold Bits.upl
  have := List.length_filter_le b.at (List.range k)
  simpa using this
set_option maxRecDepth 100000 in
set_option maxHeartbeats 1000000 in
theorem rlist_any (b : Bits) (w : World) (hb : b.Ok) : Calls Tryd.prog 16 #[b.val] w fun e w' =>
      ∃ v, e = .returned v ∧ w'.ownsRow w.heap.size 3 1 v b.list.length (b.list.map fun x => Value.int .i64 x) ∧ Below w.heap.size w w' := by
  obtain ⟨i0, hi, hz0, hz1, hz2⟩ := info_parts info_int
  unfold Bits.val
  go_enter Tryd.func16, Tryd.ntmps16
  go_wp2
  have hB0 : Blk (w.alloc (.cells b.cells 24)) w.heap.size 24 b.cells := Blk.new _ _ _
  go_loopw [3, 4] (fun v i wr => ∃ k : Nat, k ≤ 256 ∧ i = .int .i64 k ∧ wr.ownsRow (w.heap.size + 1) 3 1 v (b.upl k).length ((b.upl k).map fun x => Value.int .i64 x) ∧ Blk wr w.heap.size 24 b.cells ∧ Below w.heap.size w wr) (fun _ i _ => 256 - (intOf i).toNat)
  case atStart => exact ⟨0, Nat.zero_le _, rfl, ⟨by simp [Bits.upl], .inl ⟨rfl, rfl⟩⟩, hB0, (Below.refl _ _).alloc (Nat.le_refl _) _⟩
  case round =>
    obtain ⟨k, hk, rfl, hown, hB, hbl⟩ := hrel
    clear hB0
    have hltB := hB.lt
    have hc := hB.cell
    simp only [Bits.cells] at hc
    by_cases hlt : k < 256
    · have hu := upl_succ b k
      have hul := upl_len b k
      go_wp2_with fail
      refine (rhas_any b k wr hb).mono ?_
      rintro e w1 ⟨rfl, hb1⟩
      have hhas : b.has k = b.at k := by unfold Bits.has; simp; omega
      rw [hhas]
      have hown1 := ownsRow_keep (w' := w1) hown (fun g hg _ => hb1.block g hg)
      have hbl1 : Below w.heap.size w w1 := hbl.trans (hb1.mono hbl.size)
      have hB1 := Blk.below hB hb1 hltB
      have hltB1 := hB1.lt
      clear hb1 hown hB hc hbl hhas
      cases hat : b.at k with
      | true =>
        rw [hat, if_pos rfl] at hu
        have HU := Lib.hid hu
        clear hu
        go_wp2_with (at_builtin; refine wpList_append_own _ rfl _ _ 30 rfl (w.heap.size + 1) 3 i0 (.int .i64 0) 1 8 Tryd.underlying30 hi hz0 hz1 hz2 rfl (by decide) _ _ _ rfl (hown1.alloc _) ⟨w1.heap.size, 0, none⟩ 1 1 [.int .i64 k] rfl rfl ?c1 ?c2 ?c3 ?c4 ?c5 ?_)
        case c1 => exact cells_new _ _ [.int .i64 k]
        case c2 => simp [Value.oneCell']
        case c3 => unfold maxLen; omega
        case c4 => omega
        case c5 => simp; omega
        intro v2 w2 hown2 hgr2 _
        have hB2 : Blk w2 w.heap.size 24 b.cells := Blk.below (B := w.heap.size + 1) hB1 (below_app (Below.refl _ _) hown1 hgr2 (by omega) (Nat.le_refl _)) (by omega)
        have hbl2 := below_app hbl1 hown1 hgr2 hbl1.size (by omega)
        clear hgr2 hown1 hbl1 hB1
        go_wp2
        go_roundw
        case rel => exact ⟨k + 1, by omega, by go_num, by rw [HU.out, List.map_append, List.length_append]; exact hown2, hB2, hbl2⟩
        case measure => simp [intOf]; omega
      | false =>
        rw [hat, if_neg (by simp)] at hu
        have HU := Lib.hid hu
        clear hu
        go_wp2
        go_roundw
        case rel => exact ⟨k + 1, by omega, by go_num, by rw [HU.out]; exact hown1, hB1, hbl1⟩
        case measure => simp [intOf]; omega
    · obtain rfl : k = 256 := by omega
      go_wp2
      go_ret
      exact ⟨_, rfl, ⟨hown.1, hown.2.imp id (fun ⟨g, cap, cur, h1, h2, h3⟩ => ⟨g, cap, cur, h1, by omega, h3⟩)⟩, hbl⟩
end Go.Proofs.YtifoeddeofhclaaDoor
