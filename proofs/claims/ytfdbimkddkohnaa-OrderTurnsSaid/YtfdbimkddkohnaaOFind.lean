/- Order: order.find, order.Find. -/
import Derived.Test.YtfdbimkddkohnaaBsf
namespace Go.Proofs.Ytfdbimkddkohnaa
open Go.RowKit
theorem TmAt.box {w : World} {A : Option Addr} {l : List Timer} (h : TmAt w w.heap.size A l) (o : Obj) : TmAt (w.alloc o) (w.alloc o).heap.size A l := h.on ((Below.refl _ _).alloc (Nat.le_refl _) o)
set_option maxRecDepth 100000 in
set_option maxHeartbeats 2000000 in
theorem find_in (A : Option Addr) (l : List Timer) (c : Nat) (t : Timer) (w : World) (h : TmAt w w.heap.size A l) (hl : l.length ≤ 1000000) (hs : Srt l) :
    Calls Try.prog 58 #[.slice A l.length c, t.val] w fun e w' => e = .returned (.int .i64 (nBefore l t)) ∧ Below w.heap.size w w' := by
  have hb0 : Below w.heap.size w (w.alloc (.cells #[.int .u64 t.at_, .int .u64 t.seq, .int .i64 t.place] 25)) := (Below.refl _ _).alloc (Nat.le_refl _) _
  have hcon := bsf_any A l c t _ (h.box (.cells #[.int .u64 t.at_, .int .u64 t.seq, .int .i64 t.place] 25)) hl hs
  generalize nBefore l t = n at *
  unfold Timer.val at *
  go_enter Try.func58, Try.ntmps58
  go_wp2_with fail
  refine hcon.mono ?_
  rintro e w1 ⟨⟨bt, rfl⟩, hx⟩
  have hb1 := hb0.trans (Below.mono hx (by simp))
  clear hcon hx hb0
  go_wp2_with fail
  go_ret
  exact ⟨rfl, hb1⟩
set_option maxRecDepth 100000 in
set_option maxHeartbeats 2000000 in
theorem ofind_bad (A : Option Addr) (l : List Timer) (c : Nat) (t : Timer) (w : World) (h : TmAt w w.heap.size A l) (hl : l.length ≤ 1000000) (hs : srtB l = false) :
    Calls Try.prog 39 #[.slice A l.length c, t.val] w fun e w' => e = .returned (.tuple #[.int .i64 0, .int .i64 12]) ∧ Below w.heap.size w w' := by
  have hB : Blk (w.alloc (.cells #[.int .u64 t.at_, .int .u64 t.seq, .int .i64 t.place] 25)) w.heap.size 25 #[.int .u64 t.at_, .int .u64 t.seq, .int .i64 t.place] := Blk.new _ _ _
  have hb0 : Below w.heap.size w (w.alloc (.cells #[.int .u64 t.at_, .int .u64 t.seq, .int .i64 t.place] 25)) := (Below.refl _ _).alloc (Nat.le_refl _) _
  have h0 := h.box (.cells #[.int .u64 t.at_, .int .u64 t.seq, .int .i64 t.place] 25)
  have hcon := sorted_any A l c _ h0 hl
  rw [hs] at hcon
  unfold Timer.val at *
  go_enter Try.func39, Try.ntmps39
  go_wp2_with fail
  refine hcon.mono ?_
  rintro e w1 ⟨rfl, hx⟩
  have hb1 := hb0.trans (Below.mono hx (by simp))
  clear hcon hx hb0
  go_wp2_with fail
  go_ret2
  exact ⟨rfl, hb1⟩
set_option maxRecDepth 100000 in
set_option maxHeartbeats 2000000 in
theorem ofind_ok (A : Option Addr) (l : List Timer) (c : Nat) (t : Timer) (w : World) (h : TmAt w w.heap.size A l) (hl : l.length ≤ 1000000) (hs : srtB l = true) :
    Calls Try.prog 39 #[.slice A l.length c, t.val] w fun e w' => e = .returned (.tuple #[.int .i64 (nBefore l t), .int .i64 0]) ∧ Below w.heap.size w w' := by
  have hB : Blk (w.alloc (.cells #[.int .u64 t.at_, .int .u64 t.seq, .int .i64 t.place] 25)) w.heap.size 25 #[.int .u64 t.at_, .int .u64 t.seq, .int .i64 t.place] := Blk.new _ _ _
  have hb0 : Below w.heap.size w (w.alloc (.cells #[.int .u64 t.at_, .int .u64 t.seq, .int .i64 t.place] 25)) := (Below.refl _ _).alloc (Nat.le_refl _) _
  have h0 := h.box (.cells #[.int .u64 t.at_, .int .u64 t.seq, .int .i64 t.place] 25)
  have hcon := sorted_any A l c _ h0 hl
  rw [hs] at hcon
  have HF := Lib.hid (fun w1 h1 => find_in A l c t w1 h1 hl ((srtB_iff l).1 hs))
  generalize nBefore l t = n at *
  unfold Timer.val at *
  go_enter Try.func39, Try.ntmps39
  go_wp2_with fail
  refine hcon.mono ?_
  rintro e w1 ⟨rfl, hx⟩
  have hb1 := hb0.trans (Below.mono hx (by simp))
  have h1 := h0.on hx
  have hB1 := (hB.below hx (by simp))
  have hcT := hB1.cell
  clear hcon hx hb0
  go_wp2_with fail
  refine (HF.out w1 h1).mono ?_
  rintro e w2 ⟨rfl, hy⟩
  have hb2 := hb1.trans (Below.mono hy hb1.size)
  clear hy hcT hB1 h1 hb1
  go_wp2_with fail
  go_ret2
  exact ⟨rfl, hb2⟩
end Go.Proofs.Ytfdbimkddkohnaa
