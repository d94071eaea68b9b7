/- The law: the texts OFind, laid end to end by a program. -/
import Derived.Test.YtpbepmipfjcjbaaPcBsf
namespace Go.Proofs.Ytpbepmipfjcjbaa
open Go.RowKit
theorem TmAt.box {w : World} {A : Option Addr} {l : List Timer} (h : TmAt w w.heap.size A l) (o : Obj) : TmAt (w.alloc o) (w.alloc o).heap.size A l := h.on ((Below.refl _ _).alloc (Nat.le_refl _) o)
set_option maxRecDepth 100000 in
set_option maxHeartbeats 2000000 in
theorem find_in (A : Option Addr) (l : List Timer) (c : Nat) (t : Timer) (w : World) (h : TmAt w w.heap.size A l) (hl : l.length ≤ 1000000) (hs : Srt l) :
    Calls Try.prog 47 #[.slice A l.length c, t.val] w fun e w' => e = .returned (.int .i64 (nBefore l t)) ∧ Below w.heap.size w w' := by
  have hb0 : Below w.heap.size w (w.alloc (.cells #[.int .u64 t.at_, .int .u64 t.seq, .int .i64 t.place] 35)) := (Below.refl _ _).alloc (Nat.le_refl _) _
  have hcon := bsf_any A l c t _ (h.box (.cells #[.int .u64 t.at_, .int .u64 t.seq, .int .i64 t.place] 35)) hl hs
  generalize nBefore l t = n at *
  unfold Timer.val at *
  go_enter Try.func47, Try.ntmps47
  go_wp2_with fail
  refine hcon.mono ?_
  rintro e w1 ⟨⟨bt, rfl⟩, hx⟩
  have hb1 := hb0.trans (Below.mono hx (by simp))
  clear hcon hx hb0
  go_wp2_with fail
  go_ret
  exact ⟨rfl, hb1⟩
end Go.Proofs.Ytpbepmipfjcjbaa
