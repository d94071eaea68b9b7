/- The law: the texts Need, laid end to end by a program. -/
import Derived.Recover
import Derived.Defers
import Derived.Laws.Pointers
import Derived.Test.YtpbepmipfjcjbaaPcHalf
namespace Go.Proofs.Ytpbepmipfjcjbaa
open Go.RowKit
set_option maxRecDepth 100000 in
set_option maxHeartbeats 2000000 in
theorem need_ok (v : Value) (l : List Timer) (w : World) (h : LW w v l) (hl : l.length ≤ 1000000) (hs : srtB l = true) :
    Calls Try.prog 42 #[v] w fun e w' => e = .returned (.tuple #[]) ∧ Below w.heap.size w w' := by
  obtain ⟨A, c, rfl, hT, _⟩ := h
  have hcon := sorted_any A l c _ hT hl
  rw [hs] at hcon
  go_enter Try.func42, Try.ntmps42
  go_wp2_with fail
  refine hcon.mono ?_
  rintro e w1 ⟨rfl, hx⟩
  clear hcon
  go_wp2_with fail
  go_end0
  exact ⟨rfl, hx⟩
set_option maxRecDepth 100000 in
set_option maxHeartbeats 2000000 in
theorem need_bad (v : Value) (l : List Timer) (w : World) (h : LW w v l) (hl : l.length ≤ 1000000) (hs : srtB l = false) :
    Calls Try.prog 42 #[v] w fun e w' => e = .panicked [{ v := .iface 25 (.int .i64 12), recovered := false }] ∧ Below w.heap.size w w' := by
  obtain ⟨A, c, rfl, hT, _⟩ := h
  have hcon := sorted_any A l c _ hT hl
  rw [hs] at hcon
  go_enter Try.func42, Try.ntmps42
  go_wp2_with fail
  refine hcon.mono ?_
  rintro e w1 ⟨rfl, hx⟩
  clear hcon
  go_wp2_with fail
  simp [bodyPost]
  exact hx
set_option maxRecDepth 100000 in
set_option maxHeartbeats 2000000 in
theorem catch_panicking (p q : Nat) (x y : Value) (older : List PanicEntry) (w : World) (hp : Blk w p 28 #[y]) (hq : Blk w q 25 #[x]) (hne : p ≠ q) :
    CallsD Try.prog 41 #[.pointer (some ⟨p, 0, none⟩), .pointer (some ⟨q, 0, none⟩)] (.panicking ({ v := .iface 25 (.int .i64 12), recovered := false } :: older)) w fun e u' w' =>
      e = .returned (.tuple #[]) ∧ u' = .panicking ({ v := .iface 25 (.int .i64 12), recovered := true } :: older) ∧ w' = (w.setCell ⟨p, 0, none⟩ (.slice none 0 0)).setCell ⟨q, 0, none⟩ (.int .i64 12) := by
  have hp0 := hp.cell
  have hq0 := hq.cell
  have hpz := hp.frozen
  have hqz := hq.frozen
  have hne' : ¬ q = p := fun e => hne e.symm
  refine callsD_of_wpS Try.func41 rfl fun c₀ cs hu => ?_
  apply wpS_seq
  apply wpS_region
  simp [wpOpsS, go_sem, recoverD, hu, Try.ntmps41, Exit.thenS]
  apply wpS_seq
  apply wpS_region
  simp [wpOpsS, go_sem, Exit.thenS]
  refine wpS_cond (t := true) (by simp [Act.eval, Array.replicate]) ?_
  simp only [if_true]
  apply wpS_region
  simp [wpOpsS, go_sem, hp0, hq0, hpz, hqz, bodyPostS, results, Try.results41]
set_option maxRecDepth 100000 in
set_option maxHeartbeats 2000000 in
theorem catch_idle (p q : Nat) (w : World) :
    CallsD Try.prog 41 #[.pointer (some ⟨p, 0, none⟩), .pointer (some ⟨q, 0, none⟩)] .returning w fun e u' w' => e = .returned (.tuple #[]) ∧ u' = .returning ∧ w' = w := by
  refine callsD_of_wpS Try.func41 rfl fun c₀ cs hu => ?_
  apply wpS_seq
  apply wpS_region
  simp [wpOpsS, go_sem, recoverD, hu, Try.ntmps41, Exit.thenS]
  apply wpS_seq
  apply wpS_region
  simp [wpOpsS, go_sem, Exit.thenS]
  refine wpS_cond (t := false) (by simp [Act.eval, Array.replicate]) ?_
  simp only [Bool.false_eq_true, if_false]
  refine wpS_of_wp (wp_skip ?_)
  cases c₀
  simp_all [bodyPostS, results, Try.results41]
end Go.Proofs.Ytpbepmipfjcjbaa
