/- Order: tick.Compare, and the exact world that it leaves: what the library's sort asks of it. -/
import Derived.Test.YtfdbimkddkohnaaSrt
import Derived.Shelf.SlSortCmp.InsertionK
namespace Go.Proofs.Ytfdbimkddkohnaa
open Go.RowKit
set_option maxRecDepth 100000 in
set_option maxHeartbeats 2000000 in
theorem cmp_exact (x y : Timer) (w : World) : Calls Try.prog 56 #[x.val, y.val] w fun e w' => e = .returned (.int .i64 (cmpT x y)) ∧ ∃ q os', w' = Sort.grow (w.drewN q) os' := by
  have HW := Lib.hid (show cmpT x y = if cmpI x.at_ y.at_ ≠ 0 then cmpI x.at_ y.at_ else if cmpI x.seq y.seq ≠ 0 then cmpI x.seq y.seq else cmpI x.place y.place from rfl)
  generalize cmpT x y = c at *
  unfold Timer.val
  go_enter Try.func56, Try.ntmps56
  go_wp2
  refine still_tail 15 (by kernel_rfl) (by kernel_rfl) ?_
  simp only [List.take_succ_cons, List.take_zero, List.drop_succ_cons, List.drop_zero]
  iterate 4 still_step
  still_call (flip (cmp_u x.at_ y.at_ _))
  iterate 4 still_step
  still_call (flip (cmp_u x.seq y.seq _))
  iterate 4 still_step
  still_call (flip (cmp_i x.place y.place _))
  refine wpStill_nil ?_
  go_wp2_with fail
  refine (or_three _ (cmpI x.at_ y.at_) (cmpI x.seq y.seq) (cmpI x.place y.place) _ (fun i => by simpa using (Blk.new ((w.alloc (.cells #[.int .u64 x.at_, .int .u64 x.seq, .int .i64 x.place] 25)).alloc (.cells #[.int .u64 y.at_, .int .u64 y.seq, .int .i64 y.place] 25)) 3 #[.int .i64 (cmpI x.at_ y.at_), .int .i64 (cmpI x.seq y.seq), .int .i64 (cmpI x.place y.place)]).drew.cell i)).mono ?_
  rintro e w' ⟨rfl, rfl⟩
  rw [← HW.out]
  go_wp2_with fail
  go_ret
  exact ⟨rfl, 1, _, by rw [Sort.alloc_eq_grow, Sort.alloc_eq_grow, Sort.alloc_eq_grow, Sort.grow_grow, Sort.grow_grow]; rfl⟩
instance : Inhabited Timer := ⟨Timer.zero⟩
theorem cmp_lays (blk off size : Nat) (w : World) : CmpLays Try.prog 56 #[] Timer.cells 3 cmpT blk off size w :=
  fun _ _ _ _ x y => cmp_exact x y _
theorem ltOf_cmpT (x y : Timer) : ltOf cmpT x y = x.lt y := cmpT_lt x y
theorem cmp_swo : Sort.SWO (ltOf cmpT) where
  irrefl x := by rw [ltOf_cmpT, Timer.lt_irrefl]
  trans x y z h1 h2 := by rw [ltOf_cmpT] at *; exact Timer.lt_trans h1 h2
  ntrans x y z h1 h2 := by rw [ltOf_cmpT] at *; exact Timer.le_trans h2 h1
end Go.Proofs.Ytfdbimkddkohnaa
