/- Layer 14 (load): each function walked over a state of sixteen numbers. -/
import Derived.Test.YtifoeddeofhclaaLib
import Derived.Deep.RegionHeld3
namespace Go.Proofs.Ytifoeddeofhclaa
open Go.RowKit

@[go_sem] theorem egT (op : BinOp) (x y : Operand) (xs ys : Array Value) (w : World) : (eqGuard op 33 x y (.agg xs) (.agg ys)).run Try.prog w = .ok () w :=
  run_eqGuard_agg w op 33 x y xs ys (by kernel_rfl)
@[go_sem ↓] theorem eqlT (a0 a1 a2 a3 a4 b0 b1 b2 b3 b4 : Int) (w : World) : (binOp .eql 33 (.agg #[.int .i64 a0, .int .i64 a1, .int .i64 a2, .int .i64 a3, .int .i64 a4]) (.agg #[.int .i64 b0, .int .i64 b1, .int .i64 b2, .int .i64 b3, .int .i64 b4])).run Try.prog w
    = .ok (.bool (a0 == b0 && (a1 == b1 && (a2 == b2 && (a3 == b3 && (a4 == b4 && true)))))) w := run_eql_scal 33 [_, _, _, _, _] [_, _, _, _, _] w (by kernel_rfl) (by kernel_rfl) (by kernel_rfl)
theorem aload (b o : Nat) (v : Int) (w : World) (h0 : w.cell? ⟨b, o, none⟩ = some (.int .i64 v)) :
    Calls Try.prog 24 #[.pointer (some ⟨b, o, none⟩)] w fun e w' => e = .returned (.int .i64 v) ∧ w = w' := by
  have hl := run_call_load (P := Try.prog) Try.func29 (by kernel_rfl) (by kernel_rfl) (by kernel_rfl) .i64 (by kernel_rfl) h0
  go_enter Try.func24, Try.ntmps24
  go_wp2
  go_ret
  exact ⟨rfl, rfl⟩
theorem add64 (x y : Int) (w : World) (h : -9223372036854775808 ≤ x + y ∧ x + y ≤ 9223372036854775807) : (Op.intArith .add .i64 x y).run Try.prog w = .ok (.int .i64 (x+y)) w := by
  have : IntKind.i64.wrap (x + y) = x + y := IntWalk.i64_in _ h
  simp [Op.intArith, this]
theorem aadd (b o : Nat) (x y : Int) (w : World) (h0 : w.cell? ⟨b, o, none⟩ = some (.int .i64 x))  (hz : w.frozen? ⟨b, o, none⟩ = false) (h : -9223372036854775808 ≤ x + y ∧ x + y ≤ 9223372036854775807) :
    Calls Try.prog 22 #[.pointer (some ⟨b, o, none⟩), .int .i64 y] w fun e w' => e = .returned (.int .i64 (x+y)) ∧ w.setCell ⟨b, o, none⟩ (.int .i64 (x+y)) = w' := by
  have hl := run_call_add (P := Try.prog) Try.func27 (by kernel_rfl) (by kernel_rfl) (by kernel_rfl) .i64 (by kernel_rfl) (y := y) (s := x + y) h0 hz (add64 _ _ _ h)
  go_enter Try.func22, Try.ntmps22
  go_wp2
  go_ret
  exact ⟨rfl, rfl⟩
theorem astore (b o : Nat) (x : Value) (y : Int) (w : World) (h0 : w.cell? ⟨b, o, none⟩ = some x)  (hz : w.frozen? ⟨b, o, none⟩ = false) :
    Calls Try.prog 23 #[.pointer (some ⟨b, o, none⟩), .int .i64 y] w fun e w' => e = .returned (.tuple #[]) ∧ w.setCell ⟨b, o, none⟩ (.int .i64 y) = w' := by
  have hl := run_call_store (P := Try.prog) Try.func28 (by kernel_rfl) (by kernel_rfl) (by kernel_rfl) (by kernel_rfl) (k := .i64) (y := y) h0 hz
  go_enter Try.func23, Try.ntmps23
  go_wp2
  go_end0
  exact ⟨rfl, rfl⟩
theorem within_yes (n : Int) (w : World) (h0 : 0 ≤ n) (h1 : n ≤ 1024) :
    Calls Try.prog 21 #[.int .i64 n] w fun e w' => e = .returned (.bool true) ∧ w = w' := by
  go_enter Try.func21, Try.ntmps21
  go_wp2
  go_ret
  exact ⟨rfl, rfl⟩
theorem within_no (n : Int) (w : World) (h0 : n < 0 ∨ 1024 < n) :
    Calls Try.prog 21 #[.int .i64 n] w fun e w' => e = .returned (.bool false) ∧ w = w' := by
  rcases h0 with h0 | h0
  · go_enter Try.func21, Try.ntmps21
    go_wp2
    go_ret
    exact ⟨rfl, rfl⟩
  · have : ¬ n < 0 := by omega
    have h : decide (n ≤ 1024) = false := by simp; omega
    go_enter Try.func21, Try.ntmps21
    go_wp2
    go_ret
    exact ⟨rfl, rfl⟩

/-- A load's state. -/
structure LS where
  o0 : Int
  o1 : Int
  o2 : Int
  o3 : Int
  t0 : Int
  t1 : Int
  t2 : Int
  t3 : Int
  most : Int
  notes : Int
  windows : Int
  l0 : Int
  l1 : Int
  l2 : Int
  l3 : Int
  l4 : Int
def LS.cells (S : LS) : Array Value := #[.int .i64 S.o0, .int .i64 S.o1, .int .i64 S.o2, .int .i64 S.o3, .int .i64 S.t0, .int .i64 S.t1, .int .i64 S.t2, .int .i64 S.t3,
  .int .i64 S.most, .int .i64 S.notes, .int .i64 S.windows, .int .i64 S.l0, .int .i64 S.l1, .int .i64 S.l2, .int .i64 S.l3, .int .i64 S.l4]
def LS.zero : LS := ⟨0, 0, 0, 0, 0, 0, 0, 0, 0, 0, 0, 0, 0, 0, 0, 0⟩
/-- The load at block b is in the state S. -/
def LoadAt (w : World) (b : Nat) (S : LS) : Prop := Blk w b 54 S.cells

theorem new_any (w : World) : Calls Try.prog 8 #[] w fun e w' => e = .returned (.pointer (some ⟨w.heap.size, 0, none⟩)) ∧ LoadAt w' w.heap.size .zero ∧ Chg (fun _ => False) w w' ∧ w'.heap.size = w.heap.size + 1 := by
  go_enter Try.func8, Try.ntmps8
  go_wp2
  go_ret
  exact ⟨rfl, Blk.new _ _ _, (Chg.refl _ _).alloc _, by simp⟩

theorem notes_any (b : Nat) (S : LS) (w : World) (h : LoadAt w b S) : Calls Try.prog 18 #[.pointer (some ⟨b, 0, none⟩)] w fun e w' => e = .returned (.int .i64 S.notes) ∧ w = w' := by
  have hc := h.cell
  unfold LS.cells at hc
  go_enter Try.func18, Try.ntmps18
  go_wp2_with (go_at_call 24; refine (aload _ _ _ _ (hc 9)).mono ?_; rintro e w' ⟨rfl, rfl⟩)
  go_ret
  exact ⟨rfl, rfl⟩
theorem windows_any (b : Nat) (S : LS) (w : World) (h : LoadAt w b S) : Calls Try.prog 19 #[.pointer (some ⟨b, 0, none⟩)] w fun e w' => e = .returned (.int .i64 S.windows) ∧ w = w' := by
  have hc := h.cell
  unfold LS.cells at hc
  go_enter Try.func19, Try.ntmps19
  go_wp2_with (go_at_call 24; refine (aload _ _ _ _ (hc 10)).mono ?_; rintro e w' ⟨rfl, rfl⟩)
  go_ret
  exact ⟨rfl, rfl⟩
def LS.total (S : LS) (what : Int) : Int := if what = 0 then S.t0 else if what = 1 then S.t1 else if what = 2 then S.t2 else if what = 3 then S.t3 else 0
theorem totalOf_any (b : Nat) (S : LS) (what : Int) (w : World) (h : LoadAt w b S) : Calls Try.prog 20 #[.pointer (some ⟨b, 0, none⟩), .int .i64 what] w fun e w' => e = .returned (.int .i64 (S.total what)) ∧ w = w' := by
  have hc := h.cell
  unfold LS.cells at hc
  have H : what < 0 ∨ (¬ what < 0 ∧ 3 < what) ∨ what = 0 ∨ what = 1 ∨ what = 2 ∨ what = 3 := by omega
  rcases H with H | ⟨H0, H⟩ | rfl | rfl | rfl | rfl
  · have HT := Lib.hid (show S.total what = 0 from by unfold LS.total; split <;> (try split) <;> (try split) <;> (try split) <;> omega)
    go_enter Try.func20, Try.ntmps20
    go_wp2
    go_ret
    exact ⟨ret_int HT.out.symm, rfl⟩
  · have HT := Lib.hid (show S.total what = 0 from by unfold LS.total; split <;> (try split) <;> (try split) <;> (try split) <;> omega)
    go_enter Try.func20, Try.ntmps20
    go_wp2
    go_ret
    exact ⟨ret_int HT.out.symm, rfl⟩
  · go_enter Try.func20, Try.ntmps20
    go_wp2_with (go_at_call 24; refine (aload _ _ _ _ (hc 4)).mono ?_; rintro e w' ⟨rfl, rfl⟩)
    go_ret
    exact ⟨rfl, rfl⟩
  · go_enter Try.func20, Try.ntmps20
    go_wp2_with (go_at_call 24; refine (aload _ _ _ _ (hc 5)).mono ?_; rintro e w' ⟨rfl, rfl⟩)
    go_ret
    exact ⟨rfl, rfl⟩
  · go_enter Try.func20, Try.ntmps20
    go_wp2_with (go_at_call 24; refine (aload _ _ _ _ (hc 6)).mono ?_; rintro e w' ⟨rfl, rfl⟩)
    go_ret
    exact ⟨rfl, rfl⟩
  · go_enter Try.func20, Try.ntmps20
    go_wp2_with (go_at_call 24; refine (aload _ _ _ _ (hc 7)).mono ?_; rintro e w' ⟨rfl, rfl⟩)
    go_ret
    exact ⟨rfl, rfl⟩

theorem opn1 (b c : Nat) (k : Int) (v : Int) (w : World) (hk0 : 0 ≤ k) (hk1 : k < 4) (hc : w.cell? ⟨c, 0, none⟩ = some (.pointer (some ⟨b, 0, none⟩))) (h0 : w.cell? ⟨b, k.toNat, none⟩ = some (.int .i64 v)) :
    Calls Try.prog 26 #[.int .i64 k, .pointer (some ⟨c, 0, none⟩)] w fun e w' => e = .returned (.int .i64 v) ∧ w = w' := by
  go_enter Try.func26, Try.ntmps26
  go_wp2_with (go_at_call 24; refine (aload _ _ _ _ h0).mono ?_; rintro e w' ⟨rfl, rfl⟩)
  go_ret
  exact ⟨rfl, rfl⟩
theorem open_any (b : Nat) (S : LS) (w : World) (h : LoadAt w b S) :
    Calls Try.prog 16 #[.pointer (some ⟨b, 0, none⟩)] w fun e w' => e = .returned (.agg #[.int .i64 S.o0, .int .i64 S.o1, .int .i64 S.o2, .int .i64 S.o3, .int .i64 S.most]) ∧ Below w.heap.size w w' := by
  have hc := h.cell
  unfold LS.cells at hc
  have hb : b < w.heap.size := h.lt
  go_enter Try.func16, Try.ntmps16
  go_wp2_with fail
  refine still_tail 13 (by kernel_rfl) (by kernel_rfl) ?_
  simp only [List.take_succ_cons, List.take_zero, List.drop_succ_cons, List.drop_zero]
  still_step
  still_call (flip (opn1 b _ _ S.o0 _ (by omega) (by omega) (by go_simp) (by go_simp)))
  still_step
  still_call (flip (opn1 b _ _ S.o1 _ (by omega) (by omega) (by go_simp) (by go_simp)))
  still_step
  still_call (flip (opn1 b _ _ S.o2 _ (by omega) (by omega) (by go_simp) (by go_simp)))
  still_step
  still_call (flip (opn1 b _ _ S.o3 _ (by omega) (by omega) (by go_simp) (by go_simp)))
  still_step; still_step; still_step
  still_call (flip (aload b _ S.most _ (by go_simp)))
  repeat still_step
  refine wpStill_nil ?_
  go_wp2
  refine bodyPost_ret (v := .agg #[.int .i64 S.o0, .int .i64 S.o1, .int .i64 S.o2, .int .i64 S.o3, .int .i64 S.most]) (by simp [results, Try.results16, go_sem]) rfl ⟨rfl, ?_⟩
  exact ((((Below.refl _ _).alloc (Nat.le_refl _) _).alloc (by simp) _).drew)
theorem last_any (b : Nat) (S : LS) (w : World) (h : LoadAt w b S) :
    Calls Try.prog 13 #[.pointer (some ⟨b, 0, none⟩)] w fun e w' => e = .returned (.tuple #[.agg #[.int .i64 S.l0, .int .i64 S.l1, .int .i64 S.l2, .int .i64 S.l3, .int .i64 S.l4], .bool (decide (0 < S.windows))]) ∧ Below w.heap.size w w' := by
  have hc := h.cell
  unfold LS.cells at hc
  have hb : b < w.heap.size := h.lt
  go_enter Try.func13, Try.ntmps13
  go_wp2_with fail
  go_region_held3 (fun w' => w'.cell? ⟨b, 10, none⟩ = some (.int .i64 S.windows) ∧ w'.cell? ⟨b, 11, none⟩ = some (.int .i64 S.l0) ∧ w'.cell? ⟨b, 12, none⟩ = some (.int .i64 S.l1) ∧ w'.cell? ⟨b, 13, none⟩ = some (.int .i64 S.l2) ∧ w'.cell? ⟨b, 14, none⟩ = some (.int .i64 S.l3) ∧ w'.cell? ⟨b, 15, none⟩ = some (.int .i64 S.l4)) (go_keep) (first | (go_at_call 24; refine (aload b _ S.windows _ (by go_simp)).mono ?_; rintro e w' ⟨rfl, rfl⟩))
  go_wp2
  refine bodyPost_ret (v := .tuple #[.agg #[.int .i64 S.l0, .int .i64 S.l1, .int .i64 S.l2, .int .i64 S.l3, .int .i64 S.l4], .bool (decide (0 < S.windows))]) (by simp [results, Try.results13, go_sem]) rfl ⟨rfl, ?_⟩
  exact (((Below.refl _ _).alloc (Nat.le_refl _) _).drew)
end Go.Proofs.Ytifoeddeofhclaa
