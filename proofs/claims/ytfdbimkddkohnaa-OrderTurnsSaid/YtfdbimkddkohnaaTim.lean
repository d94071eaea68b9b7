/- Timers, their order, and the functions that compare two of them. -/
import Derived.Test.YtfdbimkddkohnaaLib
namespace Go.Proofs.Ytfdbimkddkohnaa
open Go.RowKit
structure Timer where
  at_ : Int
  seq : Int
  place : Int
theorem Timer.ext' {x y : Timer} (h1 : x.at_ = y.at_) (h2 : x.seq = y.seq) (h3 : x.place = y.place) : x = y := by
  cases x
  cases y
  simp only at h1 h2 h3
  subst h1 h2 h3
  rfl
theorem Timer.eq_iff (x y : Timer) : x = y ↔ x.at_ = y.at_ ∧ x.seq = y.seq ∧ x.place = y.place := ⟨fun h => by subst h; exact ⟨rfl, rfl, rfl⟩, fun h => Timer.ext' h.1 h.2.1 h.2.2⟩
instance : DecidableEq Timer := fun x y => decidable_of_iff _ (Timer.eq_iff x y).symm
def Timer.cells (x : Timer) : List Value := [.int .u64 x.at_, .int .u64 x.seq, .int .i64 x.place]
def Timer.val (x : Timer) : Value := .agg #[.int .u64 x.at_, .int .u64 x.seq, .int .i64 x.place]
def Timer.zero : Timer := ⟨0, 0, 0⟩
/-- Is one before another one? -/
def Timer.lt (x y : Timer) : Bool := if x.at_ = y.at_ then (if x.seq = y.seq then decide (x.place < y.place) else decide (x.seq < y.seq)) else decide (x.at_ < y.at_)
theorem Timer.lt_iff (x y : Timer) : x.lt y = true ↔ x.at_ < y.at_ ∨ (x.at_ = y.at_ ∧ (x.seq < y.seq ∨ (x.seq = y.seq ∧ x.place < y.place))) := by
  unfold Timer.lt
  split
  · rename_i h
    split
    · rename_i h2
      simp [h, h2]
    · rename_i h2
      simp [h, h2]
  · rename_i h
    simp [h]
theorem Timer.lt_irrefl (x : Timer) : x.lt x = false := by simp [Timer.lt]
theorem Timer.lt_trans {x y z : Timer} (h : x.lt y = true) (k : y.lt z = true) : x.lt z = true := by
  rw [Timer.lt_iff] at *
  omega
theorem Timer.lt_total {x y : Timer} (h : x.lt y = false) (k : y.lt x = false) : x = y := by
  have h' : ¬ x.lt y = true := by rw [h]; simp
  have k' : ¬ y.lt x = true := by rw [k]; simp
  rw [Timer.lt_iff] at h' k'
  apply Timer.ext' <;> omega
def cmpI (a b : Int) : Int := if a < b then -1 else if b < a then 1 else 0
def cmpT (x y : Timer) : Int := if cmpI x.at_ y.at_ ≠ 0 then cmpI x.at_ y.at_ else if cmpI x.seq y.seq ≠ 0 then cmpI x.seq y.seq else cmpI x.place y.place
theorem cmpT_lt (x y : Timer) : decide (cmpT x y < 0) = x.lt y := by
  rw [Bool.eq_iff_iff, decide_eq_true_iff, Timer.lt_iff]
  unfold cmpT cmpI
  split <;> split <;> (try split) <;> (try split) <;> (try split) <;> omega
theorem cmpI_in (a b : Int) : -1 ≤ cmpI a b ∧ cmpI a b ≤ 1 := by
  unfold cmpI
  split <;> (try split) <;> omega
theorem nan_u (a : Int) (w : World) : Calls Try.prog 85 #[.int .u64 a] w fun e w' => e = .returned (.bool false) ∧ w = w' := by
  go_enter Try.func85, Try.ntmps85
  go_wp2
  go_ret
  exact ⟨rfl, rfl⟩
theorem nan_i (a : Int) (w : World) : Calls Try.prog 86 #[.int .i64 a] w fun e w' => e = .returned (.bool false) ∧ w = w' := by
  go_enter Try.func86, Try.ntmps86
  go_wp2
  go_ret
  exact ⟨rfl, rfl⟩
theorem cmp_u (a b : Int) (w : World) : Calls Try.prog 70 #[.int .u64 a, .int .u64 b] w fun e w' => e = .returned (.int .i64 (cmpI a b)) ∧ w = w' := by
  by_cases h1 : a < b
  · have HW := Lib.hid (show cmpI a b = -1 by simp [cmpI, h1])
    go_enter Try.func70, Try.ntmps70
    go_wp2_with (go_at_call 85; refine (nan_u _ _).mono ?_; rintro e w' ⟨rfl, rfl⟩)
    go_ret
    exact ⟨ret_int HW.out.symm, rfl⟩
  · by_cases h2 : b < a
    · have HW := Lib.hid (show cmpI a b = 1 by simp [cmpI, h1, h2])
      go_enter Try.func70, Try.ntmps70
      go_wp2_with (go_at_call 85; refine (nan_u _ _).mono ?_; rintro e w' ⟨rfl, rfl⟩)
      go_ret
      exact ⟨ret_int HW.out.symm, rfl⟩
    · have HW := Lib.hid (show cmpI a b = 0 by simp [cmpI, h1, h2])
      go_enter Try.func70, Try.ntmps70
      go_wp2_with (go_at_call 85; refine (nan_u _ _).mono ?_; rintro e w' ⟨rfl, rfl⟩)
      go_ret
      exact ⟨ret_int HW.out.symm, rfl⟩
theorem cmp_i (a b : Int) (w : World) : Calls Try.prog 71 #[.int .i64 a, .int .i64 b] w fun e w' => e = .returned (.int .i64 (cmpI a b)) ∧ w = w' := by
  by_cases h1 : a < b
  · have HW := Lib.hid (show cmpI a b = -1 by simp [cmpI, h1])
    go_enter Try.func71, Try.ntmps71
    go_wp2_with (go_at_call 86; refine (nan_i _ _).mono ?_; rintro e w' ⟨rfl, rfl⟩)
    go_ret
    exact ⟨ret_int HW.out.symm, rfl⟩
  · by_cases h2 : b < a
    · have HW := Lib.hid (show cmpI a b = 1 by simp [cmpI, h1, h2])
      go_enter Try.func71, Try.ntmps71
      go_wp2_with (go_at_call 86; refine (nan_i _ _).mono ?_; rintro e w' ⟨rfl, rfl⟩)
      go_ret
      exact ⟨ret_int HW.out.symm, rfl⟩
    · have HW := Lib.hid (show cmpI a b = 0 by simp [cmpI, h1, h2])
      go_enter Try.func71, Try.ntmps71
      go_wp2_with (go_at_call 86; refine (nan_i _ _).mono ?_; rintro e w' ⟨rfl, rfl⟩)
      go_ret
      exact ⟨ret_int HW.out.symm, rfl⟩
def orI (l : List Int) : Int := (l.find? fun x => x != 0).getD 0
set_option maxRecDepth 100000 in
set_option maxHeartbeats 2000000 in
theorem or_three (g : Nat) (x y z : Int) (w : World) (hc : ∀ i, w.cell? ⟨g, i, none⟩ = (#[.int .i64 x, .int .i64 y, .int .i64 z] : Array Value)[i]?) :
    Calls Try.prog 69 #[.slice (some ⟨g, 0, none⟩) 3 3] w fun e w' => e = .returned (.int .i64 (if x ≠ 0 then x else if y ≠ 0 then y else z)) ∧ w = w' := by
  go_enter Try.func69, Try.ntmps69
  go_wp2
  go_loop [8] (fun i => ∃ k : Nat, k ≤ 3 ∧ i = .int .i64 k ∧ (0 < k → x = 0) ∧ (1 < k → y = 0) ∧ (2 < k → z = 0)) (fun i => 3 - (intOf i).toNat)
  case atStart => exact ⟨0, by omega, rfl, by omega, by omega, by omega⟩
  case round =>
    obtain ⟨k, hk, rfl, h0, h1, h2⟩ := hrel
    have H : k = 0 ∨ k = 1 ∨ k = 2 ∨ k = 3 := by omega
    rcases H with rfl | rfl | rfl | rfl
    · clear h0 h1 h2
      by_cases hx : x = 0
      · have HX := Lib.hid hx
        have hx' : (x != 0) = false := by simp [hx]
        clear hx
        go_wp2
        go_round
        case rel => exact ⟨1, by omega, rfl, fun _ => HX.out, by omega, by omega⟩
        case measure => simp [intOf]
      · have HX := Lib.hid hx
        have hx' : (x != 0) = true := by simp [hx]
        clear hx
        go_wp2
        go_ret
        exact ⟨ret_int (by have a := HX.out; simp_all), rfl⟩
    · have HX := Lib.hid (h0 (by omega))
      clear h0 h1 h2
      by_cases hx : y = 0
      · have HY := Lib.hid hx
        have hx' : (y != 0) = false := by simp [hx]
        clear hx
        go_wp2
        go_round
        case rel => exact ⟨2, by omega, rfl, fun _ => HX.out, fun _ => HY.out, by omega⟩
        case measure => simp [intOf]
      · have HY := Lib.hid hx
        have hx' : (y != 0) = true := by simp [hx]
        clear hx
        go_wp2
        go_ret
        exact ⟨ret_int (by have a := HX.out; have b := HY.out; simp_all), rfl⟩
    · have HX := Lib.hid (h0 (by omega))
      have HY := Lib.hid (h1 (by omega))
      clear h0 h1 h2
      by_cases hx : z = 0
      · have HZ := Lib.hid hx
        have hx' : (z != 0) = false := by simp [hx]
        clear hx
        go_wp2
        go_round
        case rel => exact ⟨3, by omega, rfl, fun _ => HX.out, fun _ => HY.out, fun _ => HZ.out⟩
        case measure => simp [intOf]
      · have hx' : (z != 0) = true := by simp [hx]
        clear hx
        go_wp2
        go_ret
        exact ⟨ret_int (by have a := HX.out; have b := HY.out; simp_all), rfl⟩
    · have HX := Lib.hid (h0 (by omega))
      have HY := Lib.hid (h1 (by omega))
      have HZ := Lib.hid (h2 (by omega))
      clear h0 h1 h2
      go_wp2
      go_ret
      exact ⟨ret_int (by have a := HX.out; have b := HY.out; have c := HZ.out; simp_all), rfl⟩
set_option maxRecDepth 100000 in
set_option maxHeartbeats 2000000 in
theorem cmp_any (x y : Timer) (w : World) : Calls Try.prog 56 #[x.val, y.val] w fun e w' => e = .returned (.int .i64 (cmpT x y)) ∧ Below w.heap.size w w' := by
  have HW := Lib.hid (show cmpT x y = if cmpI x.at_ y.at_ ≠ 0 then cmpI x.at_ y.at_ else if cmpI x.seq y.seq ≠ 0 then cmpI x.seq y.seq else cmpI x.place y.place from rfl)
  generalize cmpT x y = c at *
  unfold Timer.val
  go_enter Try.func56, Try.ntmps56
  go_wp2
  refine still_tail 15 (by kernel_rfl) (by kernel_rfl) ?_
  simp only [List.take_succ_cons, List.take_zero, List.drop_succ_cons, List.drop_zero]
  iterate 4 still_step
  still_call (flip (cmp_u x.at_ y.at_ _))
  iterate 4 still_step
  still_call (flip (cmp_u x.seq y.seq _))
  iterate 4 still_step
  still_call (flip (cmp_i x.place y.place _))
  refine wpStill_nil ?_
  go_wp2_with fail
  refine (or_three _ (cmpI x.at_ y.at_) (cmpI x.seq y.seq) (cmpI x.place y.place) _ (fun i => by simpa using (Blk.new ((w.alloc (.cells #[.int .u64 x.at_, .int .u64 x.seq, .int .i64 x.place] 25)).alloc (.cells #[.int .u64 y.at_, .int .u64 y.seq, .int .i64 y.place] 25)) 3 #[.int .i64 (cmpI x.at_ y.at_), .int .i64 (cmpI x.seq y.seq), .int .i64 (cmpI x.place y.place)]).drew.cell i)).mono ?_
  rintro e w' ⟨rfl, rfl⟩
  rw [← HW.out]
  go_wp2_with fail
  go_ret
  exact ⟨rfl, (((((Below.refl _ _).alloc (Nat.le_refl _) _).alloc (by simp) _).alloc (by simp; omega) _)).drew⟩
set_option maxRecDepth 100000 in
set_option maxHeartbeats 2000000 in
theorem before_any (x y : Timer) (w : World) : Calls Try.prog 60 #[x.val, y.val] w fun e w' => e = .returned (.bool (x.lt y)) ∧ Below w.heap.size w w' := by
  have hb : Below w.heap.size w ((w.alloc (.cells #[.int .u64 x.at_, .int .u64 x.seq, .int .i64 x.place] 25)).alloc (.cells #[.int .u64 y.at_, .int .u64 y.seq, .int .i64 y.place] 25)) := ((Below.refl _ _).alloc (Nat.le_refl _) _).alloc (by simp) _
  have HB := Lib.hid hb
  clear hb
  unfold Timer.val
  by_cases h1 : x.at_ = y.at_
  · by_cases h2 : x.seq = y.seq
    · have HW := Lib.hid (show x.lt y = decide (x.place < y.place) by simp [Timer.lt, h1, h2])
      have h1' : (x.at_ != y.at_) = false := by simp [h1]
      have h2' : (x.seq != y.seq) = false := by simp [h2]
      clear h1 h2
      go_enter Try.func60, Try.ntmps60
      go_wp2
      go_ret
      exact ⟨ret_bool HW.out.symm, HB.out⟩
    · have HW := Lib.hid (show x.lt y = decide (x.seq < y.seq) by simp [Timer.lt, h1, h2])
      have h1' : (x.at_ != y.at_) = false := by simp [h1]
      have h2' : (x.seq != y.seq) = true := by simp [h2]
      clear h1 h2
      go_enter Try.func60, Try.ntmps60
      go_wp2
      go_ret
      exact ⟨ret_bool HW.out.symm, HB.out⟩
  · have HW := Lib.hid (show x.lt y = decide (x.at_ < y.at_) by simp [Timer.lt, h1])
    have h1' : (x.at_ != y.at_) = true := by simp [h1]
    clear h1
    go_enter Try.func60, Try.ntmps60
    go_wp2
    go_ret
    exact ⟨ret_bool HW.out.symm, HB.out⟩
end Go.Proofs.Ytfdbimkddkohnaa
