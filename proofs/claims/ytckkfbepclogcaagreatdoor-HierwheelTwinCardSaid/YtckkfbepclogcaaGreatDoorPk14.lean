/- Part 14: the texts Hm HIns HCan Hq, laid end to end by a program. -/
import Derived.BigRegion
import Derived.Test.YtckkfbepclogcaaGreatDoorPk10
import Derived.Test.YtckkfbepclogcaaGreatDoorPk12
import Derived.Test.YtckkfbepclogcaaGreatDoorPk6
import Derived.Test.YtckkfbepclogcaaGreatDoorPk13
namespace Go.Proofs.YtckkfbepclogcaaGreatDoor
open Go.RowKit
/-- The wheel at block q: its timers lie at tb, its chains at c and nb; s is its state, b its busy slots, lk how many slots were looked into. -/
structure HM (w : World) (q tb c nb P S : Nat) (s : HSt) (b : Bits) (lk : Int) : Prop where
  blk : Blk w q 72 #[.slice (some ⟨tb, 0, none⟩) P P, .pointer (some ⟨c, 0, none⟩), .int .i64 (s.pend P).length, .int .i64 S, .int .i64 lk, .int .u64 b.w0, .int .u64 b.w1, .int .u64 b.w2, .int .u64 b.w3, .int .u64 s.base]
  tms : Blk w tb 37 (tmC P s.tm)
  ch : CM w c nb P (S + 1) s.inn s.L
  busy : Busy S b (busyAt s)
  ok : HOk P (S + 1) (slotOf S) s
section
variable {w w' : World} {q tb c nb P S : Nat} {s : HSt} {b : Bits} {lk : Int}
theorem HM.below (h : HM w q tb c nb P S s b lk) (k : Below w.heap.size w w') : HM w' q tb c nb P S s b lk := ⟨h.blk.below k h.blk.lt, h.tms.below k h.tms.lt, h.ch.below k, h.busy, h.ok⟩
theorem HM.drew (h : HM w q tb c nb P S s b lk) : HM w.drew q tb c nb P S s b lk := ⟨h.blk.drew, h.tms.drew, h.ch.drew, h.busy, h.ok⟩
theorem HM.qtb (h : HM w q tb c nb P S s b lk) : q ≠ tb := Blk.ne h.blk h.tms (by decide)
theorem HM.qc (h : HM w q tb c nb P S s b lk) : q ≠ c := by
  obtain ⟨nx, pv, h1, _⟩ := h.ch.st
  exact Blk.ne h.blk h1.blk (by decide)
theorem HM.qnb (h : HM w q tb c nb P S s b lk) : q ≠ nb := by
  obtain ⟨nx, pv, h1, _⟩ := h.ch.st
  exact Blk.ne h.blk h1.nod (by decide)
theorem HM.tc (h : HM w q tb c nb P S s b lk) : tb ≠ c := by
  obtain ⟨nx, pv, h1, _⟩ := h.ch.st
  exact Blk.ne h.tms h1.blk (by decide)
theorem HM.tnb (h : HM w q tb c nb P S s b lk) : tb ≠ nb := by
  obtain ⟨nx, pv, h1, _⟩ := h.ch.st
  exact Blk.ne h.tms h1.nod (by decide)
theorem HM.cnb (h : HM w q tb c nb P S s b lk) : c ≠ nb := by
  obtain ⟨nx, pv, h1, _⟩ := h.ch.st
  exact h1.ne
theorem HM.lts (h : HM w q tb c nb P S s b lk) : q < w.heap.size ∧ tb < w.heap.size ∧ c < w.heap.size ∧ nb < w.heap.size := ⟨h.blk.lt, h.tms.lt, h.ch.lt⟩
end
/-- The sizes that there are. -/
structure HSz (P S : Nat) : Prop where
  hP : P ≤ 1024
  hS : 0 < S
  hS2 : S ≤ 256
def atW (P : Nat) (s : HSt) (p : Int) : Option Timer := atP P s.on s.tm p
theorem whichO_on {P : Nat} {s : HSt} {p : Int} : (whichO P s.inn p).isSome = (cin P p && s.on p.toNat) := by
  unfold whichO HSt.on
  cases h : cin P p
  · simp
  · cases s.inn p.toNat <;> simp
theorem atW_none {P : Nat} {s : HSt} {p : Int} (h : whichO P s.inn p = none) : atW P s p = none := by
  have := whichO_on (P := P) (s := s) (p := p)
  rw [h] at this
  unfold atW atP
  rw [if_neg]
  rintro ⟨h0, h1, h2⟩
  have hc : cin P p = true := by simp [cin, h0, h1]
  rw [hc, h2] at this
  cases this
theorem atW_some {P : Nat} {s : HSt} {p x : Int} (h : whichO P s.inn p = some x) : ∃ i j : Nat, p = i ∧ x = j ∧ i < P ∧ s.inn i = some j ∧ atW P s p = some (s.tm i) := by
  unfold whichO at h
  cases hc : cin P p with
  | false => rw [hc] at h; simp at h
  | true =>
    rw [hc, if_neg (by simp)] at h
    obtain ⟨i, rfl, hi⟩ := cin_nat hc
    rw [Int.toNat_natCast] at h
    cases hj : s.inn i with
    | none => rw [hj] at h; cases h
    | some j =>
      rw [hj] at h
      have h : some (j : Int) = some x := h
      injection h with h
      refine ⟨i, j, rfl, h.symm, hi, hj, ?_⟩
      unfold atW
      rw [atP_on (by omega) (by rw [Int.toNat_natCast]; exact HSt.on_some hj), Int.toNat_natCast]
theorem hlen_any (q tb c nb P S : Nat) (s : HSt) (b : Bits) (lk : Int) (w : World) (h : HM w q tb c nb P S s b lk) :
    Calls Tryz.prog 29 #[.pointer (some ⟨q, 0, none⟩)] w fun e w' => e = .returned (.int .i64 (s.pend P).length) ∧ w = w' := by
  have hc := h.blk.cell
  go_enter Tryz.func29, Tryz.ntmps29
  go_wp2
  go_ret
  exact ⟨rfl, rfl⟩
theorem hslot_any (q tb c nb P S : Nat) (s : HSt) (b : Bits) (lk : Int) (a : Int) (w : World) (h : HM w q tb c nb P S s b lk) (z : HSz P S) (h0 : 0 ≤ a) (h1 : a ≤ 18446744073709551615) :
    Calls Tryz.prog 44 #[.pointer (some ⟨q, 0, none⟩), .int .u64 a] w fun e w' => e = .returned (.int .i64 ((a % S).toNat : Nat)) ∧ w = w' := by
  have hc := h.blk.cell
  have hS := z.hS
  have hS2 := z.hS2
  have hm0 := Int.emod_nonneg a (show (S : Int) ≠ 0 by omega)
  have hm1 := Int.emod_lt_of_pos a (show (0 : Int) < S by omega)
  have HW := Lib.hid (show (((a % S).toNat : Nat) : Int) = a % S by omega)
  have e1 : IntKind.u64.wrap (S : Int) = S := IntWalk.u64_in _ (by omega)
  have e2 : IntKind.i64.wrap (a % S) = a % S := IntWalk.i64_in _ (by omega)
  rw [HW.out]
  go_enter Tryz.func44, Tryz.ntmps44
  go_wp2
  go_ret
  exact ⟨rfl, rfl⟩
set_option maxRecDepth 100000 in
set_option maxHeartbeats 2000000 in
theorem hget_any (q tb c nb P S : Nat) (s : HSt) (b : Bits) (lk : Int) (p : Int) (w : World) (h : HM w q tb c nb P S s b lk) (z : HSz P S) :
    Calls Tryz.prog 77 #[.pointer (some ⟨q, 0, none⟩), .int .i64 p] w fun e w' => e = .returned (pairT (atW P s p)) ∧ Below w.heap.size w w' := by
  have hP := z.hP
  have hS2 := z.hS2
  have hb0 : Below w.heap.size w (w.alloc (.cells #[.int .u64 0, .int .u64 0, .int .i64 0] 37)) := (Below.refl _ _).alloc (Nat.le_refl _) _
  have HB := Lib.hid (show ∀ cs, Below w.heap.size w (w.alloc (.cells cs 37)) from fun cs => (Below.refl _ _).alloc (Nat.le_refl _) _)
  have h1 := h.below hb0
  have q0 : Blk (w.alloc (.cells #[.int .u64 0, .int .u64 0, .int .i64 0] 37)) w.heap.size 37 #[.int .u64 0, .int .u64 0, .int .i64 0] := Blk.new _ _ _
  have hwh := cwhich_any c nb P (S + 1) s.inn s.L p _ h1.ch (by omega)
  have hc := h1.blk.cell
  have hln := h.tms.lt
  cases ho : whichO P s.inn p with
  | none =>
    have HW := Lib.hid (atW_none ho)
    rw [ho] at hwh
    unfold pairV at hwh
    clear h1 q0 h hb0
    go_enter Tryz.func77, Tryz.ntmps77
    go_wp2_with (go_at_call 40; refine hwh.mono ?_; rintro e w' ⟨rfl, rfl⟩)
    refine bodyPost_ret (v := pairT none) (by simp [results, Tryz.results77, go_sem, pairT, Timer.val, Timer.zero]) rfl ⟨by rw [HW.out], ?_⟩
    first | exact HB.out _ | exact (((HB.out _).setCell (Nat.le_refl _) _).setCell (Nat.le_refl _) _).setCell (Nat.le_refl _) _
  | some x =>
    obtain ⟨i, j, rfl, rfl, hi, hj, ha⟩ := atW_some ho
    have HW := Lib.hid ha
    rw [ho] at hwh
    unfold pairV at hwh
    have t0 := (h1.tms.cell _).trans (tmC_at P s.tm i hi)
    have t1 := (h1.tms.cell _).trans (tmC_seq P s.tm i hi)
    have t2 := (h1.tms.cell _).trans (tmC_place P s.tm i hi)
    clear h1 q0 h hb0 ha ho hj
    generalize s.tm i = x at *
    go_enter Tryz.func77, Tryz.ntmps77
    go_wp2_with (go_at_call 40; refine hwh.mono ?_; rintro e w' ⟨rfl, rfl⟩)
    refine bodyPost_ret (v := pairT (some x)) (by simp [results, Tryz.results77, go_sem, pairT, Timer.val]) rfl ⟨by rw [HW.out], ?_⟩
    first | exact HB.out _ | exact (((HB.out _).setCell (Nat.le_refl _) _).setCell (Nat.le_refl _) _).setCell (Nat.le_refl _) _
end Go.Proofs.YtckkfbepclogcaaGreatDoor
namespace Go.Proofs.YtckkfbepclogcaaGreatDoor
open Go.RowKit
theorem pend_ins_len {P : Nat} {s : HSt} {i j : Nat} {l : List Nat} {t : Timer} (hi : i < P) (hn : s.inn i = none) : ((s.ins i j l t).pend P).length = (s.pend P).length + 1 := by
  unfold HSt.pend
  rw [HSt.on_ins]
  have := (pend_on (tm := s.tm) t hi (HSt.on_none hn)).length_eq
  rw [List.length_cons] at this
  exact this
theorem busy_ins {s : HSt} {i j : Nat} {t : Timer} (k : Nat) : busyAt (s.ins i j (s.L j ++ [i]) t) k = updB (busyAt s) j true k := by
  unfold busyAt
  show (!(updL s.L j (s.L j ++ [i]) k).isEmpty) = _
  by_cases hk : k = j
  · subst hk
    rw [updL_at, updB_at]
    simp
  · rw [updL_ne _ _ hk, updB_ne _ _ hk]
theorem busy_put {S : Nat} {b : Bits} {s : HSt} (h : Busy S b (busyAt s)) (hS : S ≤ 256) {i j : Nat} {t : Timer} : Busy S (if j < S then b.put (j : Int) else b) (busyAt (s.ins i j (s.L j ++ [i]) t)) := by
  split
  · rename_i hj
    exact (h.put hS hj).congr fun k _ => (busy_ins k).symm
  · rename_i hj
    exact h.congr fun k hk => by rw [busy_ins, updB_ne _ _ (by omega)]
/-- What Insert is asked of: where the timer goes. -/
structure InsAt (P S : Nat) (s : HSt) (t : Timer) (j : Nat) : Prop where
  t0 : 0 ≤ t.at_
  t1 : t.at_ ≤ 18446744073709551615
  b0 : 0 ≤ s.base
  b1 : s.base ≤ 18446744073709551615
  hj : slotOf S s.base t = j
theorem slot_cases {P S : Nat} {s : HSt} {t : Timer} {j : Nat} (hS : 0 < S) (a : InsAt P S s t j) : (s.base < t.at_ ∧ (t.at_ % S).toNat = j ∧ j < S) ∨ (¬ s.base < t.at_ ∧ j = S) := by
  have h := a.hj
  unfold slotOf at h
  by_cases hb : s.base < t.at_
  · rw [if_pos hb] at h
    have := Int.emod_lt_of_pos t.at_ (show (0 : Int) < S by omega)
    have := Int.emod_nonneg t.at_ (show (S : Int) ≠ 0 by omega)
    exact .inl ⟨hb, h, by omega⟩
  · rw [if_neg hb] at h
    exact .inr ⟨hb, h.symm⟩
set_option maxRecDepth 100000 in
set_option maxHeartbeats 4000000 in
theorem hins_bad (q tb c nb P S : Nat) (s : HSt) (b : Bits) (lk : Int) (t : Timer) (w : World) (h : HM w q tb c nb P S s b lk) (z : HSz P S) (j : Nat) (a : InsAt P S s t j) (hq : cin P t.place = false) :
    Calls Tryz.prog 23 #[.pointer (some ⟨q, 0, none⟩), t.val] w fun e w' => e = .returned (.int .i64 1) ∧ Below w.heap.size w w' := by
  rcases slot_cases z.hS a with ⟨hlt, hj, hjS⟩ | ⟨hlt, hj⟩
  · have hsl := fun w1 h1 => hslot_any q tb c nb P S s b lk t.at_ w1 h1 z a.t0 a.t1
    rw [hj] at hsl
    clear hj a
    have hP := z.hP
    have hS := z.hS
    have hS2 := z.hS2
    have hb0 : Below w.heap.size w (w.alloc (.cells #[.int .u64 t.at_, .int .u64 t.seq, .int .i64 t.place] 37)) := (Below.refl _ _).alloc (Nat.le_refl _) _
    have h1 := h.below hb0
    have q0 : Blk (w.alloc (.cells #[.int .u64 t.at_, .int .u64 t.seq, .int .i64 t.place] 37)) w.heap.size 37 #[.int .u64 t.at_, .int .u64 t.seq, .int .i64 t.place] := Blk.new _ _ _
    obtain ⟨hqw, htw, hcw, hnw⟩ := h.lts
    clear h
    have hc := h1.blk.cell
    have hq0 := q0.cell
    unfold Timer.val
    go_enter Tryz.func23, Tryz.ntmps23
    go_wp2_with fail
    refine still_all (by kernel_rfl) (by kernel_rfl) ?_
    repeat still_step
    refine wpStill_nil ?_
    generalize w.alloc (.cells #[.int .u64 t.at_, .int .u64 t.seq, .int .i64 t.place] 37) = w1 at *
    replace h1 := h1.drew
    replace q0 := q0.drew
    replace hb0 := hb0.drew
    replace hc := h1.blk.cell
    replace hq0 := q0.cell
    generalize w1.drew = w1 at *
    go_wp2_with (go_at_call 44; refine (hsl _ h1).mono ?_; rintro e w' ⟨rfl, rfl⟩)
    clear hsl
    refine still_tail 8 (by kernel_rfl) (by kernel_rfl) ?_
    simp only [List.take_succ_cons, List.take_zero, List.drop_succ_cons, List.drop_zero]
    repeat still_step
    refine wpStill_nil ?_
    replace h1 := h1.drew
    replace q0 := q0.drew
    replace hb0 := hb0.drew
    replace hc := h1.blk.cell
    replace hq0 := q0.cell
    go_wp2_with fail
    skip
    refine (cappend_bad c nb P (S + 1) s.inn s.L _ t.place _ h1.ch (by omega) (.inr hq)).mono ?_
    rintro e w' ⟨rfl, rfl⟩
    go_wp2_with fail
    go_ret
    exact ⟨rfl, hb0⟩
  · clear a hj
    have hP := z.hP
    have hS := z.hS
    have hS2 := z.hS2
    have hb0 : Below w.heap.size w (w.alloc (.cells #[.int .u64 t.at_, .int .u64 t.seq, .int .i64 t.place] 37)) := (Below.refl _ _).alloc (Nat.le_refl _) _
    have h1 := h.below hb0
    have q0 : Blk (w.alloc (.cells #[.int .u64 t.at_, .int .u64 t.seq, .int .i64 t.place] 37)) w.heap.size 37 #[.int .u64 t.at_, .int .u64 t.seq, .int .i64 t.place] := Blk.new _ _ _
    obtain ⟨hqw, htw, hcw, hnw⟩ := h.lts
    clear h
    have hc := h1.blk.cell
    have hq0 := q0.cell
    unfold Timer.val
    go_enter Tryz.func23, Tryz.ntmps23
    go_wp2_with fail
    refine still_all (by kernel_rfl) (by kernel_rfl) ?_
    repeat still_step
    refine wpStill_nil ?_
    generalize w.alloc (.cells #[.int .u64 t.at_, .int .u64 t.seq, .int .i64 t.place] 37) = w1 at *
    replace h1 := h1.drew
    replace q0 := q0.drew
    replace hb0 := hb0.drew
    replace hc := h1.blk.cell
    replace hq0 := q0.cell
    generalize w1.drew = w1 at *
    go_wp2_with fail
    refine still_tail 8 (by kernel_rfl) (by kernel_rfl) ?_
    simp only [List.take_succ_cons, List.take_zero, List.drop_succ_cons, List.drop_zero]
    repeat still_step
    refine wpStill_nil ?_
    replace h1 := h1.drew
    replace q0 := q0.drew
    replace hb0 := hb0.drew
    replace hc := h1.blk.cell
    replace hq0 := q0.cell
    go_wp2_with fail
    skip
    refine (cappend_bad c nb P (S + 1) s.inn s.L _ t.place _ h1.ch (by omega) (.inr hq)).mono ?_
    rintro e w' ⟨rfl, rfl⟩
    go_wp2_with fail
    go_ret
    exact ⟨rfl, hb0⟩
set_option maxRecDepth 100000 in
set_option maxHeartbeats 4000000 in
theorem hins_twice (q tb c nb P S : Nat) (s : HSt) (b : Bits) (lk : Int) (t : Timer) (w : World) (h : HM w q tb c nb P S s b lk) (z : HSz P S) (j : Nat) (a : InsAt P S s t j) (i k : Nat) (hi : i < P) (hp : Hid (t.place = i)) (ho : s.inn i = some k) :
    Calls Tryz.prog 23 #[.pointer (some ⟨q, 0, none⟩), t.val] w fun e w' => e = .returned (.int .i64 4) ∧ Below w.heap.size w w' := by
  rcases slot_cases z.hS a with ⟨hlt, hj, hjS⟩ | ⟨hlt, hj⟩
  · have hsl := fun w1 h1 => hslot_any q tb c nb P S s b lk t.at_ w1 h1 z a.t0 a.t1
    rw [hj] at hsl
    clear hj a
    have hP := z.hP
    have hS := z.hS
    have hS2 := z.hS2
    have hb0 : Below w.heap.size w (w.alloc (.cells #[.int .u64 t.at_, .int .u64 t.seq, .int .i64 t.place] 37)) := (Below.refl _ _).alloc (Nat.le_refl _) _
    have h1 := h.below hb0
    have q0 : Blk (w.alloc (.cells #[.int .u64 t.at_, .int .u64 t.seq, .int .i64 t.place] 37)) w.heap.size 37 #[.int .u64 t.at_, .int .u64 t.seq, .int .i64 t.place] := Blk.new _ _ _
    obtain ⟨hqw, htw, hcw, hnw⟩ := h.lts
    clear h
    have hc := h1.blk.cell
    have hq0 := q0.cell
    unfold Timer.val
    go_enter Tryz.func23, Tryz.ntmps23
    go_wp2_with fail
    refine still_all (by kernel_rfl) (by kernel_rfl) ?_
    repeat still_step
    refine wpStill_nil ?_
    generalize w.alloc (.cells #[.int .u64 t.at_, .int .u64 t.seq, .int .i64 t.place] 37) = w1 at *
    replace h1 := h1.drew
    replace q0 := q0.drew
    replace hb0 := hb0.drew
    replace hc := h1.blk.cell
    replace hq0 := q0.cell
    generalize w1.drew = w1 at *
    go_wp2_with (go_at_call 44; refine (hsl _ h1).mono ?_; rintro e w' ⟨rfl, rfl⟩)
    clear hsl
    refine still_tail 8 (by kernel_rfl) (by kernel_rfl) ?_
    simp only [List.take_succ_cons, List.take_zero, List.drop_succ_cons, List.drop_zero]
    repeat still_step
    refine wpStill_nil ?_
    replace h1 := h1.drew
    replace q0 := q0.drew
    replace hb0 := hb0.drew
    replace hc := h1.blk.cell
    replace hq0 := q0.cell
    go_wp2_with fail
    rw [hp.out]
    refine (cappend_twice c nb P (S + 1) _ i k s.inn s.L _ h1.ch (by omega) (by omega) hi ho).mono ?_
    rintro e w' ⟨rfl, rfl⟩
    go_wp2_with fail
    go_ret
    exact ⟨rfl, hb0⟩
  · clear a hj
    have hP := z.hP
    have hS := z.hS
    have hS2 := z.hS2
    have hb0 : Below w.heap.size w (w.alloc (.cells #[.int .u64 t.at_, .int .u64 t.seq, .int .i64 t.place] 37)) := (Below.refl _ _).alloc (Nat.le_refl _) _
    have h1 := h.below hb0
    have q0 : Blk (w.alloc (.cells #[.int .u64 t.at_, .int .u64 t.seq, .int .i64 t.place] 37)) w.heap.size 37 #[.int .u64 t.at_, .int .u64 t.seq, .int .i64 t.place] := Blk.new _ _ _
    obtain ⟨hqw, htw, hcw, hnw⟩ := h.lts
    clear h
    have hc := h1.blk.cell
    have hq0 := q0.cell
    unfold Timer.val
    go_enter Tryz.func23, Tryz.ntmps23
    go_wp2_with fail
    refine still_all (by kernel_rfl) (by kernel_rfl) ?_
    repeat still_step
    refine wpStill_nil ?_
    generalize w.alloc (.cells #[.int .u64 t.at_, .int .u64 t.seq, .int .i64 t.place] 37) = w1 at *
    replace h1 := h1.drew
    replace q0 := q0.drew
    replace hb0 := hb0.drew
    replace hc := h1.blk.cell
    replace hq0 := q0.cell
    generalize w1.drew = w1 at *
    go_wp2_with fail
    refine still_tail 8 (by kernel_rfl) (by kernel_rfl) ?_
    simp only [List.take_succ_cons, List.take_zero, List.drop_succ_cons, List.drop_zero]
    repeat still_step
    refine wpStill_nil ?_
    replace h1 := h1.drew
    replace q0 := q0.drew
    replace hb0 := hb0.drew
    replace hc := h1.blk.cell
    replace hq0 := q0.cell
    go_wp2_with fail
    rw [hp.out]
    refine (cappend_twice c nb P (S + 1) _ i k s.inn s.L _ h1.ch (by omega) (by omega) hi ho).mono ?_
    rintro e w' ⟨rfl, rfl⟩
    go_wp2_with fail
    go_ret
    exact ⟨rfl, hb0⟩
theorem putq {w : World} {q : Nat} {T : TypeId} {x0 x1 x2 x3 x4 y0 y1 y2 y3 x9 : Value} (h : Blk w q T #[x0, x1, x2, x3, x4, y0, y1, y2, y3, x9]) (v : Bits) :
    ∃ wa, wa = (((w.setCell ⟨q, 5, none⟩ (.int .u64 v.w0)).setCell ⟨q, 6, none⟩ (.int .u64 v.w1)).setCell ⟨q, 7, none⟩ (.int .u64 v.w2)).setCell ⟨q, 8, none⟩ (.int .u64 v.w3) ∧
      Blk wa q T #[x0, x1, x2, x3, x4, .int .u64 v.w0, .int .u64 v.w1, .int .u64 v.w2, .int .u64 v.w3, x9] ∧ Chg (fun g => g = q) w wa :=
  ⟨_, rfl, (((h.put 5 _).put 6 _).put 7 _).put 8 _, ((((Chg.refl (fun g => g = q) w).setCell (fun _ => rfl) _).setCell (fun _ => rfl) _).setCell (fun _ => rfl) _).setCell (fun _ => rfl) _⟩
theorem drew_cells' {w : World} {g : Nat} {cs : Array Value} (h : ∀ i, w.cell? ⟨g, i, none⟩ = cs[i]?) : ∀ i, w.drew.cell? ⟨g, i, none⟩ = cs[i]? := h
set_option maxRecDepth 100000 in
set_option maxHeartbeats 1000000 in
theorem hins_slot (q tb c nb P S : Nat) (s : HSt) (b : Bits) (lk : Int) (t : Timer) (w : World) (h : HM w q tb c nb P S s b lk) (z : HSz P S) (j : Nat) (a : InsAt P S s t j) (hlt : s.base < t.at_) (hj : (t.at_ % S).toNat = j) (hjS : j < S) (i : Nat) (hi : i < P) (hp : Hid (t.place = i)) (ho : s.inn i = none) :
    Calls Tryz.prog 23 #[.pointer (some ⟨q, 0, none⟩), t.val] w fun e w' => e = .returned (.int .i64 0) ∧ (∃ b', HM w' q tb c nb P S (s.ins i j (s.L j ++ [i]) t) b' lk) ∧ Chg (fun g => g = q ∨ g = tb ∨ g = nb) w w' := by
  have HB := Lib.hid (busy_put h.busy z.hS2 (i := i) (j := j) (t := t))
  have HOK := Lib.hid (h.ok.ins (t := t) (l := s.L j ++ [i]) hi ho a.t0 a.hj (by omega) (List.perm_append_singleton _ _))
  have hbok := h.busy.ok
  have hcq := h.qc
  have htc := h.tc
  have hqn := h.qnb
  have htn := h.tnb
  have hsl := fun w1 h1 => hslot_any q tb c nb P S s b lk t.at_ w1 h1 z a.t0 a.t1
  rw [hj] at hsl
  clear hj a
  rw [if_pos hjS] at HB
  have hP := z.hP
  have hS := z.hS
  have hS2 := z.hS2
  have hb0 : Below w.heap.size w (w.alloc (.cells #[.int .u64 t.at_, .int .u64 t.seq, .int .i64 t.place] 37)) := (Below.refl _ _).alloc (Nat.le_refl _) _
  have h1 := h.below hb0
  have q0 : Blk (w.alloc (.cells #[.int .u64 t.at_, .int .u64 t.seq, .int .i64 t.place] 37)) w.heap.size 37 #[.int .u64 t.at_, .int .u64 t.seq, .int .i64 t.place] := Blk.new _ _ _
  obtain ⟨hqw, htw, hcw, hnw⟩ := h.lts
  clear h
  have hc := h1.blk.cell
  have hq0 := q0.cell
  unfold Timer.val
  go_enter Tryz.func23, Tryz.ntmps23
  go_wp2_with fail
  refine still_all (by kernel_rfl) (by kernel_rfl) ?_
  repeat still_step
  refine wpStill_nil ?_
  generalize w.alloc (.cells #[.int .u64 t.at_, .int .u64 t.seq, .int .i64 t.place] 37) = w1 at *
  replace h1 := h1.drew
  replace q0 := q0.drew
  replace hb0 := hb0.drew
  replace hc := h1.blk.cell
  replace hq0 := q0.cell
  generalize w1.drew = w1 at *
  go_wp2_with (go_at_call 44; refine (hsl _ h1).mono ?_; rintro e w' ⟨rfl, rfl⟩)
  clear hsl
  refine still_tail 8 (by kernel_rfl) (by kernel_rfl) ?_
  simp only [List.take_succ_cons, List.take_zero, List.drop_succ_cons, List.drop_zero]
  repeat still_step
  refine wpStill_nil ?_
  replace h1 := h1.drew
  replace q0 := q0.drew
  replace hb0 := hb0.drew
  replace hc := h1.blk.cell
  replace hq0 := q0.cell
  go_wp2_with fail
  rw [hp.out]
  refine (cappend_ok c nb P (S + 1) j i s.inn s.L _ h1.ch (by omega) (by omega) hi ho).mono ?_
  rintro e w2 ⟨rfl, hch, hk2⟩
  have hB2 := h1.blk.chg hk2 hqn
  have hT2 := h1.tms.chg hk2 htn
  have q2 := q0.chg hk2 (by omega)
  have hkb : Chg (fun g => g = q ∨ g = tb ∨ g = nb) w w2 := (Chg.of_same hb0 _).trans hk2 (fun _ _ e => .inr (.inr e))
  have hc2 := hB2.cell
  have hpu := bput_any b j w2 hbok
  clear h1 q0 hb0 hk2 hc hq0
  unfold Bits.val at hpu
  go_wp2_with (go_at_call 46; refine hpu.mono ?_; rintro e w3 ⟨rfl, hx3⟩; have hc3 := (hB2.below hx3 hB2.lt).cell; have hz3 := (hB2.below hx3 hB2.lt).frozen; have hl3 := (hB2.below hx3 hB2.lt).lt)
  clear hc3 hz3 hl3 hc2 hpu
  have hB3 := hB2.below hx3 hB2.lt
  have hT3 := hT2.below hx3 hT2.lt
  have q3 := q2.below hx3 q2.lt
  rw [hp.out] at q3
  have hC3 := hch.below hx3
  have hk3 : Chg (fun g => g = q ∨ g = tb ∨ g = nb) w w3 := hkb.trans (Chg.of_same hx3 (fun g => g = q ∨ g = tb ∨ g = nb)) (fun _ _ e => e)
  obtain ⟨wa, hwa, hB, hka⟩ := putq hB3 (b.put (j : Int))
  rw [← hwa]
  have hT : Blk wa tb 37 (tmC P s.tm) := hT3.chg hka (fun e => hB3.ne hT3 (by decide) e.symm)
  have q0 := q3.chg hka (by omega)
  have HC := Lib.hid (hC3.chg hka (by omega) (by omega))
  have HCH := Lib.hid (hk3.trans hka (fun _ _ e => .inl e))
  clear hwa hka hB3 hT3 q3 hC3 hk3 hx3 hch hB2 hT2 q2 hkb
  have HN := Lib.hid (pend_ins_len (P := P) (j := j) (l := s.L j ++ [i]) (t := t) hi ho)
  have hnP : (s.pend P).length ≤ P := pendL_le _ _ _
  generalize (s.pend P).length = n at *
  have t0 := (hT.cell _).trans (tmC_at P s.tm i hi)
  have t1 := (hT.cell _).trans (tmC_seq P s.tm i hi)
  have t2 := (hT.cell _).trans (tmC_place P s.tm i hi)
  have hzt := hT.frozen
  have hlt3 := hT.lt
  have hc := hB.cell
  have hzq := hB.frozen
  have hlq := hB.lt
  have hq0 := q0.cell
  have hqt : q ≠ tb := Blk.ne hB hT (by decide)
  have hqt' : tb ≠ q := fun e => hqt e.symm
  have hset := tmC_set P s.tm i t hi
  rw [hp.out] at hset
  have fin : ∀ w9, w9 = (((wa.setCell ⟨tb, i * 3, none⟩ (.int .u64 t.at_)).setCell ⟨tb, i * 3 + 1, none⟩ (.int .u64 t.seq)).setCell ⟨tb, i * 3 + 2, none⟩ (.int .i64 i)).setCell ⟨q, 2, none⟩ (.int .i64 ((n : Int) + 1)) →
      (∃ b', HM w9 q tb c nb P S (s.ins i j (s.L j ++ [i]) t) b' lk) ∧ Chg (fun g => g = q ∨ g = tb ∨ g = nb) w w9 := by
    rintro w9 rfl
    have hx : ∀ k : Nat, k ≠ tb → k ≠ q → ((((wa.setCell ⟨tb, i * 3, none⟩ (.int .u64 t.at_)).setCell ⟨tb, i * 3 + 1, none⟩ (.int .u64 t.seq)).setCell ⟨tb, i * 3 + 2, none⟩ (.int .i64 i)).setCell ⟨q, 2, none⟩ (.int .i64 ((n : Int) + 1))).heap[k]? = wa.heap[k]? := fun k h1 h2 =>
      (Below.heap_setCell _ _ _ _ h2).trans ((Below.heap_setCell _ _ _ _ h1).trans ((Below.heap_setCell _ _ _ _ h1).trans (Below.heap_setCell _ _ _ _ h1)))
    have hkk : Chg (fun g => g = q ∨ g = tb) wa ((((wa.setCell ⟨tb, i * 3, none⟩ (.int .u64 t.at_)).setCell ⟨tb, i * 3 + 1, none⟩ (.int .u64 t.seq)).setCell ⟨tb, i * 3 + 2, none⟩ (.int .i64 i)).setCell ⟨q, 2, none⟩ (.int .i64 ((n : Int) + 1))) :=
      ((((Chg.refl _ wa).setCell (fun _ => .inr rfl) _).setCell (fun _ => .inr rfl) _).setCell (fun _ => .inr rfl) _).setCell (fun _ => .inl rfl) _
    refine ⟨⟨b.put (j : Int), ?_, ?_, ?_, ?_, ?_⟩, ?_⟩
    · rw [HN.out]
      exact (((hB.far hqt _).far hqt _).far hqt _).put 2 _
    · show Blk _ tb 37 (tmC P (updT s.tm i t))
      rw [← hset]
      exact (((hT.put _ _).put _ _).put _ _).far hqt' _
    · exact HC.out.chg hkk (fun e => by rcases e with e | e <;> omega) (fun e => by rcases e with e | e <;> omega)
    · exact HB.out
    · exact HOK.out
    · exact HCH.out.trans hkk (fun _ _ e => by rcases e with e | e; exact .inl e; exact .inr (.inl e))
  clear hset hT hB HN HC HB HOK HCH
  go_wp2_with fail
  refine still_tail 8 (by kernel_rfl) (by kernel_rfl) ?_
  simp only [List.take_succ_cons, List.take_zero, List.drop_succ_cons, List.drop_zero]
  repeat still_step
  refine wpStill_nil ?_
  go_wp2_with fail
  go_ret
  obtain ⟨⟨b', f1⟩, f2⟩ := fin _ rfl
  exact ⟨rfl, ⟨b', f1.drew⟩, f2.drew⟩
set_option maxRecDepth 100000 in
set_option maxHeartbeats 1000000 in
theorem hins_ready (q tb c nb P S : Nat) (s : HSt) (b : Bits) (lk : Int) (t : Timer) (w : World) (h : HM w q tb c nb P S s b lk) (z : HSz P S) (a : InsAt P S s t S) (hlt : ¬ s.base < t.at_) (i : Nat) (hi : i < P) (hp : Hid (t.place = i)) (ho : s.inn i = none) :
    Calls Tryz.prog 23 #[.pointer (some ⟨q, 0, none⟩), t.val] w fun e w' => e = .returned (.int .i64 0) ∧ (∃ b', HM w' q tb c nb P S (s.ins i S (s.L S ++ [i]) t) b' lk) ∧ Chg (fun g => g = q ∨ g = tb ∨ g = nb) w w' := by
  have HB := Lib.hid (busy_put h.busy z.hS2 (i := i) (j := S) (t := t))
  have HOK := Lib.hid (h.ok.ins (t := t) (l := s.L S ++ [i]) hi ho a.t0 a.hj (by omega) (List.perm_append_singleton _ _))
  have hcq := h.qc
  have htc := h.tc
  have hqn := h.qnb
  have htn := h.tnb
  clear a
  rw [if_neg (Nat.lt_irrefl _)] at HB
  have hP := z.hP
  have hS := z.hS
  have hS2 := z.hS2
  have hb0 : Below w.heap.size w (w.alloc (.cells #[.int .u64 t.at_, .int .u64 t.seq, .int .i64 t.place] 37)) := (Below.refl _ _).alloc (Nat.le_refl _) _
  have h1 := h.below hb0
  have q0 : Blk (w.alloc (.cells #[.int .u64 t.at_, .int .u64 t.seq, .int .i64 t.place] 37)) w.heap.size 37 #[.int .u64 t.at_, .int .u64 t.seq, .int .i64 t.place] := Blk.new _ _ _
  obtain ⟨hqw, htw, hcw, hnw⟩ := h.lts
  clear h
  have hc := h1.blk.cell
  have hq0 := q0.cell
  unfold Timer.val
  go_enter Tryz.func23, Tryz.ntmps23
  go_wp2_with fail
  refine still_all (by kernel_rfl) (by kernel_rfl) ?_
  repeat still_step
  refine wpStill_nil ?_
  generalize w.alloc (.cells #[.int .u64 t.at_, .int .u64 t.seq, .int .i64 t.place] 37) = w1 at *
  replace h1 := h1.drew
  replace q0 := q0.drew
  replace hb0 := hb0.drew
  replace hc := h1.blk.cell
  replace hq0 := q0.cell
  generalize w1.drew = w1 at *
  go_wp2_with fail
  refine still_tail 8 (by kernel_rfl) (by kernel_rfl) ?_
  simp only [List.take_succ_cons, List.take_zero, List.drop_succ_cons, List.drop_zero]
  repeat still_step
  refine wpStill_nil ?_
  replace h1 := h1.drew
  replace q0 := q0.drew
  replace hb0 := hb0.drew
  replace hc := h1.blk.cell
  replace hq0 := q0.cell
  go_wp2_with fail
  rw [hp.out]
  refine (cappend_ok c nb P (S + 1) S i s.inn s.L _ h1.ch (by omega) (by omega) hi ho).mono ?_
  rintro e wa ⟨rfl, hch, hk2⟩
  have hB := h1.blk.chg hk2 hqn
  have hT := h1.tms.chg hk2 htn
  replace q0 := q0.chg hk2 (by omega)
  rw [hp.out] at q0
  have HC := Lib.hid hch
  have HCH : Hid (Chg (fun g => g = q ∨ g = tb ∨ g = nb) w wa) := Lib.hid ((Chg.of_same hb0 _).trans hk2 (fun _ _ e => .inr (.inr e)))
  clear h1 hb0 hk2 hch hc hq0
  have HN := Lib.hid (pend_ins_len (P := P) (j := S) (l := s.L S ++ [i]) (t := t) hi ho)
  have hnP : (s.pend P).length ≤ P := pendL_le _ _ _
  generalize (s.pend P).length = n at *
  have t0 := (hT.cell _).trans (tmC_at P s.tm i hi)
  have t1 := (hT.cell _).trans (tmC_seq P s.tm i hi)
  have t2 := (hT.cell _).trans (tmC_place P s.tm i hi)
  have hzt := hT.frozen
  have hlt3 := hT.lt
  have hc := hB.cell
  have hzq := hB.frozen
  have hlq := hB.lt
  have hq0 := q0.cell
  have hqt : q ≠ tb := Blk.ne hB hT (by decide)
  have hqt' : tb ≠ q := fun e => hqt e.symm
  have hset := tmC_set P s.tm i t hi
  rw [hp.out] at hset
  have fin : ∀ w9, w9 = (((wa.setCell ⟨tb, i * 3, none⟩ (.int .u64 t.at_)).setCell ⟨tb, i * 3 + 1, none⟩ (.int .u64 t.seq)).setCell ⟨tb, i * 3 + 2, none⟩ (.int .i64 i)).setCell ⟨q, 2, none⟩ (.int .i64 ((n : Int) + 1)) →
      (∃ b', HM w9 q tb c nb P S (s.ins i S (s.L S ++ [i]) t) b' lk) ∧ Chg (fun g => g = q ∨ g = tb ∨ g = nb) w w9 := by
    rintro w9 rfl
    have hx : ∀ k : Nat, k ≠ tb → k ≠ q → ((((wa.setCell ⟨tb, i * 3, none⟩ (.int .u64 t.at_)).setCell ⟨tb, i * 3 + 1, none⟩ (.int .u64 t.seq)).setCell ⟨tb, i * 3 + 2, none⟩ (.int .i64 i)).setCell ⟨q, 2, none⟩ (.int .i64 ((n : Int) + 1))).heap[k]? = wa.heap[k]? := fun k h1 h2 =>
      (Below.heap_setCell _ _ _ _ h2).trans ((Below.heap_setCell _ _ _ _ h1).trans ((Below.heap_setCell _ _ _ _ h1).trans (Below.heap_setCell _ _ _ _ h1)))
    have hkk : Chg (fun g => g = q ∨ g = tb) wa ((((wa.setCell ⟨tb, i * 3, none⟩ (.int .u64 t.at_)).setCell ⟨tb, i * 3 + 1, none⟩ (.int .u64 t.seq)).setCell ⟨tb, i * 3 + 2, none⟩ (.int .i64 i)).setCell ⟨q, 2, none⟩ (.int .i64 ((n : Int) + 1))) :=
      ((((Chg.refl _ wa).setCell (fun _ => .inr rfl) _).setCell (fun _ => .inr rfl) _).setCell (fun _ => .inr rfl) _).setCell (fun _ => .inl rfl) _
    refine ⟨⟨b, ?_, ?_, ?_, ?_, ?_⟩, ?_⟩
    · rw [HN.out]
      exact (((hB.far hqt _).far hqt _).far hqt _).put 2 _
    · show Blk _ tb 37 (tmC P (updT s.tm i t))
      rw [← hset]
      exact (((hT.put _ _).put _ _).put _ _).far hqt' _
    · exact HC.out.chg hkk (fun e => by rcases e with e | e <;> omega) (fun e => by rcases e with e | e <;> omega)
    · exact HB.out
    · exact HOK.out
    · exact HCH.out.trans hkk (fun _ _ e => by rcases e with e | e; exact .inl e; exact .inr (.inl e))
  clear hset hT hB HN HC HB HOK HCH
  go_wp2_with fail
  refine still_tail 8 (by kernel_rfl) (by kernel_rfl) ?_
  simp only [List.take_succ_cons, List.take_zero, List.drop_succ_cons, List.drop_zero]
  repeat still_step
  refine wpStill_nil ?_
  go_wp2_with fail
  go_ret
  obtain ⟨⟨b', f1⟩, f2⟩ := fin _ rfl
  exact ⟨rfl, ⟨b', f1.drew⟩, f2.drew⟩
theorem hins_ok (q tb c nb P S : Nat) (s : HSt) (b : Bits) (lk : Int) (t : Timer) (w : World) (h : HM w q tb c nb P S s b lk) (z : HSz P S) (j : Nat) (a : InsAt P S s t j) (i : Nat) (hi : i < P) (hp : Hid (t.place = i)) (ho : s.inn i = none) :
    Calls Tryz.prog 23 #[.pointer (some ⟨q, 0, none⟩), t.val] w fun e w' => e = .returned (.int .i64 0) ∧ (∃ b', HM w' q tb c nb P S (s.ins i j (s.L j ++ [i]) t) b' lk) ∧ Chg (fun g => g = q ∨ g = tb ∨ g = nb) w w' := by
  rcases slot_cases z.hS a with ⟨hlt, hj, hjS⟩ | ⟨hlt, hj⟩
  · exact hins_slot q tb c nb P S s b lk t w h z j a hlt hj hjS i hi hp ho
  · subst hj
    exact hins_ready q tb c nb P _ s b lk t w h z a hlt i hi hp ho
end Go.Proofs.YtckkfbepclogcaaGreatDoor
namespace Go.Proofs.YtckkfbepclogcaaGreatDoor
open Go.RowKit
theorem calls_below {P : Program} {f : FuncId} {args : Array Value} {w : World} {v : Ending} (h : Calls P f args w fun e w' => e = v ∧ w = w') : Calls P f args w fun e w' => e = v ∧ Below w.heap.size w w' := h.mono (by
  rintro e w' ⟨rfl, rfl⟩
  exact ⟨rfl, Below.refl _ _⟩)
def teV (t : Timer) (c : Int) : Value := .tuple #[t.val, .int .i64 c]
theorem pend_del_len {P : Nat} {s : HSt} {i j : Nat} (hi : i < P) (hn : s.inn i = some j) : (s.pend P).length = ((s.del i j).pend P).length + 1 := by
  unfold HSt.pend
  rw [HSt.on_del]
  have := (pend_off (tm := s.tm) hi (HSt.on_some hn)).length_eq
  rw [List.length_cons] at this
  exact this
theorem busy_del {s : HSt} {i j : Nat} (k : Nat) : busyAt (s.del i j) k = updB (busyAt s) j (!((s.L j).erase i).isEmpty) k := by
  unfold busyAt
  show (!(updL s.L j ((s.L j).erase i) k).isEmpty) = _
  by_cases hk : k = j
  · subst hk
    rw [updL_at, updB_at]
  · rw [updL_ne _ _ hk, updB_ne _ _ hk]
theorem busy_drop_no {S : Nat} {b : Bits} {s : HSt} (h : Busy S b (busyAt s)) {i j : Nat} (hm : i ∈ s.L j) (he : (s.L j).erase i ≠ [] ∨ j = S) : Busy S b (busyAt (s.del i j)) :=
  h.congr fun k hk => by
    rw [busy_del]
    by_cases hkj : k = j
    · subst hkj
      rw [updB_at]
      have h1 : (s.L k).erase i ≠ [] := he.resolve_right (by omega)
      have h2 : s.L k ≠ [] := List.ne_nil_of_mem hm
      unfold busyAt
      cases e1 : (s.L k).erase i with
      | nil => exact absurd e1 h1
      | cons a r =>
        cases e2 : s.L k with
        | nil => exact absurd e2 h2
        | cons a r => rfl
    · rw [updB_ne _ _ hkj]
theorem busy_drop_yes {S : Nat} {b : Bits} {s : HSt} (h : Busy S b (busyAt s)) (hS : S ≤ 256) {i j : Nat} (he : (s.L j).erase i = []) (hj : j < S) : Busy S (b.drop (j : Int)) (busyAt (s.del i j)) :=
  (h.drop hS hj).congr fun k _ => by
    rw [busy_del, he]
    rfl
set_option maxRecDepth 100000 in
set_option maxHeartbeats 1000000 in
theorem hcan_bad (q tb c nb P S : Nat) (s : HSt) (b : Bits) (lk : Int) (w : World) (h : HM w q tb c nb P S s b lk) (z : HSz P S) (p : Int) (hq : cin P p = false) :
    Calls Tryz.prog 24 #[.pointer (some ⟨q, 0, none⟩), .int .i64 p] w fun e w' => e = .returned (teV Timer.zero 1) ∧ Below w.heap.size w w' := by
  have hP := z.hP
  have hS := z.hS
  have hS2 := z.hS2
  have hb0 : Below w.heap.size w (w.alloc (.cells #[.int .u64 0, .int .u64 0, .int .i64 0] 37)) := (Below.refl _ _).alloc (Nat.le_refl _) _
  have q0 : Blk (w.alloc (.cells #[.int .u64 0, .int .u64 0, .int .i64 0] 37)) w.heap.size 37 #[.int .u64 0, .int .u64 0, .int .i64 0] := Blk.new _ _ _
  obtain ⟨hqw, htw, hcw, hnw⟩ := h.lts
  have h1 := h.below hb0
  clear h
  have hc := h1.blk.cell
  have hwh := cwhich_any c nb P (S + 1) s.inn s.L p _ h1.ch (by omega)
  have hwo : whichO P s.inn p = none := by simp [whichO, hq]
  rw [hwo] at hwh
  unfold pairV at hwh
  have hdr := calls_below (cdrop_bad c nb P (S + 1) s.inn s.L p _ h1.ch (by omega) hq)
  have q1 := q0.lt
  clear hwo
  go_enter Tryz.func24, Tryz.ntmps24
  go_wp2_with (go_at_call 40; refine hwh.mono ?_; rintro e w' ⟨rfl, rfl⟩)
  refine hdr.mono ?_
  rintro e w2 ⟨rfl, hx⟩
  have q2 := q0.below hx q0.lt
  have hb2 := hb0.trans (Below.mono hx hb0.size)
  have z2 := q2.frozen
  have c2 := q2.cell
  have l2 := q2.lt
  have HB := Lib.hid (show ∀ a b c, Below w.heap.size w (((w2.setCell ⟨w.heap.size, 0, none⟩ a).setCell ⟨w.heap.size, 1, none⟩ b).setCell ⟨w.heap.size, 2, none⟩ c) from fun _ _ _ => ((hb2.setCell (Nat.le_refl _) _).setCell (Nat.le_refl _) _).setCell (Nat.le_refl _) _)
  have hs3 := fun a b c i => (((q2.put 0 a).put 1 b).put 2 c).cell i
  clear hb0 h1 q0 hwh hdr hc
  go_wp2_with fail
  refine bodyPost_ret (v := teV Timer.zero 1) (by simp [results, Tryz.results24, go_sem, teV, Timer.val, Timer.zero, hs3]) rfl ⟨rfl, HB.out _ _ _⟩
set_option maxRecDepth 100000 in
set_option maxHeartbeats 1000000 in
theorem hcan_none (q tb c nb P S : Nat) (s : HSt) (b : Bits) (lk : Int) (w : World) (h : HM w q tb c nb P S s b lk) (z : HSz P S) (i : Nat) (hi : i < P) (ho : s.inn i = none) :
    Calls Tryz.prog 24 #[.pointer (some ⟨q, 0, none⟩), .int .i64 i] w fun e w' => e = .returned (teV Timer.zero 5) ∧ Below w.heap.size w w' := by
  have hP := z.hP
  have hS := z.hS
  have hS2 := z.hS2
  have hb0 : Below w.heap.size w (w.alloc (.cells #[.int .u64 0, .int .u64 0, .int .i64 0] 37)) := (Below.refl _ _).alloc (Nat.le_refl _) _
  have q0 : Blk (w.alloc (.cells #[.int .u64 0, .int .u64 0, .int .i64 0] 37)) w.heap.size 37 #[.int .u64 0, .int .u64 0, .int .i64 0] := Blk.new _ _ _
  obtain ⟨hqw, htw, hcw, hnw⟩ := h.lts
  have h1 := h.below hb0
  clear h
  have hc := h1.blk.cell
  have hwh := cwhich_any c nb P (S + 1) s.inn s.L i _ h1.ch (by omega)
  have hwo : whichO P s.inn i = none := by simp [whichO, cin_of hi, ho]
  rw [hwo] at hwh
  unfold pairV at hwh
  have hdr := cdrop_none c nb P (S + 1) i s.inn s.L _ h1.ch (by omega) hi ho
  have q1 := q0.lt
  clear hwo
  go_enter Tryz.func24, Tryz.ntmps24
  go_wp2_with (go_at_call 40; refine hwh.mono ?_; rintro e w' ⟨rfl, rfl⟩)
  refine hdr.mono ?_
  rintro e w2 ⟨rfl, hx⟩
  have q2 := q0.below hx q0.lt
  have hb2 := hb0.trans (Below.mono hx hb0.size)
  have z2 := q2.frozen
  have c2 := q2.cell
  have l2 := q2.lt
  have HB := Lib.hid (show ∀ a b c, Below w.heap.size w (((w2.setCell ⟨w.heap.size, 0, none⟩ a).setCell ⟨w.heap.size, 1, none⟩ b).setCell ⟨w.heap.size, 2, none⟩ c) from fun _ _ _ => ((hb2.setCell (Nat.le_refl _) _).setCell (Nat.le_refl _) _).setCell (Nat.le_refl _) _)
  have hs3 := fun a b c i => (((q2.put 0 a).put 1 b).put 2 c).cell i
  clear hb0 h1 q0 hwh hdr hc
  go_wp2_with fail
  refine bodyPost_ret (v := teV Timer.zero 5) (by simp [results, Tryz.results24, go_sem, teV, Timer.val, Timer.zero, hs3]) rfl ⟨rfl, HB.out _ _ _⟩
set_option maxRecDepth 100000 in
set_option maxHeartbeats 1000000 in
theorem hcan_stay (q tb c nb P S i j : Nat) (s : HSt) (b : Bits) (lk : Int) (w : World) (h : HM w q tb c nb P S s b lk) (z : HSz P S) (hi : i < P) (ho : s.inn i = some j) (a : Nat) (r : List Nat) (he : Hid ((s.L j).erase i = a :: r)) :
    Calls Tryz.prog 24 #[.pointer (some ⟨q, 0, none⟩), .int .i64 i] w fun e w' => e = .returned (teV (s.tm i) 0) ∧ (∃ b', HM w' q tb c nb P S (s.del i j) b' lk) ∧ Chg (fun g => g = q ∨ g = nb) w w' := by
  have HB := Lib.hid (busy_drop_no h.busy (h.ok.out i hi j ho).2 (.inl (by rw [he.out]; simp)))
  obtain ⟨hjN, him⟩ := h.ok.out i hi j ho
  have HOK := Lib.hid (h.ok.del hi ho)
  have hN := pend_del_len (P := P) hi ho
  have hBB := h.busy
  have hB0 := h.blk
  rw [hN] at hB0
  generalize hNe : ((s.del i j).pend P).length = n at *
  have HN := Lib.hid hNe
  have hnP : n ≤ P := by
    rw [← hNe]
    exact pendL_le _ _ _
  clear hNe hN
  have hcq := h.qc
  have htc := h.tc
  have hqn := h.qnb
  have htn := h.tnb
  have hP := z.hP
  have hS := z.hS
  have hS2 := z.hS2
  have hb0 : Below w.heap.size w (w.alloc (.cells #[.int .u64 0, .int .u64 0, .int .i64 0] 37)) := (Below.refl _ _).alloc (Nat.le_refl _) _
  have q0 : Blk (w.alloc (.cells #[.int .u64 0, .int .u64 0, .int .i64 0] 37)) w.heap.size 37 #[.int .u64 0, .int .u64 0, .int .i64 0] := Blk.new _ _ _
  obtain ⟨hqw, htw, hcw, hnw⟩ := h.lts
  have hB1 := hB0.below hb0 hB0.lt
  have hT1 := h.tms.below hb0 h.tms.lt
  have hC1 := h.ch.below hb0
  clear h hB0
  have hc := hB1.cell
  have hwh := cwhich_any c nb P (S + 1) s.inn s.L i _ hC1 (by omega)
  have hwo : whichO P s.inn i = some ((j : Nat) : Int) := by simp [whichO, cin_of hi, ho]
  rw [hwo] at hwh
  unfold pairV at hwh
  have hdr := cdrop_ok c nb P (S + 1) i j s.inn s.L _ hC1 (by omega) hi ho
  have q1 := q0.lt
  clear hwo
  go_enter Tryz.func24, Tryz.ntmps24
  go_wp2_with (go_at_call 40; refine hwh.mono ?_; rintro e w' ⟨rfl, rfl⟩)
  refine hdr.mono ?_
  rintro e w2 ⟨rfl, hC2, hk2⟩
  have hB2 := hB1.chg hk2 hqn
  have hT2 := hT1.chg hk2 htn
  have q2 := q0.chg hk2 (by omega)
  have hkb : Chg (fun g => g = q ∨ g = nb) w w2 := (Chg.of_same hb0 _).trans hk2 (fun _ _ e => .inr e)
  have hfi := cfirst_any c nb P (S + 1) j _ _ w2 hC2 (by omega) hjN
  rw [updL_at] at hfi
  have hc2 := hB2.cell
  have l2 := hB2.lt
  clear hb0 q0 q1 hB1 hT1 hC1 hc hwh hdr hk2
  rw [he.out] at hfi
  unfold pairV headI at hfi
  go_wp2_with fail
  refine hfi.mono ?_
  rintro e w3 ⟨rfl, hx⟩
  have hB3 := hB2.below hx l2
  have hT3 := hT2.below hx hT2.lt
  have hC3 := hC2.below hx
  have q3 := q2.below hx q2.lt
  have hk3 : Chg (fun g => g = q ∨ g = nb) w w3 := hkb.trans (Chg.of_same hx (fun g => g = q ∨ g = nb)) (fun _ _ e => e)
  clear hfi hc2 l2 hx hB2 hT2 hC2 q2 hkb
  have t0 := (hT3.cell _).trans (tmC_at P s.tm i hi)
  have t1 := (hT3.cell _).trans (tmC_seq P s.tm i hi)
  have t2 := (hT3.cell _).trans (tmC_place P s.tm i hi)
  have hqt : q ≠ tb := Blk.ne hB3 hT3 (by decide)
  have hc3 := hB3.cell
  have z3 := hB3.frozen
  have l3 := hB3.lt
  have q3c := q3.cell
  have q3z := q3.frozen
  have q3l := q3.lt
  have fin : ∀ w9 x0 x1 x2, w9 = (((w3.setCell ⟨q, 2, none⟩ (.int .i64 (n : Int))).setCell ⟨w.heap.size, 0, none⟩ x0).setCell ⟨w.heap.size, 1, none⟩ x1).setCell ⟨w.heap.size, 2, none⟩ x2 →
      (∃ b', HM w9 q tb c nb P S (s.del i j) b' lk) ∧ Chg (fun g => g = q ∨ g = nb) w w9 ∧ (∀ k, w9.cell? ⟨w.heap.size, k, none⟩ = (#[x0, x1, x2] : Array Value)[k]?) := by
    rintro w9 x0 x1 x2 rfl
    have hkk : Chg (fun g => g = q ∨ g = w.heap.size) w3 ((((w3.setCell ⟨q, 2, none⟩ (.int .i64 (n : Int))).setCell ⟨w.heap.size, 0, none⟩ x0).setCell ⟨w.heap.size, 1, none⟩ x1).setCell ⟨w.heap.size, 2, none⟩ x2) :=
      ((((Chg.refl _ w3).setCell (fun _ => .inl rfl) _).setCell (fun _ => .inr rfl) _).setCell (fun _ => .inr rfl) _).setCell (fun _ => .inr rfl) _
    have hne : q ≠ w.heap.size := by omega
    refine ⟨⟨b, ?_, ?_, ?_, ?_, ?_⟩, ?_, ?_⟩
    · rw [HN.out]
      exact (((hB3.put 2 _).far hne _).far hne _).far hne _
    · exact hT3.chg hkk (fun e => by rcases e with e | e <;> omega)
    · exact hC3.chg hkk (fun e => by rcases e with e | e <;> omega) (fun e => by rcases e with e | e <;> omega)
    · exact HB.out
    · exact HOK.out
    · exact hk3.trans (hkk.mono (S' := fun g => g = q ∨ g = w.heap.size) fun _ _ e => e) (fun k hk e => by rcases e with e | e; exact .inl e; omega)
    · exact (((((q3.far (by simp; omega) _).put 0 x0).put 1 x1).put 2 x2).cell)
  clear hT3 hB3 hC3 q3 hk3 HB HOK HN
  go_wp2_with fail
  obtain ⟨f1, f2, f3⟩ := fin _ _ _ _ rfl
  refine bodyPost_ret (v := teV (s.tm i) 0) (by simp [results, Tryz.results24, go_sem, teV, Timer.val, f3]) rfl ⟨rfl, f1, f2⟩
set_option maxRecDepth 100000 in
set_option maxHeartbeats 1000000 in
theorem hcan_ready (q tb c nb P S i : Nat) (s : HSt) (b : Bits) (lk : Int) (w : World) (h : HM w q tb c nb P S s b lk) (z : HSz P S) (hi : i < P) (ho : s.inn i = some S) (he : Hid ((s.L S).erase i = [])) :
    Calls Tryz.prog 24 #[.pointer (some ⟨q, 0, none⟩), .int .i64 i] w fun e w' => e = .returned (teV (s.tm i) 0) ∧ (∃ b', HM w' q tb c nb P S (s.del i S) b' lk) ∧ Chg (fun g => g = q ∨ g = nb) w w' := by
  have HB := Lib.hid (busy_drop_no h.busy (h.ok.out i hi S ho).2 (.inr rfl))
  obtain ⟨hjN, him⟩ := h.ok.out i hi S ho
  have HOK := Lib.hid (h.ok.del hi ho)
  have hN := pend_del_len (P := P) hi ho
  have hBB := h.busy
  have hB0 := h.blk
  rw [hN] at hB0
  generalize hNe : ((s.del i S).pend P).length = n at *
  have HN := Lib.hid hNe
  have hnP : n ≤ P := by
    rw [← hNe]
    exact pendL_le _ _ _
  clear hNe hN
  have hcq := h.qc
  have htc := h.tc
  have hqn := h.qnb
  have htn := h.tnb
  have hP := z.hP
  have hS := z.hS
  have hS2 := z.hS2
  have hb0 : Below w.heap.size w (w.alloc (.cells #[.int .u64 0, .int .u64 0, .int .i64 0] 37)) := (Below.refl _ _).alloc (Nat.le_refl _) _
  have q0 : Blk (w.alloc (.cells #[.int .u64 0, .int .u64 0, .int .i64 0] 37)) w.heap.size 37 #[.int .u64 0, .int .u64 0, .int .i64 0] := Blk.new _ _ _
  obtain ⟨hqw, htw, hcw, hnw⟩ := h.lts
  have hB1 := hB0.below hb0 hB0.lt
  have hT1 := h.tms.below hb0 h.tms.lt
  have hC1 := h.ch.below hb0
  clear h hB0
  have hc := hB1.cell
  have hwh := cwhich_any c nb P (S + 1) s.inn s.L i _ hC1 (by omega)
  have hwo : whichO P s.inn i = some ((S : Nat) : Int) := by simp [whichO, cin_of hi, ho]
  rw [hwo] at hwh
  unfold pairV at hwh
  have hdr := cdrop_ok c nb P (S + 1) i S s.inn s.L _ hC1 (by omega) hi ho
  have q1 := q0.lt
  clear hwo
  go_enter Tryz.func24, Tryz.ntmps24
  go_wp2_with (go_at_call 40; refine hwh.mono ?_; rintro e w' ⟨rfl, rfl⟩)
  refine hdr.mono ?_
  rintro e w2 ⟨rfl, hC2, hk2⟩
  have hB2 := hB1.chg hk2 hqn
  have hT2 := hT1.chg hk2 htn
  have q2 := q0.chg hk2 (by omega)
  have hkb : Chg (fun g => g = q ∨ g = nb) w w2 := (Chg.of_same hb0 _).trans hk2 (fun _ _ e => .inr e)
  have hfi := cfirst_any c nb P (S + 1) S _ _ w2 hC2 (by omega) hjN
  rw [updL_at] at hfi
  have hc2 := hB2.cell
  have l2 := hB2.lt
  clear hb0 q0 q1 hB1 hT1 hC1 hc hwh hdr hk2
  rw [he.out] at hfi
  unfold pairV headI at hfi
  go_wp2_with fail
  refine hfi.mono ?_
  rintro e w3 ⟨rfl, hx⟩
  have hB3 := hB2.below hx l2
  have hT3 := hT2.below hx hT2.lt
  have hC3 := hC2.below hx
  have q3 := q2.below hx q2.lt
  have hk3 : Chg (fun g => g = q ∨ g = nb) w w3 := hkb.trans (Chg.of_same hx (fun g => g = q ∨ g = nb)) (fun _ _ e => e)
  clear hfi hc2 l2 hx hB2 hT2 hC2 q2 hkb
  have hc3 := hB3.cell
  go_upto_region 9 with fail
  clear hc3
  have t0 := (hT3.cell _).trans (tmC_at P s.tm i hi)
  have t1 := (hT3.cell _).trans (tmC_seq P s.tm i hi)
  have t2 := (hT3.cell _).trans (tmC_place P s.tm i hi)
  have hqt : q ≠ tb := Blk.ne hB3 hT3 (by decide)
  have hc3 := hB3.cell
  have z3 := hB3.frozen
  have l3 := hB3.lt
  have q3c := q3.cell
  have q3z := q3.frozen
  have q3l := q3.lt
  have fin : ∀ w9 x0 x1 x2, w9 = (((w3.setCell ⟨q, 2, none⟩ (.int .i64 (n : Int))).setCell ⟨w.heap.size, 0, none⟩ x0).setCell ⟨w.heap.size, 1, none⟩ x1).setCell ⟨w.heap.size, 2, none⟩ x2 →
      (∃ b', HM w9 q tb c nb P S (s.del i S) b' lk) ∧ Chg (fun g => g = q ∨ g = nb) w w9 ∧ (∀ k, w9.cell? ⟨w.heap.size, k, none⟩ = (#[x0, x1, x2] : Array Value)[k]?) := by
    rintro w9 x0 x1 x2 rfl
    have hkk : Chg (fun g => g = q ∨ g = w.heap.size) w3 ((((w3.setCell ⟨q, 2, none⟩ (.int .i64 (n : Int))).setCell ⟨w.heap.size, 0, none⟩ x0).setCell ⟨w.heap.size, 1, none⟩ x1).setCell ⟨w.heap.size, 2, none⟩ x2) :=
      ((((Chg.refl _ w3).setCell (fun _ => .inl rfl) _).setCell (fun _ => .inr rfl) _).setCell (fun _ => .inr rfl) _).setCell (fun _ => .inr rfl) _
    have hne : q ≠ w.heap.size := by omega
    refine ⟨⟨b, ?_, ?_, ?_, ?_, ?_⟩, ?_, ?_⟩
    · rw [HN.out]
      exact (((hB3.put 2 _).far hne _).far hne _).far hne _
    · exact hT3.chg hkk (fun e => by rcases e with e | e <;> omega)
    · exact hC3.chg hkk (fun e => by rcases e with e | e <;> omega) (fun e => by rcases e with e | e <;> omega)
    · exact HB.out
    · exact HOK.out
    · exact hk3.trans (hkk.mono (S' := fun g => g = q ∨ g = w.heap.size) fun _ _ e => e) (fun k hk e => by rcases e with e | e; exact .inl e; omega)
    · exact (((((q3.far (by simp; omega) _).put 0 x0).put 1 x1).put 2 x2).cell)
  clear hT3 hB3 hC3 q3 hk3 HB HOK HN
  go_wp2_with fail
  obtain ⟨f1, f2, f3⟩ := fin _ _ _ _ rfl
  refine bodyPost_ret (v := teV (s.tm i) 0) (by simp [results, Tryz.results24, go_sem, teV, Timer.val, f3]) rfl ⟨rfl, f1, f2⟩
set_option maxRecDepth 100000 in
set_option maxHeartbeats 1000000 in
theorem hcan_drop (q tb c nb P S i j : Nat) (s : HSt) (b : Bits) (lk : Int) (w : World) (h : HM w q tb c nb P S s b lk) (z : HSz P S) (hi : i < P) (ho : s.inn i = some j) (he : Hid ((s.L j).erase i = [])) (hjS : j < S) :
    Calls Tryz.prog 24 #[.pointer (some ⟨q, 0, none⟩), .int .i64 i] w fun e w' => e = .returned (teV (s.tm i) 0) ∧ (∃ b', HM w' q tb c nb P S (s.del i j) b' lk) ∧ Chg (fun g => g = q ∨ g = nb) w w' := by
  have HB := Lib.hid (busy_drop_yes h.busy z.hS2 he.out hjS)
  have hbok := h.busy.ok
  obtain ⟨hjN, him⟩ := h.ok.out i hi j ho
  have HOK := Lib.hid (h.ok.del hi ho)
  have hN := pend_del_len (P := P) hi ho
  have hBB := h.busy
  have hB0 := h.blk
  rw [hN] at hB0
  generalize hNe : ((s.del i j).pend P).length = n at *
  have HN := Lib.hid hNe
  have hnP : n ≤ P := by
    rw [← hNe]
    exact pendL_le _ _ _
  clear hNe hN
  have hcq := h.qc
  have htc := h.tc
  have hqn := h.qnb
  have htn := h.tnb
  have hP := z.hP
  have hS := z.hS
  have hS2 := z.hS2
  have hb0 : Below w.heap.size w (w.alloc (.cells #[.int .u64 0, .int .u64 0, .int .i64 0] 37)) := (Below.refl _ _).alloc (Nat.le_refl _) _
  have q0 : Blk (w.alloc (.cells #[.int .u64 0, .int .u64 0, .int .i64 0] 37)) w.heap.size 37 #[.int .u64 0, .int .u64 0, .int .i64 0] := Blk.new _ _ _
  obtain ⟨hqw, htw, hcw, hnw⟩ := h.lts
  have hB1 := hB0.below hb0 hB0.lt
  have hT1 := h.tms.below hb0 h.tms.lt
  have hC1 := h.ch.below hb0
  clear h hB0
  have hc := hB1.cell
  have hwh := cwhich_any c nb P (S + 1) s.inn s.L i _ hC1 (by omega)
  have hwo : whichO P s.inn i = some ((j : Nat) : Int) := by simp [whichO, cin_of hi, ho]
  rw [hwo] at hwh
  unfold pairV at hwh
  have hdr := cdrop_ok c nb P (S + 1) i j s.inn s.L _ hC1 (by omega) hi ho
  have q1 := q0.lt
  clear hwo
  go_enter Tryz.func24, Tryz.ntmps24
  go_wp2_with (go_at_call 40; refine hwh.mono ?_; rintro e w' ⟨rfl, rfl⟩)
  refine hdr.mono ?_
  rintro e w2 ⟨rfl, hC2, hk2⟩
  have hB2 := hB1.chg hk2 hqn
  have hT2 := hT1.chg hk2 htn
  have q2 := q0.chg hk2 (by omega)
  have hkb : Chg (fun g => g = q ∨ g = nb) w w2 := (Chg.of_same hb0 _).trans hk2 (fun _ _ e => .inr e)
  have hfi := cfirst_any c nb P (S + 1) j _ _ w2 hC2 (by omega) hjN
  rw [updL_at] at hfi
  have hc2 := hB2.cell
  have l2 := hB2.lt
  clear hb0 q0 q1 hB1 hT1 hC1 hc hwh hdr hk2
  rw [he.out] at hfi
  unfold pairV headI at hfi
  go_wp2_with fail
  refine hfi.mono ?_
  rintro e w3 ⟨rfl, hx⟩
  have hB3 := hB2.below hx l2
  have hT3 := hT2.below hx hT2.lt
  have hC3 := hC2.below hx
  have q3 := q2.below hx q2.lt
  have hk3 : Chg (fun g => g = q ∨ g = nb) w w3 := hkb.trans (Chg.of_same hx (fun g => g = q ∨ g = nb)) (fun _ _ e => e)
  clear hfi hc2 l2 hx hB2 hT2 hC2 q2 hkb
  have hjd : (j : Int) < (S : Int) := by omega
  have hc3 := hB3.cell
  have hdp := drop_any b j w3 hbok
  unfold Bits.val at hdp
  go_upto_region 9 with (go_at_call 49; refine hdp.mono ?_; rintro e w4 ⟨rfl, hx4⟩; have hc4 := (hB3.below hx4 hB3.lt).cell; have hz4 := (hB3.below hx4 hB3.lt).frozen; have hl4 := (hB3.below hx4 hB3.lt).lt)
  clear hc4 hz4 hl4 hc3 hdp
  have gB := hB3.below hx4 hB3.lt
  have gT := hT3.below hx4 hT3.lt
  have g3 := q3.below hx4 q3.lt
  have gC := hC3.below hx4
  have gk : Chg (fun g => g = q ∨ g = nb) w w4 := hk3.trans (Chg.of_same hx4 (fun g => g = q ∨ g = nb)) (fun _ _ e => e)
  obtain ⟨wa, hwa, kB, hka⟩ := putq gB (b.drop (j : Int))
  rw [← hwa]
  have kT : Blk wa tb 37 (tmC P s.tm) := gT.chg hka (fun e => gB.ne gT (by decide) e.symm)
  have k3 := g3.chg hka (by omega)
  have kC := gC.chg hka (by omega) (by omega)
  have kk := gk.trans hka (fun _ _ e => .inl e)
  clear hwa hka gB gT g3 gC gk hx4 hB3 hT3 q3 hC3 hk3
  clear w4 w3
  generalize wa = w3 at *
  have hB3 := kB
  have hT3 := kT
  have q3 := k3
  have hC3 := kC
  have hk3 := kk
  clear kB kT k3 kC kk
  have t0 := (hT3.cell _).trans (tmC_at P s.tm i hi)
  have t1 := (hT3.cell _).trans (tmC_seq P s.tm i hi)
  have t2 := (hT3.cell _).trans (tmC_place P s.tm i hi)
  have hqt : q ≠ tb := Blk.ne hB3 hT3 (by decide)
  have hc3 := hB3.cell
  have z3 := hB3.frozen
  have l3 := hB3.lt
  have q3c := q3.cell
  have q3z := q3.frozen
  have q3l := q3.lt
  have fin : ∀ w9 x0 x1 x2, w9 = (((w3.setCell ⟨q, 2, none⟩ (.int .i64 (n : Int))).setCell ⟨w.heap.size, 0, none⟩ x0).setCell ⟨w.heap.size, 1, none⟩ x1).setCell ⟨w.heap.size, 2, none⟩ x2 →
      (∃ b', HM w9 q tb c nb P S (s.del i j) b' lk) ∧ Chg (fun g => g = q ∨ g = nb) w w9 ∧ (∀ k, w9.cell? ⟨w.heap.size, k, none⟩ = (#[x0, x1, x2] : Array Value)[k]?) := by
    rintro w9 x0 x1 x2 rfl
    have hkk : Chg (fun g => g = q ∨ g = w.heap.size) w3 ((((w3.setCell ⟨q, 2, none⟩ (.int .i64 (n : Int))).setCell ⟨w.heap.size, 0, none⟩ x0).setCell ⟨w.heap.size, 1, none⟩ x1).setCell ⟨w.heap.size, 2, none⟩ x2) :=
      ((((Chg.refl _ w3).setCell (fun _ => .inl rfl) _).setCell (fun _ => .inr rfl) _).setCell (fun _ => .inr rfl) _).setCell (fun _ => .inr rfl) _
    have hne : q ≠ w.heap.size := by omega
    refine ⟨⟨b.drop (j : Int), ?_, ?_, ?_, ?_, ?_⟩, ?_, ?_⟩
    · rw [HN.out]
      exact (((hB3.put 2 _).far hne _).far hne _).far hne _
    · exact hT3.chg hkk (fun e => by rcases e with e | e <;> omega)
    · exact hC3.chg hkk (fun e => by rcases e with e | e <;> omega) (fun e => by rcases e with e | e <;> omega)
    · exact HB.out
    · exact HOK.out
    · exact hk3.trans (hkk.mono (S' := fun g => g = q ∨ g = w.heap.size) fun _ _ e => e) (fun k hk e => by rcases e with e | e; exact .inl e; omega)
    · exact (((((q3.far (by simp; omega) _).put 0 x0).put 1 x1).put 2 x2).cell)
  clear hT3 hB3 hC3 q3 hk3 HB HOK HN
  go_wp2_with fail
  obtain ⟨f1, f2, f3⟩ := fin _ _ _ _ rfl
  refine bodyPost_ret (v := teV (s.tm i) 0) (by simp [results, Tryz.results24, go_sem, teV, Timer.val, f3]) rfl ⟨rfl, f1, f2⟩
theorem hcan_ok (q tb c nb P S i j : Nat) (s : HSt) (b : Bits) (lk : Int) (w : World) (h : HM w q tb c nb P S s b lk) (z : HSz P S) (hi : i < P) (ho : s.inn i = some j) :
    Calls Tryz.prog 24 #[.pointer (some ⟨q, 0, none⟩), .int .i64 i] w fun e w' => e = .returned (teV (s.tm i) 0) ∧ (∃ b', HM w' q tb c nb P S (s.del i j) b' lk) ∧ Chg (fun g => g = q ∨ g = nb) w w' := by
  cases he : (s.L j).erase i with
  | cons a r => exact hcan_stay q tb c nb P S i j s b lk w h z hi ho a r (Lib.hid he)
  | nil =>
    have hjN := (h.ok.out i hi j ho).1
    by_cases hjS : j < S
    · exact hcan_drop q tb c nb P S i j s b lk w h z hi ho (Lib.hid he) hjS
    · obtain rfl : S = j := by omega
      exact hcan_ready q tb c nb P S i s b lk w h z hi ho (Lib.hid he)
end Go.Proofs.YtckkfbepclogcaaGreatDoor
namespace Go.Proofs.YtckkfbepclogcaaGreatDoor
open Go.RowKit
/-- The wheel at q: m is what pends, in order. -/
structure HQ (w : World) (q tb c nb P S : Nat) (base lk : Int) (m : List Timer) : Prop where
  ex : ∃ s b, HM w q tb c nb P S s b lk ∧ PRel P s.on s.tm m ∧ s.base = base
section
variable {w w' : World} {q tb c nb P S : Nat} {base lk : Int} {m : List Timer}
theorem HQ.below (h : HQ w q tb c nb P S base lk m) (k : Below w.heap.size w w') : HQ w' q tb c nb P S base lk m := by
  obtain ⟨s, b, h1, h2, h3⟩ := h.ex
  exact ⟨s, b, h1.below k, h2, h3⟩
theorem HQ.drew (h : HQ w q tb c nb P S base lk m) : HQ w.drew q tb c nb P S base lk m := by
  obtain ⟨s, b, h1, h2, h3⟩ := h.ex
  exact ⟨s, b, h1.drew, h2, h3⟩
theorem HQ.len (h : HQ w q tb c nb P S base lk m) : m.length ≤ P := by
  obtain ⟨s, b, h1, h2, h3⟩ := h.ex
  exact h2.len_le
theorem HQ.lts (h : HQ w q tb c nb P S base lk m) : q < w.heap.size ∧ tb < w.heap.size ∧ c < w.heap.size ∧ nb < w.heap.size := by
  obtain ⟨s, b, h1, h2, h3⟩ := h.ex
  exact h1.lts
end
/-- What a call upon the wheel may change. -/
def HS (q tb nb : Nat) : Nat → Prop := fun g => g = q ∨ g = tb ∨ g = nb
/-- A tick. -/
def U64 (x : Int) : Prop := 0 ≤ x ∧ x ≤ 18446744073709551615
theorem cin_out {P : Nat} {p : Int} (h : p < 0 ∨ (P : Int) ≤ p) : cin P p = false := by
  unfold cin
  rcases h with h | h
  · rw [decide_eq_false (by omega)]; rfl
  · rw [decide_eq_false (show ¬ p < (P : Int) by omega), Bool.and_false]
theorem hq_ins (q tb c nb P S : Nat) (base lk : Int) (m : List Timer) (t : Timer) (w : World) (h : HQ w q tb c nb P S base lk m) (z : HSz P S) (hb : U64 base) (ht : U64 t.at_) :
    Calls Tryz.prog 23 #[.pointer (some ⟨q, 0, none⟩), t.val] w fun e w' => e = .returned (.int .i64 (insC P m t)) ∧ HQ w' q tb c nb P S base lk (insL P m t) ∧ Chg (HS q tb nb) w w' := by
  obtain ⟨s, b, hm, hp, rfl⟩ := h.ex
  have hC := hp.insC t
  have a : InsAt P S s t (slotOf S s.base t) := ⟨ht.1, ht.2, hb.1, hb.2, rfl⟩
  by_cases ho : t.place < 0 ∨ (P : Int) ≤ t.place
  · rw [if_pos ho] at hC
    have hL : insL P m t = m := by unfold insL; rw [hC]; rfl
    rw [hC, hL]
    refine (hins_bad q tb c nb P S s b lk t w hm z _ a (cin_out ho)).mono ?_
    rintro e w' ⟨rfl, hx⟩
    exact ⟨rfl, h.below hx, Chg.of_same hx _⟩
  · rw [if_neg ho] at hC
    obtain ⟨i, hi⟩ : ∃ i : Nat, t.place = i := ⟨t.place.toNat, by omega⟩
    have hiP : i < P := by omega
    rw [hi, Int.toNat_natCast] at hC
    cases hj : s.inn i with
    | some k =>
      rw [if_pos (HSt.on_some hj)] at hC
      have hL : insL P m t = m := by unfold insL; rw [hC]; rfl
      rw [hC, hL]
      refine (hins_twice q tb c nb P S s b lk t w hm z _ a i k hiP (Lib.hid hi) hj).mono ?_
      rintro e w' ⟨rfl, hx⟩
      exact ⟨rfl, h.below hx, Chg.of_same hx _⟩
    | none =>
      rw [if_neg (by rw [HSt.on_none hj]; simp)] at hC
      have hL : insL P m t = putL m t := by unfold insL; rw [hC]; rfl
      rw [hC, hL]
      refine (hins_ok q tb c nb P S s b lk t w hm z _ a i hiP (Lib.hid hi) hj).mono ?_
      rintro e w' ⟨rfl, ⟨b', hm'⟩, hx⟩
      refine ⟨rfl, ⟨_, b', hm', ?_, rfl⟩, hx⟩
      rw [HSt.on_ins]
      exact hp.put hiP (HSt.on_none hj) hi
theorem hq_can (q tb c nb P S : Nat) (base lk : Int) (m : List Timer) (p : Int) (w : World) (h : HQ w q tb c nb P S base lk m) (z : HSz P S) :
    Calls Tryz.prog 24 #[.pointer (some ⟨q, 0, none⟩), .int .i64 p] w fun e w' => e = .returned (teV (canT P m p) (canC P m p)) ∧ HQ w' q tb c nb P S base lk (canL P m p) ∧ Chg (HS q tb nb) w w' := by
  obtain ⟨s, b, hm, hp, rfl⟩ := h.ex
  have hC := hp.canC p
  by_cases ho : p < 0 ∨ (P : Int) ≤ p
  · rw [if_pos ho] at hC
    have hL : canL P m p = m := by unfold canL; rw [hC]; rfl
    have hT : canT P m p = Timer.zero := by unfold canT; rw [hC]; rfl
    rw [hC, hL, hT]
    refine (hcan_bad q tb c nb P S s b lk w hm z p (cin_out ho)).mono ?_
    rintro e w' ⟨rfl, hx⟩
    exact ⟨rfl, h.below hx, Chg.of_same hx _⟩
  · rw [if_neg ho] at hC
    obtain ⟨i, rfl⟩ : ∃ i : Nat, p = i := ⟨p.toNat, by omega⟩
    have hiP : i < P := by omega
    rw [Int.toNat_natCast] at hC
    cases hj : s.inn i with
    | none =>
      rw [if_neg (by rw [HSt.on_none hj]; simp)] at hC
      have hL : canL P m i = m := by unfold canL; rw [hC]; rfl
      have hT : canT P m i = Timer.zero := by unfold canT; rw [hC]; rfl
      rw [hC, hL, hT]
      refine (hcan_none q tb c nb P S s b lk w hm z i hiP hj).mono ?_
      rintro e w' ⟨rfl, hx⟩
      exact ⟨rfl, h.below hx, Chg.of_same hx _⟩
    | some j =>
      have hon := HSt.on_some hj
      rw [if_pos hon] at hC
      have hL : canL P m i = withoutL m i := by unfold canL; rw [hC]; rfl
      rw [hC, hL, hp.canT hiP hon]
      refine (hcan_ok q tb c nb P S i j s b lk w hm z hiP hj).mono ?_
      rintro e w' ⟨rfl, ⟨b', hm'⟩, hx⟩
      refine ⟨rfl, ⟨_, b', hm', ?_, rfl⟩, hx.mono fun k _ e => ?_⟩
      · rw [HSt.on_del]
        exact hp.without hiP hon
      · rcases e with e | e
        · exact .inl e
        · exact .inr (.inr e)
theorem hq_get (q tb c nb P S : Nat) (base lk : Int) (m : List Timer) (p : Int) (w : World) (h : HQ w q tb c nb P S base lk m) (z : HSz P S) :
    Calls Tryz.prog 77 #[.pointer (some ⟨q, 0, none⟩), .int .i64 p] w fun e w' => e = .returned (pairT (getL m p)) ∧ Below w.heap.size w w' := by
  obtain ⟨s, b, hm, hp, rfl⟩ := h.ex
  rw [hp.get]
  exact hget_any q tb c nb P S s b lk p w hm z
theorem hq_len (q tb c nb P S : Nat) (base lk : Int) (m : List Timer) (w : World) (h : HQ w q tb c nb P S base lk m) :
    Calls Tryz.prog 29 #[.pointer (some ⟨q, 0, none⟩)] w fun e w' => e = .returned (.int .i64 m.length) ∧ w = w' := by
  obtain ⟨s, b, hm, hp, rfl⟩ := h.ex
  rw [hp.len]
  exact hlen_any q tb c nb P S s b lk w hm
set_option maxRecDepth 100000 in
set_option maxHeartbeats 1000000 in
theorem hq_mov (q tb c nb P S : Nat) (base lk : Int) (m : List Timer) (t : Timer) (w : World) (h : HQ w q tb c nb P S base lk m) (z : HSz P S) (hb : U64 base) (ht : U64 t.at_) :
    Calls Tryz.prog 25 #[.pointer (some ⟨q, 0, none⟩), t.val] w fun e w' => e = .returned (.int .i64 (movC P m t)) ∧ HQ w' q tb c nb P S base lk (movL P m t) ∧ Chg (HS q tb nb) w w' := by
  have hb0 : Below w.heap.size w (w.alloc (.cells #[.int .u64 t.at_, .int .u64 t.seq, .int .i64 t.place] 37)) := (Below.refl _ _).alloc (Nat.le_refl _) _
  have h1 := h.below hb0
  have q0 : Blk (w.alloc (.cells #[.int .u64 t.at_, .int .u64 t.seq, .int .i64 t.place] 37)) w.heap.size 37 #[.int .u64 t.at_, .int .u64 t.seq, .int .i64 t.place] := Blk.new _ _ _
  have hcan := hq_can q tb c nb P S base lk m t.place _ h1 z
  obtain ⟨l0, l1, l2, l3⟩ := h.lts
  have hout : ¬ HS q tb nb w.heap.size := by unfold HS; omega
  have hins := fun (w' : World) (k : HQ w' q tb c nb P S base lk (withoutL m t.place)) => hq_ins q tb c nb P S base lk (withoutL m t.place) t w' k z hb ht
  unfold Timer.val at hins
  clear h h1
  unfold Timer.val
  go_enter Tryz.func25, Tryz.ntmps25
  go_wp2_with fail
  refine hcan.mono ?_
  rintro e w1 ⟨rfl, hq1, hk1⟩
  have q1 := q0.chg hk1 hout
  have hkb : Chg (HS q tb nb) w w1 := (Chg.of_same hb0 _).trans hk1 (fun _ _ e => e)
  have hc1 := q1.cell
  clear hcan q0 hb0 hk1
  unfold teV Timer.val
  by_cases hz : canC P m t.place = 0
  · have hMC := Lib.hid (show movC P m t = insC P (withoutL m t.place) t by unfold movC; rw [if_pos hz])
    have hML := Lib.hid (show movL P m t = insL P (withoutL m t.place) t by unfold movL; rw [if_pos hz])
    have hCL : canL P m t.place = withoutL m t.place := by unfold canL; rw [if_pos hz]
    rw [hCL] at hq1
    rw [hz]
    clear hz hCL
    generalize canT P m t.place = x at *
    have hx := (hq1.lts).1
    have hin := hins _ (hq1.below ((Below.refl w1.heap.size w1).alloc (Nat.le_refl _) (.cells #[.int .u64 x.at_, .int .u64 x.seq, .int .i64 x.place] 37)))
    have hkc : Chg (HS q tb nb) w (w1.alloc (.cells #[.int .u64 x.at_, .int .u64 x.seq, .int .i64 x.place] 37)) := hkb.alloc _
    have l4 := q1.lt
    clear hins
    go_wp2_with fail
    refine hin.mono ?_
    rintro e w2 ⟨rfl, hq2, hk2⟩
    go_wp2_with fail
    go_ret
    exact ⟨by rw [hMC.out]; rfl, by rw [hML.out]; exact hq2, hkc.trans hk2 (fun _ _ e => e)⟩
  · have hMC := Lib.hid (show movC P m t = canC P m t.place by unfold movC; rw [if_neg hz])
    have hML := Lib.hid (show movL P m t = m by unfold movL; rw [if_neg hz])
    have hCL : canL P m t.place = m := by unfold canL; rw [if_neg hz]
    rw [hCL] at hq1
    have hz2 : (canC P m t.place != 0) = true := by rw [bne_iff_ne]; exact hz
    generalize canT P m t.place = x at *
    generalize canC P m t.place = k at *
    have HK : Hid (Chg (HS q tb nb) w (w1.alloc (.cells #[.int .u64 x.at_, .int .u64 x.seq, .int .i64 x.place] 37))) := Lib.hid (hkb.alloc _)
    have HQ2 := Lib.hid (hq1.below ((Below.refl w1.heap.size w1).alloc (Nat.le_refl _) (.cells #[.int .u64 x.at_, .int .u64 x.seq, .int .i64 x.place] 37)))
    clear hins hz hCL hq1 hkb
    go_wp2_with fail
    go_ret
    exact ⟨by rw [hMC.out]; rfl, by rw [hML.out]; exact HQ2.out, HK.out⟩
end Go.Proofs.YtckkfbepclogcaaGreatDoor
