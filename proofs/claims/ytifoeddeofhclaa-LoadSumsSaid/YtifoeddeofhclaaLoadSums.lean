/- Layer 14 (load): the law LoadSums: what is noted in all is what was noted in the windows that were closed, and in the open one. -/
import Derived.Test.YtifoeddeofhclaaLoadPlays
import Derived.Deep.QuietTactic
import Derived.BigQuiet
namespace Go.Proofs.Ytifoeddeofhclaa
open Go.RowKit
theorem step_close (S : LS) (x : Note) (h : (S.step x).windows ≠ S.windows) : (S.step x).windows = S.windows + 1 ∧ (S.step x).notes = 0 ∧
    S.t0 - S.o0 + (S.step x).l0 = (S.step x).t0 - (S.step x).o0 ∧ S.t1 - S.o1 + (S.step x).l1 = (S.step x).t1 - (S.step x).o1 ∧ S.t2 - S.o2 + (S.step x).l2 = (S.step x).t2 - (S.step x).o2 ∧ S.t3 - S.o3 + (S.step x).l3 = (S.step x).t3 - (S.step x).o3 := by
  unfold LS.step at h ⊢
  by_cases hw : x.wrong = 0
  · rw [if_pos hw] at h ⊢
    by_cases hn : S.notes + 1 = 32
    · rw [if_pos hn]
      refine ⟨rfl, rfl, ?_, ?_, ?_, ?_⟩ <;> simp only [LS.close, LS.add] <;> split <;> omega
    · rw [if_neg hn] at h
      exact absurd rfl h
  · rw [if_neg hw] at h
    exact absurd rfl h
theorem step_stay (S : LS) (x : Note) (h : (S.step x).windows = S.windows) :
    (S.step x).t0 - (S.step x).o0 = S.t0 - S.o0 ∧ (S.step x).t1 - (S.step x).o1 = S.t1 - S.o1 ∧ (S.step x).t2 - (S.step x).o2 = S.t2 - S.o2 ∧ (S.step x).t3 - (S.step x).o3 = S.t3 - S.o3 := by
  unfold LS.step at h ⊢
  by_cases hw : x.wrong = 0
  · rw [if_pos hw] at h ⊢
    by_cases hn : S.notes + 1 = 32
    · rw [if_pos hn] at h
      simp only [LS.close, LS.add] at h
      omega
    · rw [if_neg hn]
      refine ⟨?_, ?_, ?_, ?_⟩ <;> simp only [LS.add] <;> split <;> omega
  · rw [if_neg hw]
    exact ⟨rfl, rfl, rfl, rfl⟩
def LS.allc (S : LS) : Array Value := #[.int .i64 (S.t0 - S.o0), .int .i64 (S.t1 - S.o1), .int .i64 (S.t2 - S.o2), .int .i64 (S.t3 - S.o3), .int .i64 0]
set_option maxHeartbeats 4000000 in
set_option maxRecDepth 100000 in
theorem sums_walk (A : Option Addr) (l : List Note) (cap : Nat) (w : World) (h : NotesIn w A l cap) :
    Calls Try.prog 4 #[.slice A l.length cap] w fun e w' => e = .returned (.bool true) ∧ Below w.heap.size w w' := by
  obtain ⟨hN, hc, hc1, hr⟩ := h
  by_cases hlong : 150 < l.length
  · go_enter Try.func4, Try.ntmps4
    go_wp2_with fail
    refine (works w).mono ?_
    rintro e w1 ⟨rfl, hb1⟩
    go_wp2_with fail
    go_ret
    exact ⟨rfl, hb1⟩
  · go_enter Try.func4, Try.ntmps4
    go_wp2_with fail
    refine (works w).mono ?_
    rintro e w1 ⟨rfl, hb1⟩
    go_wp2_with fail
    refine (new_any w1).mono ?_
    rintro e w2 ⟨rfl, hL2, g2, z2⟩
    have hbx := hb1.size
    generalize hbx0 : w1.heap.size = bx at *
    have HB := Lib.hid hbx0
    clear hbx0
    have g3 : Below w.heap.size w w2 := hb1.trans (Chg.to_below (g2.mono (fun _ _ h => h.elim) (S' := fun k => w.heap.size ≤ k)) (Nat.le_trans hbx (Nat.le_of_eq HB.out.symm)))
    have hba : bx < w2.heap.size := hL2.lt
    clear z2
    go_wp2_with fail
    have hK2 := Blk.new w2 33 #[.int .i64 0, .int .i64 0, .int .i64 0, .int .i64 0, .int .i64 0]
    have hL3 := hL2.alloc (.cells #[.int .i64 0, .int .i64 0, .int .i64 0, .int .i64 0, .int .i64 0] 33)
    have g4 := g3.alloc g3.size (.cells #[.int .i64 0, .int .i64 0, .int .i64 0, .int .i64 0, .int .i64 0] 33)
    clear g2 g3 hL2 hb1
    generalize w2.heap.size = ba at *
    go_loopw [6, 7] (fun n i wr => ∃ k : Nat, k ≤ l.length ∧ i = .int .i64 k ∧ n = .int .i64 (LS.after (l.take k)).windows ∧ LoadAt wr bx (LS.after (l.take k)) ∧ Blk wr ba 33 (LS.after (l.take k)).allc ∧ Below w.heap.size w wr) (fun _ i _ => l.length - (intOf i).toNat)
    case atStart => exact ⟨0, Nat.zero_le _, rfl, rfl, hL3, hK2, g4⟩
    case round =>
      obtain ⟨k, hk, rfl, rfl, hL, hA, hb⟩ := hrel
      clear hL3 hK2 g4
      have hOk := after_ok (l.take k)
      have hbw := hb.size
      by_cases hlt : k < l.length
      · obtain ⟨b, o, rfl, hbb, c0, c1, c2⟩ := (hN.below hb) k hlt
        have hst := after_take l k hlt
        have hOk2 := after_ok (l.take (k + 1))
        generalize LS.after (l.take k) = S at *
        generalize hS2 : LS.after (l.take (k + 1)) = S' at *
        have HS2' := Lib.hid hS2
        clear hS2
        have HST := Lib.hid hst
        clear hst
        go_wp2_with fail
        refine still_tail 16 (by kernel_rfl) (by kernel_rfl) ?_
        simp only [List.take_succ_cons, List.take_zero, List.drop_succ_cons, List.drop_zero]
        repeat still_step
        refine wpStill_nil ?_
        go_wp2_with fail
        refine (note_any bx S l[k] wr.drew hL.drew (hOk.mono (by simp; omega))).mono ?_
        rw [← HST.out]
        rintro e w5 ⟨rfl, hL5, g5⟩
        have hA5 := Blk.chg hA.drew g5 (by omega)
        have hb5 : Below w.heap.size w w5 := hb.drew.trans (Chg.to_below (g5.mono (fun _ _ h => by omega) (S' := fun k => w.heap.size ≤ k)) (hb.drew.size))
        clear hL hb g5 c0 c1 c2 hA
        go_wp2_with fail
        refine (windows_any bx S' w5 hL5).mono ?_
        rintro e w6 ⟨rfl, rfl⟩
        by_cases hcl : S'.windows = S.windows
        · have hs := step_stay S l[k] (by rw [← HST.out]; exact hcl)
          rw [← HST.out] at hs
          have hAl : S'.allc = S.allc := by unfold LS.allc; rw [hs.1, hs.2.1, hs.2.2.1, hs.2.2.2]
          rw [hcl]
          have HCL := Lib.hid hcl
          clear hcl hs
          go_wp2_with fail
          go_roundw
          case rel => exact ⟨k + 1, by omega, by go_num, by rw [HS2'.out, HCL.out], by rw [HS2'.out]; exact hL5, by rw [HS2'.out, hAl]; exact hA5, hb5⟩
          case measure => simp [intOf]; omega
        · have hs := step_close S l[k] (by rw [← HST.out]; exact hcl)
          rw [← HST.out] at hs
          obtain ⟨hs0, hs1, hs2, hs3, hs4, hs5⟩ := hs
          rw [hs0]
          have HS0 := Lib.hid hs0
          have HS1 := Lib.hid hs1
          have HS2 := Lib.hid hs2
          have HS3 := Lib.hid hs3
          have HS4 := Lib.hid hs4
          have HS5 := Lib.hid hs5
          clear hs0 hs1 hs2 hs3 hs4 hs5 hcl
          have hw0 : 0 ≤ S.windows ∧ S.windows ≤ 1000000 := by have := hOk.windows; simp at this; omega
          go_wp2_with fail
          refine (last_any bx S' w5 hL5).mono ?_
          rw [show decide (0 < S'.windows) = true from by rw [HS0.out]; simp; omega]
          rintro e w6 ⟨rfl, hb6⟩
          have hL6 := hL5.below hb6 hL5.lt
          have hA6 := hA5.below hb6 hA5.lt
          have hb7 := hb5.trans (hb6.mono hb5.size)
          clear hL5 hA5 hb5 hb6
          go_wp2_with fail
          have hL7 := hL6.alloc (.cells #[.int .i64 S'.l0, .int .i64 S'.l1, .int .i64 S'.l2, .int .i64 S'.l3, .int .i64 S'.l4] 33)
          have hA7 := hA6.alloc (.cells #[.int .i64 S'.l0, .int .i64 S'.l1, .int .i64 S'.l2, .int .i64 S'.l3, .int .i64 S'.l4] 33)
          have hK7 := Blk.new w6 33 #[.int .i64 S'.l0, .int .i64 S'.l1, .int .i64 S'.l2, .int .i64 S'.l3, .int .i64 S'.l4]
          have hb8 := hb7.alloc hb7.size (.cells #[.int .i64 S'.l0, .int .i64 S'.l1, .int .i64 S'.l2, .int .i64 S'.l3, .int .i64 S'.l4] 33)
          have hz7 := hA6.lt
          clear hL6 hA6 hb7
          generalize (w6.alloc (.cells #[.int .i64 S'.l0, .int .i64 S'.l1, .int .i64 S'.l2, .int .i64 S'.l3, .int .i64 S'.l4] 33)) = w7 at *
          generalize w6.heap.size = bt at *
          refine (windows_any bx S' w7 hL7).mono ?_
          rw [HS0.out]
          rintro e w8 ⟨rfl, rfl⟩
          go_wp2_with fail
          refine (notes_any bx S' w7 hL7).mono ?_
          rw [HS1.out]
          rintro e w8 ⟨rfl, rfl⟩
          have hcA := hA7.cell
          have hzA := hA7.frozen
          have hcT := hK7.cell
          unfold LS.allc at hcA
          have x0 := hOk.o0; have x1 := hOk.o1; have x2 := hOk.o2; have x3 := hOk.o3
          have y0 := hOk.t0; have y1 := hOk.t1; have y2 := hOk.t2; have y3 := hOk.t3
          have u0 := HS2.out; have u1 := HS3.out; have u2 := HS4.out; have u3 := HS5.out
          have v0 := hOk2.o0; have v1 := hOk2.o1; have v2 := hOk2.o2; have v3 := hOk2.o3
          have z0 := hOk2.t0; have z1 := hOk2.t1; have z2 := hOk2.t2; have z3 := hOk2.t3
          have hle : (l.take k).length ≤ 150 := by simp; omega
          have hle2 : (l.take (k + 1)).length ≤ 150 := by simp; omega
          have r0 : -1000000 ≤ S.t0 - S.o0 + S'.l0 ∧ S.t0 - S.o0 + S'.l0 ≤ 1000000 := by omega
          have r1 : -1000000 ≤ S.t1 - S.o1 + S'.l1 ∧ S.t1 - S.o1 + S'.l1 ≤ 1000000 := by omega
          have r2 : -1000000 ≤ S.t2 - S.o2 + S'.l2 ∧ S.t2 - S.o2 + S'.l2 ≤ 1000000 := by omega
          have r3 : -1000000 ≤ S.t3 - S.o3 + S'.l3 ∧ S.t3 - S.o3 + S'.l3 ≤ 1000000 := by omega
          clear x0 x1 x2 x3 y0 y1 y2 y3 u0 u1 u2 u3 v0 v1 v2 v3 z0 z1 z2 z3
          go_wp2_with fail
          go_roundw
          case rel =>
            refine ⟨k + 1, by omega, by go_num, by rw [HS2'.out, HS0.out], ?_, ?_, ?_⟩
            · rw [HS2'.out]
              exact ((((hL7.far (by simp; omega) _).far (by simp; omega) _).far (by simp; omega) _).far (by simp; omega) _).far (by simp; omega) _
            · rw [HS2'.out]
              have hfin := ((((hA7.put 0 (.int .i64 (S.t0 - S.o0 + S'.l0))).put 1 (.int .i64 (S.t1 - S.o1 + S'.l1))).put 2 (.int .i64 (S.t2 - S.o2 + S'.l2))).put 3 (.int .i64 (S.t3 - S.o3 + S'.l3))).put 4 (.int .i64 0)
              have e : ((((S.allc.setIfInBounds 0 (.int .i64 (S.t0 - S.o0 + S'.l0))).setIfInBounds 1 (.int .i64 (S.t1 - S.o1 + S'.l1))).setIfInBounds 2 (.int .i64 (S.t2 - S.o2 + S'.l2))).setIfInBounds 3 (.int .i64 (S.t3 - S.o3 + S'.l3))).setIfInBounds 4 (.int .i64 0) = S'.allc := by
                rw [HS2.out, HS3.out, HS4.out, HS5.out]; rfl
              rw [e] at hfin
              exact hfin
            · exact ((((hb8.setCell (by simp; omega) _).setCell (by simp; omega) _).setCell (by simp; omega) _).setCell (by simp; omega) _).setCell (by simp; omega) _
          case measure => simp [intOf]; omega
      · have ht : l.take k = l := List.take_of_length_le (by omega)
        rw [ht] at hL hA hOk
        rw [ht]
        clear ht
        generalize LS.after l = S at *
        go_wp2_with fail
        refine (open_any bx S wr hL).mono ?_
        rintro e w6 ⟨rfl, hb6⟩
        have hL6 := hL.below hb6 hL.lt
        have hA6 := hA.below hb6 hA.lt
        have hb7 := hb.trans (hb6.mono hb.size)
        clear hL hA hb hb6
        go_wp2_with fail
        have hL7 := hL6.alloc (.cells #[.int .i64 S.o0, .int .i64 S.o1, .int .i64 S.o2, .int .i64 S.o3, .int .i64 S.most] 33)
        have hA7 := hA6.alloc (.cells #[.int .i64 S.o0, .int .i64 S.o1, .int .i64 S.o2, .int .i64 S.o3, .int .i64 S.most] 33)
        have hK7 := Blk.new w6 33 #[.int .i64 S.o0, .int .i64 S.o1, .int .i64 S.o2, .int .i64 S.o3, .int .i64 S.most]
        have hb8 := hb7.alloc hb7.size (.cells #[.int .i64 S.o0, .int .i64 S.o1, .int .i64 S.o2, .int .i64 S.o3, .int .i64 S.most] 33)
        generalize (w6.alloc (.cells #[.int .i64 S.o0, .int .i64 S.o1, .int .i64 S.o2, .int .i64 S.o3, .int .i64 S.most] 33)) = w7 at *
        generalize w6.heap.size = bt at *
        have hcA := hA7.cell
        have hcT := hK7.cell
        unfold LS.allc at hcA
        have x0 := hOk.o0; have x1 := hOk.o1; have x2 := hOk.o2; have x3 := hOk.o3
        have y0 := hOk.t0; have y1 := hOk.t1; have y2 := hOk.t2; have y3 := hOk.t3
        have nn := hOk.notes
        have e0 : IntKind.i64.wrap S.t0 = S.t0 := IntWalk.i64_in _ (by omega)
        have e1 : IntKind.i64.wrap S.t1 = S.t1 := IntWalk.i64_in _ (by omega)
        have e2 : IntKind.i64.wrap S.t2 = S.t2 := IntWalk.i64_in _ (by omega)
        have e3 : IntKind.i64.wrap S.t3 = S.t3 := IntWalk.i64_in _ (by omega)
        refine still_all (by kernel_rfl) (by kernel_rfl) ?_
        still_step; still_step; still_step
        still_call (flip (v := .int .i64 S.t0) (totalOf_any bx S 0 _ hL7.drew))
        repeat still_step
        still_call (flip (v := .int .i64 S.t1) (totalOf_any bx S 1 _ hL7.drew))
        repeat still_step
        still_call (flip (v := .int .i64 S.t2) (totalOf_any bx S 2 _ hL7.drew))
        repeat still_step
        still_call (flip (v := .int .i64 S.t3) (totalOf_any bx S 3 _ hL7.drew))
        repeat still_step
        still_call (flip (notes_any bx S _ hL7.drew))
        repeat still_step
        refine wpStill_nil ?_
        go_wp2
        go_ret
        exact ⟨rfl, hb8.drew⟩
end Go.Proofs.Ytifoeddeofhclaa
