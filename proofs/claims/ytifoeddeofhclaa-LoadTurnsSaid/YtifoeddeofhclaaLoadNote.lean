/- Layer 14 (load): closing a window, and noting. -/
import Derived.Test.YtifoeddeofhclaaLoad
import Derived.Test.YtifoeddeofhclaaLoadRef
namespace Go.Proofs.Ytifoeddeofhclaa
open Go.RowKit
def LS.kept (S : LS) : LS := { S with l0 := S.o0, l1 := S.o1, l2 := S.o2, l3 := S.o3, l4 := S.most }
def LS.wipe (S : LS) (k : Nat) : LS := { S with o0 := if 0 < k then 0 else S.o0, o1 := if 1 < k then 0 else S.o1, o2 := if 2 < k then 0 else S.o2, o3 := if 3 < k then 0 else S.o3 }
def LS.close (S : LS) : LS := { S with l0 := S.o0, l1 := S.o1, l2 := S.o2, l3 := S.o3, l4 := S.most, o0 := 0, o1 := 0, o2 := 0, o3 := 0, most := 0, notes := 0, windows := S.windows + 1 }
theorem close_any (b : Nat) (S : LS) (w : World) (h : LoadAt w b S) (hw0 : 0 ≤ S.windows) (hw1 : S.windows ≤ 1000000) :
    Calls Try.prog 25 #[.pointer (some ⟨b, 0, none⟩)] w fun e w' => e = .returned (.tuple #[]) ∧ LoadAt w' b S.close ∧ Chg (fun k => k = b) w w' := by
  go_enter Try.func25, Try.ntmps25
  go_wp2_with fail
  refine (open_any b S w h).mono ?_
  rintro e w1 ⟨rfl, hb1⟩
  have h1 : LoadAt w1 b S := Blk.below h hb1 h.lt
  have hc := h1.cell
  have hz := h1.frozen
  have hlt := h1.lt
  have g1 : Chg (fun k => k = b) w w1 := Chg.of_same hb1 _
  unfold LS.cells at hc
  clear h hb1
  go_wp2_with fail
  go_loopw [2, 8] (fun _ i wr => ∃ k : Nat, k ≤ 4 ∧ i = .int .i64 k ∧ LoadAt wr b (S.kept.wipe k) ∧ Chg (fun k => k = b) w wr) (fun _ i _ => 4 - (intOf i).toNat)
  case atStart =>
    refine ⟨0, by omega, rfl, ?_, ?_⟩
    · exact (((((h1.put 11 _).put 12 _).put 13 _).put 14 _).put 15 _)
    · exact ((((((g1.setCell (fun _ => rfl) _).setCell (fun _ => rfl) _).setCell (fun _ => rfl) _).setCell (fun _ => rfl) _)).setCell (fun _ => rfl) _)
  case round =>
    obtain ⟨k, hk, rfl, hr, hg⟩ := hrel
    clear h1 hc hz g1
    have hc := hr.cell
    have hz := hr.frozen
    have hlt := hr.lt
    unfold LS.cells at hc
    have H : k = 0 ∨ k = 1 ∨ k = 2 ∨ k = 3 ∨ k = 4 := by omega
    rcases H with rfl | rfl | rfl | rfl | rfl
    · go_wp2_with (go_at_call 23; refine (astore b 0 _ 0 _ (hc 0) (hz 0)).mono ?_; rintro e w' ⟨rfl, rfl⟩)
      go_roundw
      case rel => exact ⟨1, by omega, rfl, hr.put 0 _, hg.setCell (fun _ => rfl) _⟩
      case measure => simp [intOf]
    · go_wp2_with (go_at_call 23; refine (astore b 1 _ 0 _ (hc 1) (hz 1)).mono ?_; rintro e w' ⟨rfl, rfl⟩)
      go_roundw
      case rel => exact ⟨2, by omega, rfl, hr.put 1 _, hg.setCell (fun _ => rfl) _⟩
      case measure => simp [intOf]
    · go_wp2_with (go_at_call 23; refine (astore b 2 _ 0 _ (hc 2) (hz 2)).mono ?_; rintro e w' ⟨rfl, rfl⟩)
      go_roundw
      case rel => exact ⟨3, by omega, rfl, hr.put 2 _, hg.setCell (fun _ => rfl) _⟩
      case measure => simp [intOf]
    · go_wp2_with (go_at_call 23; refine (astore b 3 _ 0 _ (hc 3) (hz 3)).mono ?_; rintro e w' ⟨rfl, rfl⟩)
      go_roundw
      case rel => exact ⟨4, by omega, rfl, hr.put 3 _, hg.setCell (fun _ => rfl) _⟩
      case measure => simp [intOf]
    · go_wp2_with fail
      refine (astore b 8 _ 0 _ (hc 8) (hz 8)).mono ?_
      rintro e w' ⟨rfl, rfl⟩
      go_wp2_with fail
      refine (astore b 9 (.int .i64 S.notes) 0 _ (by rw [World.cell?_setCell_other _ _ _ _ (by simp)]; exact hc 9) ((hr.put 8 _).frozen 9)).mono ?_
      rintro e w' ⟨rfl, rfl⟩
      go_wp2_with fail
      refine (aadd b 10 S.windows 1 _ (by rw [World.cell?_setCell_other _ _ _ _ (by simp), World.cell?_setCell_other _ _ _ _ (by simp)]; exact hc 10) (((hr.put 8 _).put 9 _).frozen 10) (by omega)).mono ?_
      rintro e w' ⟨rfl, rfl⟩
      go_wp2
      go_end0
      exact ⟨rfl, ((hr.put 8 _).put 9 _).put 10 _, ((hg.setCell (fun _ => rfl) _).setCell (fun _ => rfl) _).setCell (fun _ => rfl) _⟩

def LS.op (S : LS) (what : Int) : Int := if what = 0 then S.o0 else if what = 1 then S.o1 else if what = 2 then S.o2 else if what = 3 then S.o3 else 0
def LS.add (S : LS) (x : Note) : LS := { S with
  o0 := if x.what = 0 then S.o0 + x.n else S.o0, o1 := if x.what = 1 then S.o1 + x.n else S.o1, o2 := if x.what = 2 then S.o2 + x.n else S.o2, o3 := if x.what = 3 then S.o3 + x.n else S.o3,
  t0 := if x.what = 0 then S.t0 + x.n else S.t0, t1 := if x.what = 1 then S.t1 + x.n else S.t1, t2 := if x.what = 2 then S.t2 + x.n else S.t2, t3 := if x.what = 3 then S.t3 + x.n else S.t3,
  most := if S.most < x.len then x.len else S.most, notes := S.notes + 1 }
def LS.step (S : LS) (x : Note) : LS := if x.wrong = 0 then (if S.notes + 1 = 32 then (S.add x).close else S.add x) else S
structure LS.Ok (S : LS) (N : Int) : Prop where
  o0 : 0 ≤ S.o0 ∧ S.o0 ≤ N
  o1 : 0 ≤ S.o1 ∧ S.o1 ≤ N
  o2 : 0 ≤ S.o2 ∧ S.o2 ≤ N
  o3 : 0 ≤ S.o3 ∧ S.o3 ≤ N
  t0 : 0 ≤ S.t0 ∧ S.t0 ≤ N
  t1 : 0 ≤ S.t1 ∧ S.t1 ≤ N
  t2 : 0 ≤ S.t2 ∧ S.t2 ≤ N
  t3 : 0 ≤ S.t3 ∧ S.t3 ≤ N
  most : 0 ≤ S.most ∧ S.most ≤ 1024
  notes : 0 ≤ S.notes ∧ S.notes < 32
  windows : 0 ≤ S.windows ∧ S.windows ≤ N
theorem LS.Ok.mono {S : LS} {N M : Int} (h : S.Ok N) (hm : N ≤ M) : S.Ok M := by
  obtain ⟨a, b, c, d, e, f, g, i, j, k, l⟩ := h
  constructor <;> omega
theorem LS.Ok.step {S : LS} {N : Int} (h : S.Ok N) (x : Note) : (S.step x).Ok (N + 1024) := by
  unfold LS.step
  split
  · rename_i hw
    have hg := x.wrong_good.1 hw
    unfold Note.good at hg
    obtain ⟨a, b, c, d, e, f, g, i, j, k, l⟩ := h
    split
    · constructor <;> simp only [LS.close, LS.add] <;> (try split) <;> omega
    · constructor <;> simp only [LS.add] <;> (try split) <;> omega
  · exact h.mono (by omega)
theorem LS.at_op (S : LS) (what : Int) (h0 : 0 ≤ what) (h1 : what ≤ 3) : S.cells[what.toNat]? = some (.int .i64 (S.op what)) := by
  have H : what = 0 ∨ what = 1 ∨ what = 2 ∨ what = 3 := by omega
  rcases H with rfl | rfl | rfl | rfl <;> rfl
theorem LS.at_tot (S : LS) (what : Int) (h0 : 0 ≤ what) (h1 : what ≤ 3) : S.cells[4 + what.toNat]? = some (.int .i64 (S.total what)) := by
  have H : what = 0 ∨ what = 1 ∨ what = 2 ∨ what = 3 := by omega
  rcases H with rfl | rfl | rfl | rfl <;> rfl
theorem LS.add_cells (S : LS) (x : Note) (h0 : 0 ≤ x.what) (h1 : x.what ≤ 3) :
    ((((S.cells.setIfInBounds x.what.toNat (.int .i64 (S.op x.what + x.n))).setIfInBounds (4 + x.what.toNat) (.int .i64 (S.total x.what + x.n))).setIfInBounds 8 (.int .i64 (if S.most < x.len then x.len else S.most))).setIfInBounds 9 (.int .i64 (S.notes + 1))) = (S.add x).cells := by
  obtain ⟨what, n, len⟩ := x
  have H : what = 0 ∨ what = 1 ∨ what = 2 ∨ what = 3 := by simp at h0 h1; omega
  rcases H with rfl | rfl | rfl | rfl <;> rfl
theorem note_no (b : Nat) (x : Note) (w : World) (h : x.wrong ≠ 0) :
    Calls Try.prog 9 #[.pointer (some ⟨b, 0, none⟩), .int .i64 x.what, .int .i64 x.n, .int .i64 x.len] w fun e w' => e = .returned (.int .i64 x.wrong) ∧ w = w' := by
  rcases x.ways with ⟨h1, H⟩ | ⟨h1, h2, H⟩ | ⟨h1, h2, h3, H⟩ | ⟨h1, h2, h3, h4, H⟩ | ⟨h1, h2, h3, h4, h5, H⟩ | ⟨h1, h2, h3, h4, h5, h6, H⟩ | ⟨h1, h2, h3, h4, h5, h6, H⟩
  · have HW := Lib.hid H
    clear H h
    go_enter Try.func9, Try.ntmps9
    go_wp2_with fail
    go_ret
    exact ⟨ret_int HW.out.symm, rfl⟩
  · have HW := Lib.hid H
    clear H h
    go_enter Try.func9, Try.ntmps9
    go_wp2_with fail
    go_ret
    exact ⟨ret_int HW.out.symm, rfl⟩
  · have HW := Lib.hid H
    clear H h
    go_enter Try.func9, Try.ntmps9
    go_wp2_with (go_at_call 21; refine (within_no _ _ (by omega)).mono ?_; rintro e w' ⟨rfl, rfl⟩)
    go_ret
    exact ⟨ret_int HW.out.symm, rfl⟩
  · have HW := Lib.hid H
    clear H h
    go_enter Try.func9, Try.ntmps9
    go_wp2_with (go_at_call 21; refine (within_no _ _ (by omega)).mono ?_; rintro e w' ⟨rfl, rfl⟩)
    go_ret
    exact ⟨ret_int HW.out.symm, rfl⟩
  · have HW := Lib.hid H
    clear H h
    go_enter Try.func9, Try.ntmps9
    go_wp2_with fail
    refine (within_yes _ _ (by omega) (by omega)).mono ?_
    rintro e w' ⟨rfl, rfl⟩
    go_wp2_with fail
    refine (within_no _ _ (by omega)).mono ?_
    rintro e w' ⟨rfl, rfl⟩
    go_wp2_with fail
    go_ret
    exact ⟨ret_int HW.out.symm, rfl⟩
  · have HW := Lib.hid H
    clear H h
    go_enter Try.func9, Try.ntmps9
    go_wp2_with fail
    refine (within_yes _ _ (by omega) (by omega)).mono ?_
    rintro e w' ⟨rfl, rfl⟩
    go_wp2_with fail
    refine (within_no _ _ (by omega)).mono ?_
    rintro e w' ⟨rfl, rfl⟩
    go_wp2_with fail
    go_ret
    exact ⟨ret_int HW.out.symm, rfl⟩
  · exact absurd H h
theorem note_yes (b : Nat) (S : LS) (x : Note) (w : World) (hL : LoadAt w b S) (h : x.wrong = 0) (hS : S.Ok 1000000) :
    Calls Try.prog 9 #[.pointer (some ⟨b, 0, none⟩), .int .i64 x.what, .int .i64 x.n, .int .i64 x.len] w fun e w' => e = .returned (.int .i64 0) ∧ LoadAt w' b (S.step x) ∧ Chg (fun k => k = b) w w' := by
  have hx := x.wrong_good.1 h
  unfold Note.good at hx
  obtain ⟨x0, x1, x2, x3, x4, x5⟩ := hx
  have ho : -9223372036854775808 ≤ S.op x.what + x.n ∧ S.op x.what + x.n ≤ 9223372036854775807 := by
    have := hS.o0; have := hS.o1; have := hS.o2; have := hS.o3
    unfold LS.op; split <;> (try split) <;> (try split) <;> (try split) <;> omega
  have ht : -9223372036854775808 ≤ S.total x.what + x.n ∧ S.total x.what + x.n ≤ 9223372036854775807 := by
    have := hS.t0; have := hS.t1; have := hS.t2; have := hS.t3
    unfold LS.total; split <;> (try split) <;> (try split) <;> (try split) <;> omega
  have hn := hS.notes
  have hwn := hS.windows
  obtain ⟨m, HM⟩ : ∃ m, Hid (m = (if S.most < x.len then x.len else S.most)) := ⟨_, rfl⟩
  have HW := Lib.hid h
  have hc := hL.cell
  have h1 := hL.put x.what.toNat (.int .i64 (S.op x.what + x.n))
  have h2 := h1.put (4 + x.what.toNat) (.int .i64 (S.total x.what + x.n))
  have h3 := h2.put 8 (.int .i64 m)
  have h4 := h3.put 9 (.int .i64 (S.notes + 1))
  have hac := LS.add_cells S x x0 x1
  rw [← HM.out] at hac
  rw [hac] at h4
  clear hac
  clear h
  have c2 : (w.setCell ⟨b, x.what.toNat, none⟩ (.int .i64 (S.op x.what + x.n))).cell? ⟨b, 4 + x.what.toNat, none⟩ = some (.int .i64 (S.total x.what)) := by
    rw [World.cell?_setCell_other _ _ _ _ (by simp <;> omega), hc]; exact S.at_tot _ x0 x1
  have c3 : ((w.setCell ⟨b, x.what.toNat, none⟩ (.int .i64 (S.op x.what + x.n))).setCell ⟨b, 4 + x.what.toNat, none⟩ (.int .i64 (S.total x.what + x.n))).cell? ⟨b, 8, none⟩ = some (.int .i64 S.most) := by
    rw [World.cell?_setCell_other _ _ _ _ (by simp <;> omega), World.cell?_setCell_other _ _ _ _ (by simp <;> omega), hc]; rfl
  have c4 : (((w.setCell ⟨b, x.what.toNat, none⟩ (.int .i64 (S.op x.what + x.n))).setCell ⟨b, 4 + x.what.toNat, none⟩ (.int .i64 (S.total x.what + x.n))).setCell ⟨b, 8, none⟩ (.int .i64 m)).cell? ⟨b, 9, none⟩ = some (.int .i64 S.notes) := by
    rw [World.cell?_setCell_other _ _ _ _ (by simp <;> omega), World.cell?_setCell_other _ _ _ _ (by simp <;> omega), World.cell?_setCell_other _ _ _ _ (by simp <;> omega), hc]; rfl
  have g : Chg (fun k => k = b) w ((((w.setCell ⟨b, x.what.toNat, none⟩ (.int .i64 (S.op x.what + x.n))).setCell ⟨b, 4 + x.what.toNat, none⟩ (.int .i64 (S.total x.what + x.n))).setCell ⟨b, 8, none⟩ (.int .i64 m)).setCell ⟨b, 9, none⟩ (.int .i64 (S.notes + 1))) :=
    ((((Chg.refl (fun k => k = b) w).setCell (fun _ => rfl) _).setCell (fun _ => rfl) _).setCell (fun _ => rfl) _).setCell (fun _ => rfl) _
  go_enter Try.func9, Try.ntmps9
  go_wp2_with fail
  refine (within_yes _ _ (by omega) (by omega)).mono ?_
  rintro e w' ⟨rfl, rfl⟩
  go_wp2_with fail
  refine (within_yes _ _ (by omega) (by omega)).mono ?_
  rintro e w' ⟨rfl, rfl⟩
  go_wp2_with fail
  refine (aadd b x.what.toNat (S.op x.what) x.n _ (by rw [hc]; exact S.at_op _ x0 x1) (hL.frozen _) ho).mono ?_
  rintro e w1 ⟨rfl, rfl⟩
  go_wp2_with fail
  refine (aadd b (4 + x.what.toNat) (S.total x.what) x.n _ c2 (h1.frozen _) ht).mono ?_
  rintro e w1 ⟨rfl, rfl⟩
  generalize hW2 : ((w.setCell ⟨b, x.what.toNat, none⟩ (.int .i64 (S.op x.what + x.n))).setCell ⟨b, 4 + x.what.toNat, none⟩ (.int .i64 (S.total x.what + x.n))) = w2 at *
  go_wp2_with fail
  refine still_tail 9 (by kernel_rfl) (by kernel_rfl) ?_
  simp only [List.take_succ_cons, List.take_zero, List.drop_succ_cons, List.drop_zero]
  still_step; still_step; still_step; still_step; still_step; still_step
  still_call (flip (aload b 8 S.most _ c3))
  repeat still_step
  refine wpStill_nil ?_
  by_cases hm : S.most < x.len
  · obtain rfl : m = x.len := by rw [HM.out, if_pos hm]
    go_wp2_with fail
    refine (astore b 8 (.int .i64 S.most) x.len _ (by exact c3) (by exact h2.frozen 8)).mono ?_
    rintro e w1 ⟨rfl, rfl⟩
    go_wp2_with fail
    refine (aadd b 9 S.notes 1 _ (by exact c4) (by exact h3.frozen 9) (by omega)).mono ?_
    rintro e w1 ⟨rfl, rfl⟩
    by_cases hN : S.notes + 1 = 32
    · have hNB : (S.notes + 1 == 32) = true := by simpa using hN
      have HN := Lib.hid hN
      clear hN
      go_wp2_with fail
      refine (close_any b (S.add x) _ (by exact h4) (by simp only [LS.add]; omega) (by simp only [LS.add]; omega)).mono ?_
      rintro e w3 ⟨rfl, hL3, g3⟩
      go_wp2
      go_ret
      refine ⟨rfl, ?_, g.drew.trans g3 (fun _ _ h => h)⟩
      unfold LS.step
      rw [if_pos HW.out, if_pos HN.out]
      exact hL3
    · have hNB : (S.notes + 1 == 32) = false := by simpa using hN
      have HN := Lib.hid hN
      clear hN
      go_wp2_with fail
      go_ret
      refine ⟨rfl, ?_, g.drew⟩
      unfold LS.step
      rw [if_pos HW.out, if_neg HN.out]
      exact h4
  · obtain rfl : m = S.most := by rw [HM.out, if_neg hm]
    go_wp2_with fail
    refine (astore b 8 (.int .i64 S.most) S.most _ (by exact c3) (by exact h2.frozen 8)).mono ?_
    rintro e w1 ⟨rfl, rfl⟩
    go_wp2_with fail
    refine (aadd b 9 S.notes 1 _ (by exact c4) (by exact h3.frozen 9) (by omega)).mono ?_
    rintro e w1 ⟨rfl, rfl⟩
    by_cases hN : S.notes + 1 = 32
    · have hNB : (S.notes + 1 == 32) = true := by simpa using hN
      have HN := Lib.hid hN
      clear hN
      go_wp2_with fail
      refine (close_any b (S.add x) _ (by exact h4) (by simp only [LS.add]; omega) (by simp only [LS.add]; omega)).mono ?_
      rintro e w3 ⟨rfl, hL3, g3⟩
      go_wp2
      go_ret
      refine ⟨rfl, ?_, g.drew.trans g3 (fun _ _ h => h)⟩
      unfold LS.step
      rw [if_pos HW.out, if_pos HN.out]
      exact hL3
    · have hNB : (S.notes + 1 == 32) = false := by simpa using hN
      have HN := Lib.hid hN
      clear hN
      go_wp2_with fail
      go_ret
      refine ⟨rfl, ?_, g.drew⟩
      unfold LS.step
      rw [if_pos HW.out, if_neg HN.out]
      exact h4
end Go.Proofs.Ytifoeddeofhclaa
