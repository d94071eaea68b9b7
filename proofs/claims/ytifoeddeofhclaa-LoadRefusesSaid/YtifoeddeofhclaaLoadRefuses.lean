/- Layer 14 (load): the law LoadRefuses: what is refused changes nothing; what is not is one note more. -/
import Derived.Test.YtifoeddeofhclaaLoadPlays
import Derived.Deep.RegionHeld3
namespace Go.Proofs.Ytifoeddeofhclaa
open Go.RowKit
theorem step_count (S : LS) (x : Note) (h : x.wrong = 0) (h0 : 0 ≤ S.notes) (h1 : S.notes < 32) : (S.step x).notes = (S.notes + 1) % 32 ∧ (S.step x).windows = S.windows + (S.notes + 1) / 32 := by
  unfold LS.step
  rw [if_pos h]
  by_cases hn : S.notes + 1 = 32
  · rw [if_pos hn]
    simp only [LS.close, LS.add]
    omega
  · rw [if_neg hn]
    simp only [LS.add]
    omega
structure RefS (S : LS) (bx b1 b2 b3 bn : Nat) (w w' : World) : Prop where
  load : LoadAt w' bx S
  c1 : Blk w' b1 33 #[.int .i64 S.o0, .int .i64 S.o1, .int .i64 S.o2, .int .i64 S.o3, .int .i64 S.most]
  c2 : Blk w' b2 33 #[.int .i64 S.l0, .int .i64 S.l1, .int .i64 S.l2, .int .i64 S.l3, .int .i64 S.l4]
  c3 : Blk w' b3 33 #[.int .i64 S.l0, .int .i64 S.l1, .int .i64 S.l2, .int .i64 S.l3, .int .i64 S.l4]
  below : Below bn w w'
  size : bn ≤ w'.heap.size
theorem RefS.step {S : LS} {bx b1 b2 b3 bn : Nat} {w w' w2 : World} (h : RefS S bx b1 b2 b3 bn w w') (hb : Below w'.heap.size w' w2) : RefS S bx b1 b2 b3 bn w w2 :=
  ⟨h.load.below hb h.load.lt, h.c1.below hb h.c1.lt, h.c2.below hb h.c2.lt, h.c3.below hb h.c3.lt, h.below.trans (hb.mono h.size), Nat.le_trans h.size hb.size⟩
theorem RefS.all {S : LS} {bx b1 b2 b3 bn : Nat} {w w' : World} (h : RefS S bx b1 b2 b3 bn w w') :
    (∀ i, w'.cell? ⟨b1, i, none⟩ = (#[.int .i64 S.o0, .int .i64 S.o1, .int .i64 S.o2, .int .i64 S.o3, .int .i64 S.most] : Array Value)[i]?) ∧
    (∀ i, w'.cell? ⟨b2, i, none⟩ = (#[.int .i64 S.l0, .int .i64 S.l1, .int .i64 S.l2, .int .i64 S.l3, .int .i64 S.l4] : Array Value)[i]?) ∧
    (∀ i, w'.cell? ⟨b3, i, none⟩ = (#[.int .i64 S.l0, .int .i64 S.l1, .int .i64 S.l2, .int .i64 S.l3, .int .i64 S.l4] : Array Value)[i]?) ∧ RefS S bx b1 b2 b3 bn w w' :=
  ⟨h.c1.cell, h.c2.cell, h.c3.cell, h⟩
set_option maxHeartbeats 4000000 in
set_option maxRecDepth 100000 in
theorem refuses_walk (A : Option Addr) (l : List Note) (cap : Nat) (x : Note) (w : World) (h : NotesIn w A l cap) :
    Calls Try.prog 6 #[.slice A l.length cap, .agg #[.int .i64 x.what, .int .i64 x.n, .int .i64 x.len]] w fun e w' => e = .returned (.bool true) ∧ Below w.heap.size w w' := by
  obtain ⟨hN, hc, hc1, hr⟩ := h
  by_cases hlong : 150 < l.length
  · go_enter Try.func6, Try.ntmps6
    go_wp2_with fail
    refine (works _).mono ?_
    rintro e w1 ⟨rfl, hb1⟩
    go_wp2_with fail
    go_ret
    exact ⟨rfl, ((Below.refl _ _).alloc (Nat.le_refl _) _).trans (hb1.mono (by simp))⟩
  · go_enter Try.func6, Try.ntmps6
    go_wp2_with fail
    refine (works _).mono ?_
    rintro e w1 ⟨rfl, hb1⟩
    have hX1 := (Blk.new w 29 #[.int .i64 x.what, .int .i64 x.n, .int .i64 x.len]).below hb1 (by simp)
    have hb2 := ((Below.refl _ w).alloc (Nat.le_refl _) (.cells #[.int .i64 x.what, .int .i64 x.n, .int .i64 x.len] 29)).trans (hb1.mono (by simp))
    clear hb1
    generalize hbn : w.heap.size = bn at *
    have HBN := Lib.hid hbn
    clear hbn
    go_wp2_with fail
    refine (new_any w1).mono ?_
    rintro e w2 ⟨rfl, hL2, g2, z2⟩
    clear z2
    have hX2 := hX1.chg g2 (fun h => h)
    have hbx := hX1.lt
    have hb3 : Below bn w w2 := hb2.trans (Chg.to_below (g2.mono (fun _ _ h => h.elim) (S' := fun k => bn ≤ k)) (by omega))
    clear hX1 hb2 g2
    generalize w1.heap.size = bx at *
    go_wp2_with fail
    go_loopw [7] (fun i wr => ∃ k : Nat, k ≤ l.length ∧ i = .int .i64 k ∧ LoadAt wr bx (LS.after (l.take k)) ∧ Blk wr bn 29 #[.int .i64 x.what, .int .i64 x.n, .int .i64 x.len] ∧ Below bn w wr) (fun i _ => l.length - (intOf i).toNat)
    case atStart => exact ⟨0, Nat.zero_le _, rfl, hL2, hX2, hb3⟩
    case round =>
      obtain ⟨k, hk, rfl, hL, hX, hb⟩ := hrel
      clear hL2 hX2 hb3
      have hOk := after_ok (l.take k)
      have hbw := hX.lt
      by_cases hlt : k < l.length
      · obtain ⟨b, o, rfl, hbb, c0, c1, c2⟩ := (hN.below hb) k hlt
        go_wp2_with fail
        refine still_tail 16 (by kernel_rfl) (by kernel_rfl) ?_
        simp only [List.take_succ_cons, List.take_zero, List.drop_succ_cons, List.drop_zero]
        repeat still_step
        refine wpStill_nil ?_
        go_wp2_with fail
        refine (note_any bx _ l[k] wr.drew hL.drew (hOk.mono (by simp; omega))).mono ?_
        rw [← after_take l k hlt]
        rintro e w5 ⟨rfl, hL5, g5⟩
        have hX5 := Blk.chg hX.drew g5 (by omega)
        have hb5 : Below bn w w5 := hb.drew.trans (Chg.to_below (g5.mono (fun _ _ h => by omega) (S' := fun k => bn ≤ k)) (Nat.le_of_lt hX.lt))
        clear hL hb g5 c0 c1 c2 hX
        go_wp2_with fail
        go_roundw
        case rel => exact ⟨k + 1, by omega, by go_num, hL5, hX5, hb5⟩
        case measure => simp [intOf]; omega
      · have ht : l.take k = l := List.take_of_length_le (by omega)
        rw [ht] at hL hOk
        clear ht
        generalize LS.after l = S at *
        have hOk2 : S.Ok 1000000 := hOk.mono (by omega)
        have hnn := hOk2.notes
        have hww := hOk2.windows
        clear hOk
        go_wp2_with fail
        refine (open_any bx S wr hL).mono ?_
        rintro e w6 ⟨rfl, hb6⟩
        have hL6 := hL.below hb6 hL.lt
        have hX6 := hX.below hb6 hX.lt
        have hb7 := hb.trans (hb6.mono (Nat.le_of_lt hX.lt))
        clear hL hX hb hb6
        go_wp2_with fail
        refine (notes_any bx S w6 hL6).mono ?_
        rintro e w7 ⟨rfl, rfl⟩
        go_wp2_with fail
        refine (windows_any bx S w6 hL6).mono ?_
        rintro e w7 ⟨rfl, rfl⟩
        go_wp2_with fail
        have hL7 := hL6.alloc (.cells #[.int .i64 S.o0, .int .i64 S.o1, .int .i64 S.o2, .int .i64 S.o3, .int .i64 S.most] 33)
        have hX7 := hX6.alloc (.cells #[.int .i64 S.o0, .int .i64 S.o1, .int .i64 S.o2, .int .i64 S.o3, .int .i64 S.most] 33)
        have hK7 := Blk.new w6 33 #[.int .i64 S.o0, .int .i64 S.o1, .int .i64 S.o2, .int .i64 S.o3, .int .i64 S.most]
        have hb8 := hb7.alloc (Nat.le_of_lt hX6.lt) (.cells #[.int .i64 S.o0, .int .i64 S.o1, .int .i64 S.o2, .int .i64 S.o3, .int .i64 S.most] 33)
        have hz6 := hL6.lt
        have hz6' := hX6.lt
        clear hL6 hX6 hb7
        generalize (w6.alloc (.cells #[.int .i64 S.o0, .int .i64 S.o1, .int .i64 S.o2, .int .i64 S.o3, .int .i64 S.most] 33)) = w7 at *
        generalize w6.heap.size = b1 at *
        refine (last_any bx S w7 hL7).mono ?_
        rintro e w8 ⟨rfl, hb9⟩
        have hL8 := hL7.below hb9 hL7.lt
        have hX8 := hX7.below hb9 hX7.lt
        have hK8 := hK7.below hb9 hK7.lt
        have hb10 := hb8.trans (hb9.mono (Nat.le_of_lt hX7.lt))
        clear hL7 hX7 hK7 hb8 hb9
        have hX8c := hX8.cell
        have hX8l := hX8.lt
        go_wp2_with fail
        have hL9 := hL8.alloc (.cells #[.int .i64 S.l0, .int .i64 S.l1, .int .i64 S.l2, .int .i64 S.l3, .int .i64 S.l4] 33)
        have hK9 := hK8.alloc (.cells #[.int .i64 S.l0, .int .i64 S.l1, .int .i64 S.l2, .int .i64 S.l3, .int .i64 S.l4] 33)
        have hJ9 := Blk.new w8 33 #[.int .i64 S.l0, .int .i64 S.l1, .int .i64 S.l2, .int .i64 S.l3, .int .i64 S.l4]
        have hb11 := hb10.alloc (Nat.le_of_lt hX8.lt) (.cells #[.int .i64 S.l0, .int .i64 S.l1, .int .i64 S.l2, .int .i64 S.l3, .int .i64 S.l4] 33)
        have hz8 := hK8.lt
        have hz8' := hX8.lt
        clear hL8 hX8 hK8 hb10 hX8c hX8l
        generalize (w8.alloc (.cells #[.int .i64 S.l0, .int .i64 S.l1, .int .i64 S.l2, .int .i64 S.l3, .int .i64 S.l4] 33)) = w9 at *
        generalize w8.heap.size = b2 at *
        refine (note_any bx S x w9 hL9 hOk2).mono ?_
        rintro e wa ⟨rfl, hLa, ga⟩
        have hKa := hK9.chg ga (by omega)
        have hJa := hJ9.chg ga (by omega)
        have hb12 : Below bn w wa := hb11.trans (Chg.to_below (ga.mono (fun _ _ h => by omega) (S' := fun k => bn ≤ k)) (by have := hJ9.lt; omega))
        have hza := hJ9.lt
        clear hL9 hK9 hJ9 hb11 ga
        by_cases hw : x.wrong = 0
        · have hs := step_count S x hw hnn.1 hnn.2
          rw [hw]
          obtain ⟨hs1, hs2⟩ := hs
          have HS1 := Lib.hid hs1
          have HS2 := Lib.hid hs2
          clear hs1 hs2 hw
          go_wp2_with fail
          refine (notes_any bx _ wa hLa).mono ?_
          rw [HS1.out]
          rintro e wb ⟨rfl, rfl⟩
          go_wp2_with fail
          refine (windows_any bx _ wa hLa).mono ?_
          rw [HS2.out]
          rintro e wb ⟨rfl, rfl⟩
          go_wp2_with fail
          go_ret
          exact ⟨rfl, hb12.mono (Nat.le_of_eq HBN.out)⟩
        · have hS : S.step x = S := by unfold LS.step; rw [if_neg hw]
          rw [hS] at hLa
          have hw1 : (x.wrong == 0) = false := by simpa using hw
          clear hS hw
          go_wp2_with fail
          refine (last_any bx S wa hLa).mono ?_
          rintro e wb ⟨rfl, hbb⟩
          have hLb := hLa.below hbb hLa.lt
          have hKb := hKa.below hbb hKa.lt
          have hJb := hJa.below hbb hJa.lt
          have hb13 := hb12.trans (hbb.mono (by have := hJa.lt; omega))
          have hzb := hJa.lt
          have hzc := hbb.size
          clear hLa hKa hJa hb12 hbb
          go_wp2_with fail
          have hLc := hLb.alloc (.cells #[.int .i64 S.l0, .int .i64 S.l1, .int .i64 S.l2, .int .i64 S.l3, .int .i64 S.l4] 33)
          have hKc := hKb.alloc (.cells #[.int .i64 S.l0, .int .i64 S.l1, .int .i64 S.l2, .int .i64 S.l3, .int .i64 S.l4] 33)
          have hJc := hJb.alloc (.cells #[.int .i64 S.l0, .int .i64 S.l1, .int .i64 S.l2, .int .i64 S.l3, .int .i64 S.l4] 33)
          have hIc := Blk.new wb 33 #[.int .i64 S.l0, .int .i64 S.l1, .int .i64 S.l2, .int .i64 S.l3, .int .i64 S.l4]
          have hb14 := hb13.alloc (by omega) (.cells #[.int .i64 S.l0, .int .i64 S.l1, .int .i64 S.l2, .int .i64 S.l3, .int .i64 S.l4] 33)
          have hzd := hJb.lt
          clear hLb hKb hJb hb13
          generalize (wb.alloc (.cells #[.int .i64 S.l0, .int .i64 S.l1, .int .i64 S.l2, .int .i64 S.l3, .int .i64 S.l4] 33)) = wc at *
          generalize wb.heap.size = b3 at *
          have hlc := hIc.lt
          have k0 : RefS S bx b1 b2 b3 bn w wc.drew := ⟨hLc.drew, hKc.drew, hJc.drew, hIc.drew, hb14.drew, by simp; omega⟩
          clear hLc hKc hJc hIc hb14
          go_region_held3 (fun w' => (∀ i, w'.cell? ⟨b1, i, none⟩ = (#[.int .i64 S.o0, .int .i64 S.o1, .int .i64 S.o2, .int .i64 S.o3, .int .i64 S.most] : Array Value)[i]?) ∧
              (∀ i, w'.cell? ⟨b2, i, none⟩ = (#[.int .i64 S.l0, .int .i64 S.l1, .int .i64 S.l2, .int .i64 S.l3, .int .i64 S.l4] : Array Value)[i]?) ∧
              (∀ i, w'.cell? ⟨b3, i, none⟩ = (#[.int .i64 S.l0, .int .i64 S.l1, .int .i64 S.l2, .int .i64 S.l3, .int .i64 S.l4] : Array Value)[i]?) ∧ RefS S bx b1 b2 b3 bn w w')
            (first | exact k0.all | exact RefS.all (RefS.step k0 (by assumption)))
            (first
              | (go_at_call 16; refine (open_any bx S _ k0.load).mono ?_; rintro e w' ⟨rfl, hb'⟩)
              | (go_at_call 18; refine (notes_any bx S _ (RefS.load (RefS.step k0 (by assumption)))).mono ?_; rintro e w' ⟨rfl, rfl⟩)
              | (go_at_call 19; refine (windows_any bx S _ (RefS.load (RefS.step k0 (by assumption)))).mono ?_; rintro e w' ⟨rfl, rfl⟩))
          go_wp2
          go_ret
          exact ⟨rfl, (k0.step (by assumption)).below.mono (Nat.le_of_eq HBN.out)⟩
end Go.Proofs.Ytifoeddeofhclaa
