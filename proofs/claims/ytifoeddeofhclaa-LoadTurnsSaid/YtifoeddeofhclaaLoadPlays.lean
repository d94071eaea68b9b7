/- Layer 14 (load): the law LoadPlays, walked. -/
import Derived.Test.YtifoeddeofhclaaLoadLaw
import Derived.Test.YtifoeddeofhclaaLoadGood
import Derived.Test.YtifoeddeofhclaaLoadWorks
namespace Go.Proofs.Ytifoeddeofhclaa
open Go.RowKit
/-- What an input slice of notes is. -/
structure NotesIn (w : World) (A : Option Addr) (l : List Note) (cap : Nat) : Prop where
  at_ : NotesAt w w.heap.size A l
  fits : l.length ≤ cap
  max : cap ≤ 9223372036854775807
  reach : l.length * 24 ≤ 140737488351232
theorem own_notes {w : World} {base n : Nat} {v : Value} {l : List Note} (h : w.ownsRow base 29 3 v n (l.flatMap Note.cells)) (hn : n = l.length) :
    ∃ A cap, v = .slice A l.length cap ∧ NotesAt w w.heap.size A l ∧ l.length ≤ cap ∧ cap ≤ 9223372036854775807 ∧ Hid (A = none → cap = 0) := by
  subst hn
  rcases h.2 with ⟨rfl, hl⟩ | ⟨g, cap, cur, rfl, hg, hh, hc, hm, hs, ht⟩
  · have : l = [] := List.eq_nil_of_length_eq_zero hl
    subst this
    exact ⟨none, 0, rfl, NotesAt.nil, by simp, by omega, fun _ => rfl⟩
  · refine ⟨some ⟨g, 0, none⟩, cap, rfl, ?_, hc, by unfold maxLen at hm; exact hm, fun e => by cases e⟩
    intro i hi
    have hb : Blk w g 29 cur := hh
    have hcell : ∀ j (u : Value), (l.flatMap Note.cells)[j]? = some u → w.cell? ⟨g, j, none⟩ = some u := by
      intro j u hu
      rw [hb.cell]
      rw [← ht] at hu
      rw [List.getElem?_take] at hu
      split at hu
      · simpa using hu
      · cases hu
    have hidx : ∀ (m : List Note) (i : Nat) (hi : i < m.length) (j : Nat), j < 3 → (m.flatMap Note.cells)[i * 3 + j]? = m[i].cells[j]? := by
      intro m
      induction m with
      | nil => intro i hi; simp at hi
      | cons x m ih =>
        intro i hi j hj
        cases i with
        | zero =>
          have hx : x.cells.length = 3 := rfl
          simp only [List.flatMap_cons]
          rw [List.getElem?_append_left (by omega)]
          simp
        | succ i =>
          have hx : x.cells.length = 3 := rfl
          simp only [List.flatMap_cons, List.getElem_cons_succ]
          rw [List.getElem?_append_right (by omega), hx, ← ih i (by simpa using hi) j hj]
          congr 1
          omega
    refine ⟨g, 0, rfl, hb.lt, ?_, ?_, ?_⟩
    · have := hcell (i * 3 + 0) _ (by rw [hidx l i hi 0 (by omega)]; rfl)
      simpa using this
    · have := hcell (i * 3 + 1) _ (by rw [hidx l i hi 1 (by omega)]; rfl)
      simpa using this
    · have := hcell (i * 3 + 2) _ (by rw [hidx l i hi 2 (by omega)]; rfl)
      simpa using this
theorem note_any (b : Nat) (S : LS) (x : Note) (w : World) (hL : LoadAt w b S) (hS : S.Ok 1000000) :
    Calls Try.prog 9 #[.pointer (some ⟨b, 0, none⟩), .int .i64 x.what, .int .i64 x.n, .int .i64 x.len] w fun e w' => e = .returned (.int .i64 x.wrong) ∧ LoadAt w' b (S.step x) ∧ Chg (fun k => k = b) w w' := by
  by_cases h : x.wrong = 0
  · rw [h]
    exact note_yes b S x w hL h hS
  · refine (note_no b x w h).mono ?_
    rintro e w' ⟨rfl, rfl⟩
    refine ⟨rfl, ?_, Chg.refl _ _⟩
    unfold LS.step
    rw [if_neg h]
    exact hL
theorem after_take (l : List Note) (k : Nat) (h : k < l.length) : LS.after (l.take (k + 1)) = (LS.after (l.take k)).step l[k] := by
  rw [take_snoc l k h, after_snoc]
theorem goods_good (l : List Note) : Hid (∀ x ∈ goods l, x.good) := by
  intro x hx
  unfold goods at hx
  simpa using (List.mem_filter.1 hx).2
theorem goods_len (l : List Note) : (goods l).length ≤ l.length := List.length_filter_le _ _
set_option maxHeartbeats 4000000 in
set_option maxRecDepth 100000 in
theorem plays_walk (A : Option Addr) (l : List Note) (cap : Nat) (what : Int) (w : World) (h : NotesIn w A l cap) :
    Calls Try.prog 3 #[.slice A l.length cap, .int .i64 what] w fun e w' => e = .returned (.bool true) ∧ Below w.heap.size w w' := by
  obtain ⟨hN, hc, hc1, hr⟩ := h
  by_cases hlong : 150 < l.length
  · go_enter Try.func3, Try.ntmps3
    go_wp2_with fail
    refine (works w).mono ?_
    rintro e w1 ⟨rfl, hb1⟩
    go_wp2_with fail
    go_ret
    exact ⟨rfl, hb1⟩
  · go_enter Try.func3, Try.ntmps3
    go_wp2_with fail
    refine (works w).mono ?_
    rintro e w1 ⟨rfl, hb1⟩
    go_wp2_with fail
    refine (new_any w1).mono ?_
    rintro e w2 ⟨rfl, hL2, g2, z2⟩
    have hbx := hb1.size
    generalize hbx0 : w1.heap.size = bx at *
    have HB := Lib.hid hbx0
    clear hbx0
    have g3 : Below w.heap.size w w2 := hb1.trans (Chg.to_below (g2.mono (fun _ _ h => h.elim) (S' := fun k => w.heap.size ≤ k)) (Nat.le_trans hbx (Nat.le_of_eq HB.out.symm)))
    go_wp2_with fail
    go_loopw [7, 8] (fun i _ wr => ∃ k : Nat, k ≤ l.length ∧ i = .int .i64 k ∧ LoadAt wr bx (LS.after (l.take k)) ∧ Below w.heap.size w wr) (fun i _ _ => l.length - (intOf i).toNat)
    case atStart => exact ⟨0, Nat.zero_le _, rfl, hL2, g3⟩
    case round =>
      obtain ⟨k, hk, rfl, hL, hb⟩ := hrel
      clear hL2 g2 z2 g3 hb1
      by_cases hlt : k < l.length
      · obtain ⟨b, o, rfl, hbb, c0, c1, c2⟩ := (hN.below hb) k hlt
        go_wp2_with fail
        refine still_tail 16 (by kernel_rfl) (by kernel_rfl) ?_
        simp only [List.take_succ_cons, List.take_zero, List.drop_succ_cons, List.drop_zero]
        repeat still_step
        refine wpStill_nil ?_
        go_wp2_with fail
        refine (note_any bx _ l[k] wr.drew hL.drew ((after_ok _).mono (by simp; omega))).mono ?_
        rintro e w5 ⟨rfl, hL5, g5⟩
        have hz5 := g5.size
        rw [← after_take l k hlt] at hL5
        have hb5 : Below w.heap.size w w5 := hb.drew.trans (Chg.to_below (g5.mono (fun _ _ h => by omega) (S' := fun k => w.heap.size ≤ k)) (hb.drew.size))
        have hbw := hb.size
        obtain ⟨d0, d1, d2⟩ : w5.cell? ⟨b, o + k * 3, none⟩ = some (.int .i64 l[k].what) ∧ w5.cell? ⟨b, o + k * 3 + 1, none⟩ = some (.int .i64 l[k].n) ∧ w5.cell? ⟨b, o + k * 3 + 2, none⟩ = some (.int .i64 l[k].len) :=
          ⟨(g5.cell (p := ⟨b, o + k * 3, none⟩) (by simp; omega) (by simp; omega)).trans c0, (g5.cell (p := ⟨b, o + k * 3 + 1, none⟩) (by simp; omega) (by simp; omega)).trans c1, (g5.cell (p := ⟨b, o + k * 3 + 2, none⟩) (by simp; omega) (by simp; omega)).trans c2⟩
        clear hL hb g5 c0 c1 c2
        go_wp2_with fail
        refine (f10 l[k] w5).mono ?_
        rintro e w6 ⟨rfl, hb6⟩
        have hL6 := hL5.below hb6 hL5.lt
        have hb7 := hb5.trans (hb6.mono hb5.size)
        clear hL5 hb5 hb6 d0 d1 d2
        have hne : (l[k].wrong != l[k].wrong) = false := by simp
        go_wp2_with fail
        go_roundw
        case rel => exact ⟨k + 1, by omega, by go_num, hL6, hb7⟩
        case measure => simp [intOf]; omega
      · have ht : l.take k = l := List.take_of_length_le (by omega)
        rw [ht] at hL
        clear ht
        go_wp2_with fail
        refine (f11 A l cap wr ((hN.below hb).mono hb.size) hr).mono ?_
        rintro e w5 ⟨v, rfl, hown, hb5⟩
        obtain ⟨A', cap', rfl, hN5, hc5, hc6, hn5⟩ := own_notes hown rfl
        have hL5 := hL.below hb5 hL.lt
        have hb6 := hb.trans (hb5.mono hb.size)
        have hgl := goods_len l
        clear hL hb hb5 hown
        go_wp2_with fail
        refine (f12 A' _ (goods l) cap' w5 hN5 (by omega) hc5 hc6 hn5).mono ?_
        rintro e w6 ⟨A2, cap2, rfl, hN6, rfl⟩
        go_wp2_with fail
        have I := inv_after l
        have hIO := after_ok l
        generalize LS.after l = S at *
        have hW : decide (0 < S.windows) = decide (32 ≤ (goods l).length) := by rw [I.windows]; apply decide_eq_decide.2; omega
        refine (last_any bx _ w5 hL5).mono ?_
        rw [I.l0, I.l1, I.l2, I.l3, I.l4, hW]
        rintro e w6 ⟨rfl, hb7⟩
        have hL6 := hL5.below hb7 hL5.lt
        have hb8 := hb6.trans (hb7.mono hb6.size)
        have hN7 := hN6.below hb7
        have hN8 := hN5.below hb7
        have hz := hb7.size
        clear hL5 hb6 hb7 hN5 hN6 hW
        go_wp2_with fail
        have hK1 := Blk.new w6 33 #[.int .i64 (ltot (goods l) 0), .int .i64 (ltot (goods l) 1), .int .i64 (ltot (goods l) 2), .int .i64 (ltot (goods l) 3), .int .i64 (lmost (goods l))]
        have hL9 := hL6.alloc (.cells #[.int .i64 (ltot (goods l) 0), .int .i64 (ltot (goods l) 1), .int .i64 (ltot (goods l) 2), .int .i64 (ltot (goods l) 3), .int .i64 (lmost (goods l))] 33)
        have hNa := hN7.alloc hz (.cells #[.int .i64 (ltot (goods l) 0), .int .i64 (ltot (goods l) 1), .int .i64 (ltot (goods l) 2), .int .i64 (ltot (goods l) 3), .int .i64 (lmost (goods l))] 33)
        have hNb := hN8.alloc hz (.cells #[.int .i64 (ltot (goods l) 0), .int .i64 (ltot (goods l) 1), .int .i64 (ltot (goods l) 2), .int .i64 (ltot (goods l) 3), .int .i64 (lmost (goods l))] 33)
        have hb9 := hb8.alloc hb8.size (.cells #[.int .i64 (ltot (goods l) 0), .int .i64 (ltot (goods l) 1), .int .i64 (ltot (goods l) 2), .int .i64 (ltot (goods l) 3), .int .i64 (lmost (goods l))] 33)
        have hzz : w5.heap.size ≤ (w6.alloc (.cells #[.int .i64 (ltot (goods l) 0), .int .i64 (ltot (goods l) 1), .int .i64 (ltot (goods l) 2), .int .i64 (ltot (goods l) 3), .int .i64 (lmost (goods l))] 33)).heap.size := by simp; omega
        have hz6 := hK1.lt
        clear hN7 hN8 hL6 hb8
        generalize (w6.alloc (.cells #[.int .i64 (ltot (goods l) 0), .int .i64 (ltot (goods l) 1), .int .i64 (ltot (goods l) 2), .int .i64 (ltot (goods l) 3), .int .i64 (lmost (goods l))] 33)) = w7 at *
        generalize w6.heap.size = b1 at *
        refine (f14 A' _ (goods l) cap' w7 hNb hzz (by omega) hc5 hc6 (goods_good l)).mono ?_
        rintro e w8 ⟨rfl, hb10⟩
        have hK2 := hK1.below hb10 hK1.lt
        have hL10 := hL9.below hb10 hL9.lt
        have hNc := hNa.below (hb10.mono hzz)
        have hNd := hNb.below (hb10.mono hzz)
        have hb11 := hb9.trans (hb10.mono hb9.size)
        have hz8 := hb10.size
        clear hK1 hL9 hNa hNb hb9 hb10
        have hlo : (0 ≤ what ∧ what ≤ 3) ∨ (¬ 0 ≤ what) ∨ (0 ≤ what ∧ ¬ what ≤ 3) := by omega
        rcases hlo with ⟨q1, q2⟩ | q1 | ⟨q1, q2⟩
        · have HT : Hid (S.total what = total (goods l) what) := by
            have H : what = 0 ∨ what = 1 ∨ what = 2 ∨ what = 3 := by omega
            rcases H with rfl | rfl | rfl | rfl
            · exact I.t0
            · exact I.t1
            · exact I.t2
            · exact I.t3
          go_wp2_with fail
          refine (f15 A' _ (goods l) cap' what _ (hNd.alloc (by omega) _) (by omega) (goods_good l)).mono ?_
          rintro e w9 ⟨rfl, rfl⟩
          go_wp2_with fail
          generalize hW9 : (w8.alloc (.cells #[.int .i64 (ltot (goods l) 0), .int .i64 (ltot (goods l) 1), .int .i64 (ltot (goods l) 2), .int .i64 (ltot (goods l) 3), .int .i64 (lmost (goods l))] 33)) = w9
          have hK3 := Blk.new w8 33 #[.int .i64 (ltot (goods l) 0), .int .i64 (ltot (goods l) 1), .int .i64 (ltot (goods l) 2), .int .i64 (ltot (goods l) 3), .int .i64 (lmost (goods l))]
          have hK4 := hK2.alloc (.cells #[.int .i64 (ltot (goods l) 0), .int .i64 (ltot (goods l) 1), .int .i64 (ltot (goods l) 2), .int .i64 (ltot (goods l) 3), .int .i64 (lmost (goods l))] 33)
          have hL11 := hL10.alloc (.cells #[.int .i64 (ltot (goods l) 0), .int .i64 (ltot (goods l) 1), .int .i64 (ltot (goods l) 2), .int .i64 (ltot (goods l) 3), .int .i64 (lmost (goods l))] 33)
          have hNe := hNc.alloc (by omega) (.cells #[.int .i64 (ltot (goods l) 0), .int .i64 (ltot (goods l) 1), .int .i64 (ltot (goods l) 2), .int .i64 (ltot (goods l) 3), .int .i64 (lmost (goods l))] 33)
          have hb12 := hb11.alloc hb11.size (.cells #[.int .i64 (ltot (goods l) 0), .int .i64 (ltot (goods l) 1), .int .i64 (ltot (goods l) 2), .int .i64 (ltot (goods l) 3), .int .i64 (lmost (goods l))] 33)
          rw [hW9] at hK3 hK4 hL11 hNe hb12
          have hz9 := hK3.lt
          clear hW9 hK2 hL10 hNc hNd hb11
          have hB9 : w5.heap.size ≤ w9.heap.size := by omega
          generalize w8.heap.size = b2 at *
          refine (open_any bx S w9 hL11).mono ?_
          rw [I.o0, I.o1, I.o2, I.o3, I.most]
          rintro e wa ⟨rfl, hba⟩
          have hz10 := hba.size
          have hK5 := hK3.below hba hz9
          have hK6 := hK4.below hba (by omega)
          have hL12 := hL11.below hba hL11.lt
          have hNf := hNe.below (hba.mono hB9)
          have hb13 := hb12.trans (hba.mono hb12.size)
          clear hK3 hK4 hL11 hNe hb12 hba
          go_wp2_with fail
          have eLen : (goods l).length - (goods l).length / 32 * 32 = ((goods l).drop ((goods l).length / 32 * 32)).length := by rw [List.length_drop]
          rw [eLen]
          clear eLen
          refine (f17 A2 _ _ cap2 wa hNf (by rw [List.length_drop]; omega) (fun x hx => (goods_good l).out x (List.mem_of_mem_drop hx)) (by omega)).mono ?_
          rintro e wb ⟨rfl, hbb⟩
          have hK7 := hK5.below hbb (by omega)
          have hK8 := hK6.below hbb (by omega)
          have hL13 := hL12.below hbb hL12.lt
          have hb14 := hb13.trans (hbb.mono hb13.size)
          clear hK5 hK6 hL12 hb13 hbb hNf
          have hc7 := hK7.cell
          have hc8 := hK8.cell
          have eN : S.notes = (((goods l).length - (goods l).length / 32 * 32 : Nat) : Int) := by rw [I.notes]; omega
          have eW : S.windows = ((goods l).length : Int) / 32 := by rw [I.windows]; omega
          have HN := Lib.hid eN
          have HW := Lib.hid eW
          clear eN eW
          go_wp2_with fail
          refine (notes_any bx S wb hL13).mono ?_
          rw [HN.out]
          rintro e wc ⟨rfl, rfl⟩
          go_wp2_with fail
          refine (windows_any bx S wb hL13).mono ?_
          rw [HW.out]
          rintro e wc ⟨rfl, rfl⟩
          go_wp2_with fail
          refine (totalOf_any bx S what wb hL13).mono ?_
          rw [HT.out]
          rintro e wc ⟨rfl, rfl⟩
          go_wp2_with fail
          go_ret
          exact ⟨rfl, hb14⟩
        · have HT := Lib.hid (show S.total what = 0 from by unfold LS.total; split <;> (try split) <;> (try split) <;> (try split) <;> omega)
          go_wp2_with fail
          generalize hW9 : (w8.alloc (.cells #[.int .i64 (ltot (goods l) 0), .int .i64 (ltot (goods l) 1), .int .i64 (ltot (goods l) 2), .int .i64 (ltot (goods l) 3), .int .i64 (lmost (goods l))] 33)) = w9
          have hK3 := Blk.new w8 33 #[.int .i64 (ltot (goods l) 0), .int .i64 (ltot (goods l) 1), .int .i64 (ltot (goods l) 2), .int .i64 (ltot (goods l) 3), .int .i64 (lmost (goods l))]
          have hK4 := hK2.alloc (.cells #[.int .i64 (ltot (goods l) 0), .int .i64 (ltot (goods l) 1), .int .i64 (ltot (goods l) 2), .int .i64 (ltot (goods l) 3), .int .i64 (lmost (goods l))] 33)
          have hL11 := hL10.alloc (.cells #[.int .i64 (ltot (goods l) 0), .int .i64 (ltot (goods l) 1), .int .i64 (ltot (goods l) 2), .int .i64 (ltot (goods l) 3), .int .i64 (lmost (goods l))] 33)
          have hNe := hNc.alloc (by omega) (.cells #[.int .i64 (ltot (goods l) 0), .int .i64 (ltot (goods l) 1), .int .i64 (ltot (goods l) 2), .int .i64 (ltot (goods l) 3), .int .i64 (lmost (goods l))] 33)
          have hb12 := hb11.alloc hb11.size (.cells #[.int .i64 (ltot (goods l) 0), .int .i64 (ltot (goods l) 1), .int .i64 (ltot (goods l) 2), .int .i64 (ltot (goods l) 3), .int .i64 (lmost (goods l))] 33)
          rw [hW9] at hK3 hK4 hL11 hNe hb12
          have hz9 := hK3.lt
          clear hW9 hK2 hL10 hNc hNd hb11
          have hB9 : w5.heap.size ≤ w9.heap.size := by omega
          generalize w8.heap.size = b2 at *
          refine (open_any bx S w9 hL11).mono ?_
          rw [I.o0, I.o1, I.o2, I.o3, I.most]
          rintro e wa ⟨rfl, hba⟩
          have hz10 := hba.size
          have hK5 := hK3.below hba hz9
          have hK6 := hK4.below hba (by omega)
          have hL12 := hL11.below hba hL11.lt
          have hNf := hNe.below (hba.mono hB9)
          have hb13 := hb12.trans (hba.mono hb12.size)
          clear hK3 hK4 hL11 hNe hb12 hba
          go_wp2_with fail
          have eLen : (goods l).length - (goods l).length / 32 * 32 = ((goods l).drop ((goods l).length / 32 * 32)).length := by rw [List.length_drop]
          rw [eLen]
          clear eLen
          refine (f17 A2 _ _ cap2 wa hNf (by rw [List.length_drop]; omega) (fun x hx => (goods_good l).out x (List.mem_of_mem_drop hx)) (by omega)).mono ?_
          rintro e wb ⟨rfl, hbb⟩
          have hK7 := hK5.below hbb (by omega)
          have hK8 := hK6.below hbb (by omega)
          have hL13 := hL12.below hbb hL12.lt
          have hb14 := hb13.trans (hbb.mono hb13.size)
          clear hK5 hK6 hL12 hb13 hbb hNf
          have hc7 := hK7.cell
          have hc8 := hK8.cell
          have eN : S.notes = (((goods l).length - (goods l).length / 32 * 32 : Nat) : Int) := by rw [I.notes]; omega
          have eW : S.windows = ((goods l).length : Int) / 32 := by rw [I.windows]; omega
          have HN := Lib.hid eN
          have HW := Lib.hid eW
          clear eN eW
          go_wp2_with fail
          refine (notes_any bx S wb hL13).mono ?_
          rw [HN.out]
          rintro e wc ⟨rfl, rfl⟩
          go_wp2_with fail
          refine (windows_any bx S wb hL13).mono ?_
          rw [HW.out]
          rintro e wc ⟨rfl, rfl⟩
          go_wp2_with fail
          refine (totalOf_any bx S what wb hL13).mono ?_
          rw [HT.out]
          rintro e wc ⟨rfl, rfl⟩
          go_wp2_with fail
          go_ret
          exact ⟨rfl, hb14⟩
        · have HT := Lib.hid (show S.total what = 0 from by unfold LS.total; split <;> (try split) <;> (try split) <;> (try split) <;> omega)
          go_wp2_with fail
          generalize hW9 : (w8.alloc (.cells #[.int .i64 (ltot (goods l) 0), .int .i64 (ltot (goods l) 1), .int .i64 (ltot (goods l) 2), .int .i64 (ltot (goods l) 3), .int .i64 (lmost (goods l))] 33)) = w9
          have hK3 := Blk.new w8 33 #[.int .i64 (ltot (goods l) 0), .int .i64 (ltot (goods l) 1), .int .i64 (ltot (goods l) 2), .int .i64 (ltot (goods l) 3), .int .i64 (lmost (goods l))]
          have hK4 := hK2.alloc (.cells #[.int .i64 (ltot (goods l) 0), .int .i64 (ltot (goods l) 1), .int .i64 (ltot (goods l) 2), .int .i64 (ltot (goods l) 3), .int .i64 (lmost (goods l))] 33)
          have hL11 := hL10.alloc (.cells #[.int .i64 (ltot (goods l) 0), .int .i64 (ltot (goods l) 1), .int .i64 (ltot (goods l) 2), .int .i64 (ltot (goods l) 3), .int .i64 (lmost (goods l))] 33)
          have hNe := hNc.alloc (by omega) (.cells #[.int .i64 (ltot (goods l) 0), .int .i64 (ltot (goods l) 1), .int .i64 (ltot (goods l) 2), .int .i64 (ltot (goods l) 3), .int .i64 (lmost (goods l))] 33)
          have hb12 := hb11.alloc hb11.size (.cells #[.int .i64 (ltot (goods l) 0), .int .i64 (ltot (goods l) 1), .int .i64 (ltot (goods l) 2), .int .i64 (ltot (goods l) 3), .int .i64 (lmost (goods l))] 33)
          rw [hW9] at hK3 hK4 hL11 hNe hb12
          have hz9 := hK3.lt
          clear hW9 hK2 hL10 hNc hNd hb11
          have hB9 : w5.heap.size ≤ w9.heap.size := by omega
          generalize w8.heap.size = b2 at *
          refine (open_any bx S w9 hL11).mono ?_
          rw [I.o0, I.o1, I.o2, I.o3, I.most]
          rintro e wa ⟨rfl, hba⟩
          have hz10 := hba.size
          have hK5 := hK3.below hba hz9
          have hK6 := hK4.below hba (by omega)
          have hL12 := hL11.below hba hL11.lt
          have hNf := hNe.below (hba.mono hB9)
          have hb13 := hb12.trans (hba.mono hb12.size)
          clear hK3 hK4 hL11 hNe hb12 hba
          go_wp2_with fail
          have eLen : (goods l).length - (goods l).length / 32 * 32 = ((goods l).drop ((goods l).length / 32 * 32)).length := by rw [List.length_drop]
          rw [eLen]
          clear eLen
          refine (f17 A2 _ _ cap2 wa hNf (by rw [List.length_drop]; omega) (fun x hx => (goods_good l).out x (List.mem_of_mem_drop hx)) (by omega)).mono ?_
          rintro e wb ⟨rfl, hbb⟩
          have hK7 := hK5.below hbb (by omega)
          have hK8 := hK6.below hbb (by omega)
          have hL13 := hL12.below hbb hL12.lt
          have hb14 := hb13.trans (hbb.mono hb13.size)
          clear hK5 hK6 hL12 hb13 hbb hNf
          have hc7 := hK7.cell
          have hc8 := hK8.cell
          have eN : S.notes = (((goods l).length - (goods l).length / 32 * 32 : Nat) : Int) := by rw [I.notes]; omega
          have eW : S.windows = ((goods l).length : Int) / 32 := by rw [I.windows]; omega
          have HN := Lib.hid eN
          have HW := Lib.hid eW
          clear eN eW
          go_wp2_with fail
          refine (notes_any bx S wb hL13).mono ?_
          rw [HN.out]
          rintro e wc ⟨rfl, rfl⟩
          go_wp2_with fail
          refine (windows_any bx S wb hL13).mono ?_
          rw [HW.out]
          rintro e wc ⟨rfl, rfl⟩
          go_wp2_with fail
          refine (totalOf_any bx S what wb hL13).mono ?_
          rw [HT.out]
          rintro e wc ⟨rfl, rfl⟩
          go_wp2_with fail
          go_ret
          exact ⟨rfl, hb14⟩
end Go.Proofs.Ytifoeddeofhclaa
