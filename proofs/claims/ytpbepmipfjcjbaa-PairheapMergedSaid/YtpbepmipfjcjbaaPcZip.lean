/- The law: the texts Zip, laid end to end by a program. -/
import Derived.WalkMore
import Derived.Shelf.RegionOpenPlain
import Derived.Test.YtpbepmipfjcjbaaPk18
namespace Go.Proofs.Ytpbepmipfjcjbaa
open Go.RowKit
def mrg (a b : List Timer) : List Timer := a.merge b (fun x y => !(y.lt x))
theorem mrg_nil_left (b : List Timer) : mrg [] b = b := List.nil_merge b
theorem mrg_nil_right (a : List Timer) : mrg a [] = a := List.merge_right a
theorem mrg_cons (x y : Timer) (a b : List Timer) : mrg (x :: a) (y :: b) = if y.lt x = true then y :: mrg (x :: a) b else x :: mrg a (y :: b) := by
  unfold mrg
  rw [List.cons_merge_cons]
  cases y.lt x <;> simp
theorem mrg_sort {a b : List Timer} (ha : Srt a) (hb : Srt b) : mrg a b = sortL (a ++ b) := by
  refine Srt.sort_of ?_ (List.merge_perm_append _)
  have := List.pairwise_merge (le := fun x y : Timer => !(y.lt x)) ?_ ?_ a b ?_ ?_
  · unfold Srt mrg
    refine this.imp ?_
    intro x y h
    simpa using h
  · intro x y z h k
    simp only [Bool.not_eq_true'] at h k ⊢
    exact Timer.le_trans h k
  · intro x y
    cases h : y.lt x
    · rfl
    · simp [Timer.lt_asymm h]
  · exact List.Pairwise.imp (fun h => by simpa using h) ha
  · exact List.Pairwise.imp (fun h => by simpa using h) hb
def lenOf : Value → Nat
  | .slice _ n _ => n
  | _ => 0
set_option maxRecDepth 100000 in
set_option maxHeartbeats 4000000 in
theorem zip_any (va vb : Value) (la lb : List Timer) (w : World) (ha : LAt w va la) (hb : LAt w vb lb) (hl : la.length + lb.length ≤ 1000000) :
    Calls Try.prog 45 #[va, vb] w fun e w' => ∃ v', e = .returned v' ∧ OwnT w' w.heap.size v' (mrg la lb) ∧ Below w.heap.size w w' := by
  obtain ⟨A, ca, rfl, hTa, hca, hma, hAa, hga⟩ := ha
  obtain ⟨B, cb, rfl, hTb, hcb, hmb, hAb, hgb⟩ := hb
  have hsum : IntKind.i64.wrap ((la.length : Int) + lb.length) = ((la.length + lb.length : Nat) : Int) := (IntWalk.i64_in _ (by omega)).trans (by omega)
  go_enter Try.func45, Try.ntmps45
  obtain ⟨i0, hi, hz0, hz1, hz2⟩ := info_parts info_timer
  go_wp2_with (at_make; refine wpList_make_own _ rfl _ _ 28 rfl w.heap.size 35 i0 (.agg #[.int .u64 0, .int .u64 0, .int .i64 0]) 3 Try.underlying28 hi hz0 hz1 .i64 .i64 _ (la.length + lb.length) rfl rfl (by first | rfl | exact Int.natCast_add _ _ | omega) (by rw [hz2]; omega) (by unfold maxLen; omega) (Nat.le_refl _) ?_)
  intro w0 hown0 hgr0
  have ho0 : OwnT w0 w.heap.size (.slice (some ⟨w.heap.size, 0, none⟩) 0 (la.length + lb.length)) [] := hown0
  have hb0 : Below w.heap.size w w0 := ⟨hgr0.os, hgr0.tape, hgr0.output, hgr0.size, fun k hk => hgr0.block k hk (by simp)⟩
  have hLa0 : LB w0 w.heap.size (.slice A la.length ca) la := LB.below ⟨A, ca, rfl, hTa, hca, hma, hAa, fun g e => (hga g e).lt⟩ hb0 (Nat.le_refl _)
  have hLb0 : LB w0 w.heap.size (.slice B lb.length cb) lb := LB.below ⟨B, cb, rfl, hTb, hcb, hmb, hAb, fun g e => (hgb g e).lt⟩ hb0 (Nat.le_refl _)
  clear hown0 hgr0 hTa hca hma hAa hga hTb hcb hmb hAb hgb hi hz0 hz1 hz2
  go_wp2
  go_loopw [0, 1, 5] (fun va vb vo wr => ∃ a b m, LB wr w.heap.size va a ∧ LB wr w.heap.size vb b ∧ OwnT wr w.heap.size vo m ∧ m ++ mrg a b = mrg la lb ∧ a.length + b.length + m.length = la.length + lb.length ∧ Below w.heap.size w wr) (fun va vb _ _ => lenOf va + lenOf vb)
  case atStart => exact ⟨la, lb, [], hLa0, hLb0, ho0, rfl, rfl, hb0⟩
  case round =>
    obtain ⟨a, b, m, hLa, hLb, ho, hres, hlen, hbel⟩ := hrel
    have hB := hbel.size
    by_cases hne : a ≠ [] ∧ b ≠ []
    · obtain ⟨x, a', rfl⟩ : ∃ x a', a = x :: a' := by
        cases a with
        | nil => exact absurd rfl hne.1
        | cons x a' => exact ⟨x, a', rfl⟩
      obtain ⟨y, b', rfl⟩ : ∃ y b', b = y :: b' := by
        cases b with
        | nil => exact absurd rfl hne.2
        | cons y b' => exact ⟨y, b', rfl⟩
      clear hne
      have hLa' := hLa
      have hLb' := hLb
      obtain ⟨A1, c1, rfl, hT1, hc1, hm1, _, _⟩ := hLa
      obtain ⟨A2, c2, rfl, hT2, hc2, hm2, _, _⟩ := hLb
      obtain ⟨g1, o1, rfl, hg1, p0, p1, p2⟩ := hT1 0 (by simp)
      obtain ⟨g2, o2, rfl, hg2, q0, q1, q2⟩ := hT2 0 (by simp)
      simp only [Nat.zero_mul, Nat.add_zero, List.getElem_cons_zero] at p0 p1 p2 q0 q1 q2
      have hw1 : g1 < wr.heap.size := by omega
      have hw2 : g2 < wr.heap.size := by omega
      have hbd := cmp_any y x wr.drew
      have hcl := cmpT_lt y x
      rw [mrg_cons] at hres
      simp only [List.length_cons] at *
      generalize hna : a'.length = na at *
      generalize hnb : b'.length = nb at *
      have HNA := Lib.hid hna
      have HNB := Lib.hid hnb
      clear hna hnb
      have HRS := Lib.hid hres
      have HLN := Lib.hid hlen
      have HLA := Lib.hid hLa'
      have HLB := Lib.hid hLb'
      have HOW := Lib.hid ho
      have HCL := Lib.hid hcl
      have HBL := Lib.hid hbel
      unfold Timer.val at hbd
      clear hLa' hLb' hres hlen ho hcl hbel hT1 hT2
      generalize cmpT y x = cm at *
      go_wp2_with fail
      refine still_tail 6 (by kernel_rfl) (by kernel_rfl) ?_
      simp only [List.take_succ_cons, List.take_zero, List.drop_succ_cons, List.drop_zero]
      repeat still_step
      refine wpStill_nil ?_
      go_wp2_with fail
      refine hbd.mono ?_
      rintro e w1 ⟨rfl, hx⟩
      have hx' : Below wr.heap.size wr w1 := (Below.refl _ wr).drew.trans hx
      have hb1 := HBL.out.trans (Below.mono hx' hB)
      have l1 := HLA.out.below hx' hB
      have l2 := HLB.out.below hx' hB
      have ho1 := HOW.out.below hx' (Nat.le_refl _)
      have s0 := (World.cell?_of_block (a := ⟨g2, o2, none⟩) (hx'.block g2 hw2)).trans q0
      have s1 := (World.cell?_of_block (a := ⟨g2, o2 + 1, none⟩) (hx'.block g2 hw2)).trans q1
      have s2 := (World.cell?_of_block (a := ⟨g2, o2 + 2, none⟩) (hx'.block g2 hw2)).trans q2
      have t0 := (World.cell?_of_block (a := ⟨g1, o1, none⟩) (hx'.block g1 hw1)).trans p0
      have t1 := (World.cell?_of_block (a := ⟨g1, o1 + 1, none⟩) (hx'.block g1 hw1)).trans p1
      have t2 := (World.cell?_of_block (a := ⟨g1, o1 + 2, none⟩) (hx'.block g1 hw1)).trans p2
      have hB1 := hb1.size
      have HX1 := Lib.hid hb1
      have HL1 := Lib.hid l1
      have HL2 := Lib.hid l2
      have HO1 := Lib.hid ho1
      have hmix : Try.prog.follows .mixedOrders = true := by kernel_rfl
      have hw11 : g1 < w1.heap.size := Nat.lt_of_lt_of_le hw1 hx'.size
      have hw21 : g2 < w1.heap.size := Nat.lt_of_lt_of_le hw2 hx'.size
      clear hx hx' hb1 l1 l2 ho1 q0 q1 q2 p0 p1 p2 HBL HLA HLB HOW hbd
      have hnb1 : (1 : Int) ≤ (nb : Int) + 1 := by omega
      have hna1 : (1 : Int) ≤ (na : Int) + 1 := by omega
      by_cases hcm : cm < 0
      · have hyx : y.lt x = true := by rw [← HCL.out]; exact decide_eq_true hcm
        go_upto_region 4 with fail
        go_region_law_o (refine step_app_T rfl (.tmp 28) (.tmp 32) rfl w.heap.size u5 m (by simp [Act.eval]) (by first | exact HO1.out.alloc _ | exact OwnT.alloc HO1.out _) (.slice (some ⟨w1.heap.size, 0, none⟩) 1 1) [y] (by simp [Act.eval]) (LAt.one _ y).lw (by simp only [List.length_cons, List.length_nil]; have := HLN.out; omega) (by simp; omega) ?_; intro v2 w2 ho2 hg2)
        have hoA : OwnT ((w1.alloc (.cells #[.int .u64 y.at_, .int .u64 y.seq, .int .i64 y.place] 35)).drew) w.heap.size u5 m := HO1.out.alloc _
        have hb12 : Below w.heap.size w1 w2 := grown_below hoA hg2 (((Below.refl _ w1).alloc hB1 _).drew) (by simp; omega)
        have hb2 := HX1.out.trans hb12
        have HB2 := Lib.hid hb2
        have HB12 := Lib.hid hb12
        have HO2 := Lib.hid ho2
        clear hoA hg2 hb2 hb12 ho2 s0 s1 s2 t0 t1 t2
        go_wp2
        all_goals
          have hT := HL2.out.tail
          rw [HNB.out] at hT
          have hT2 := hT.below HB12.out (Nat.le_refl _)
          have hR : (m ++ [y]) ++ mrg (x :: a') b' = mrg la lb := by
            have := HRS.out
            rw [if_pos hyx] at this
            rw [← this]
            simp
          have hN : (x :: a').length + (b').length + (m ++ [y]).length = la.length + lb.length := by
            have := HLN.out
            simp only [List.length_cons, List.length_append, List.length_nil, HNA.out, HNB.out]
            omega
          have hS : LB w2 w.heap.size _ _ := HL1.out.below HB12.out (Nat.le_refl _)
          first
            | (rw [if_pos (by assumption)] at hT2
               refine ⟨⟨_, _, _, ⟨_, hS, _, ?_, _, HO2.out, hR, hN, HB2.out⟩, rfl, rfl, rfl⟩, by simp [lenOf]⟩
               first | exact hT2 | exact hS | (rw [show c2 = 1 from by assumption] at hT2; exact hT2))
            | (rw [if_neg (by assumption)] at hT2
               exact ⟨⟨_, _, _, ⟨_, hS, _, hT2, _, HO2.out, hR, hN, HB2.out⟩, rfl, rfl, rfl⟩, by simp [lenOf]⟩)
      · have hyx : ¬ y.lt x = true := by rw [← HCL.out]; simpa using hcm
        go_upto_region 5 with fail
        go_region_law_o (refine step_app_T rfl (.tmp 36) (.tmp 40) rfl w.heap.size u5 m (by simp [Act.eval]) (by first | exact HO1.out.alloc _ | exact OwnT.alloc HO1.out _) (.slice (some ⟨w1.heap.size, 0, none⟩) 1 1) [x] (by simp [Act.eval]) (LAt.one _ x).lw (by simp only [List.length_cons, List.length_nil]; have := HLN.out; omega) (by simp; omega) ?_; intro v2 w2 ho2 hg2)
        have hoA : OwnT ((w1.alloc (.cells #[.int .u64 x.at_, .int .u64 x.seq, .int .i64 x.place] 35)).drew) w.heap.size u5 m := HO1.out.alloc _
        have hb12 : Below w.heap.size w1 w2 := grown_below hoA hg2 (((Below.refl _ w1).alloc hB1 _).drew) (by simp; omega)
        have hb2 := HX1.out.trans hb12
        have HB2 := Lib.hid hb2
        have HB12 := Lib.hid hb12
        have HO2 := Lib.hid ho2
        clear hoA hg2 hb2 hb12 ho2 s0 s1 s2 t0 t1 t2
        go_wp2
        all_goals
          have hT := HL1.out.tail
          rw [HNA.out] at hT
          have hT2 := hT.below HB12.out (Nat.le_refl _)
          have hR : (m ++ [x]) ++ mrg a' (y :: b') = mrg la lb := by
            have := HRS.out
            rw [if_neg hyx] at this
            rw [← this]
            simp
          have hN : (a').length + (y :: b').length + (m ++ [x]).length = la.length + lb.length := by
            have := HLN.out
            simp only [List.length_cons, List.length_append, List.length_nil, HNA.out, HNB.out]
            omega
          have hS : LB w2 w.heap.size _ _ := HL2.out.below HB12.out (Nat.le_refl _)
          first
            | (rw [if_pos (by assumption)] at hT2
               refine ⟨⟨_, _, _, ⟨_, ?_, _, hS, _, HO2.out, hR, hN, HB2.out⟩, rfl, rfl, rfl⟩, by simp [lenOf]⟩
               first | exact hT2 | exact hS | (rw [show c1 = 1 from by assumption] at hT2; exact hT2))
            | (rw [if_neg (by assumption)] at hT2
               exact ⟨⟨_, _, _, ⟨_, hT2, _, hS, _, HO2.out, hR, hN, HB2.out⟩, rfl, rfl, rfl⟩, by simp [lenOf]⟩)
    · have hex : mrg a b = a ++ b := by
        cases a with
        | nil => rw [mrg_nil_left]; rfl
        | cons x a' =>
          cases b with
          | nil => rw [mrg_nil_right, List.append_nil]
          | cons y b' => exact absurd ⟨by simp, by simp⟩ hne
      rw [hex, ← List.append_assoc] at hres
      have hla := hLa.lw hB
      obtain ⟨A1, c1, rfl, _, hc1, hm1, _, _⟩ := hLa
      have hLb' := hLb
      obtain ⟨A2, c2, rfl, _, hc2, hm2, _, _⟩ := hLb
      have HRS := Lib.hid hres
      have HLA := Lib.hid hla
      have HLB := Lib.hid hLb'
      have HOW := Lib.hid ho
      have HBL := Lib.hid hbel
      clear hla hLb' hres ho hbel hex
      by_cases ha0 : a.length = 0
      · have HLA0 : Hid (LW wr (.slice A1 0 c1) a) := by rw [← ha0]; exact HLA
        have HLB0 := HLB
        have hml : m.length + a.length ≤ 1000000 := by omega
        have hml2 : (m ++ a).length + b.length ≤ 1000000 := by simp; omega
        have HML := Lib.hid hml
        have HML2 := Lib.hid hml2
        clear hne HLB hml hml2
        go_wp2_with (at_builtin; first | refine wpList_app_T rfl _ _ rfl w.heap.size u5 m rfl HOW.out _ a rfl HLA0.out HML.out hB ?_ | refine wpList_app_T rfl _ _ rfl w.heap.size u5 m rfl HOW.out _ a rfl HLA.out HML.out hB ?_)
        intro v1 w1 ho1 hg1
        have hb1 := grown_below HOW.out hg1 HBL.out hB
        have hb01 := grown_below HOW.out hg1 (Below.refl w.heap.size wr) hB
        have hl1 := (HLB0.out.below hb01 (Nat.le_refl _)).lw hb1.size
        have hB1 := hb1.size
        have HB1 := Lib.hid hb1
        have HO1 := Lib.hid ho1
        have HL1 := Lib.hid hl1
        clear hg1 hb01 hb1 ho1 hl1 HOW HLA0 HLB0 HBL
        go_wp2_with (at_builtin; refine wpList_app_T rfl _ _ rfl w.heap.size v1 (m ++ a) rfl HO1.out _ b rfl HL1.out HML2.out hB1 ?_)
        intro v2 w2 ho2 hg2
        have hb2 := grown_below HO1.out hg2 HB1.out hB1
        have ho2' : OwnT w2 w.heap.size v2 (mrg la lb) := by
          rw [← HRS.out]
          first | exact ho2 | simpa using ho2
        clear hg2 HO1 HL1 HB1 HRS ho2
        go_wp2
        go_ret
        exact ⟨_, rfl, ho2', hb2⟩
      · have hb0' : b.length = 0 := by
          cases b with
          | nil => rfl
          | cons y b' => exact absurd ⟨fun e => ha0 (by rw [e]; rfl), by simp⟩ hne
        have HLB0 : Hid (LB wr w.heap.size (.slice A2 0 c2) b) := by rw [← hb0']; exact HLB
        have HLA0 := HLA
        have hp : (0 : Int) < a.length := by omega
        have hml : m.length + a.length ≤ 1000000 := by omega
        have hml2 : (m ++ a).length + b.length ≤ 1000000 := by simp; omega
        have HML := Lib.hid hml
        have HML2 := Lib.hid hml2
        clear hml hml2
        clear hne HLB
        go_wp2_with (at_builtin; first | refine wpList_app_T rfl _ _ rfl w.heap.size u5 m rfl HOW.out _ a rfl HLA0.out HML.out hB ?_ | refine wpList_app_T rfl _ _ rfl w.heap.size u5 m rfl HOW.out _ a rfl HLA.out HML.out hB ?_)
        intro v1 w1 ho1 hg1
        have hb1 := grown_below HOW.out hg1 HBL.out hB
        have hb01 := grown_below HOW.out hg1 (Below.refl w.heap.size wr) hB
        have hl1 := (HLB0.out.below hb01 (Nat.le_refl _)).lw hb1.size
        have hB1 := hb1.size
        have HB1 := Lib.hid hb1
        have HO1 := Lib.hid ho1
        have HL1 := Lib.hid hl1
        clear hg1 hb01 hb1 ho1 hl1 HOW HLA0 HLB0 HBL
        go_wp2_with (at_builtin; refine wpList_app_T rfl _ _ rfl w.heap.size v1 (m ++ a) rfl HO1.out _ b rfl HL1.out HML2.out hB1 ?_)
        intro v2 w2 ho2 hg2
        have hb2 := grown_below HO1.out hg2 HB1.out hB1
        have ho2' : OwnT w2 w.heap.size v2 (mrg la lb) := by
          rw [← HRS.out]
          first | exact ho2 | simpa using ho2
        clear hg2 HO1 HL1 HB1 HRS ho2
        go_wp2
        go_ret
        exact ⟨_, rfl, ho2', hb2⟩
end Go.Proofs.Ytpbepmipfjcjbaa
