/- The law: the texts LawHT, laid end to end by a program. -/
import Derived.Test.YtckkfbepclogcaaDoorPcLawHA
import Derived.Test.YtckkfbepclogcaaDoorPcAppT
namespace Go.Proofs.YtckkfbepclogcaaDoor
open Go.RowKit
theorem HQ.srt {w : World} {q tb c nb P S : Nat} {base lk : Int} {m : List Timer} (h : HQ w q tb c nb P S base lk m) : Srt m := by
  obtain ⟨s, b, h1, h2, h3⟩ := h.ex
  exact h2.srt
/-- What the rounds keep: i ticks have gone by, one by one, upon the first wheel; the second one is as it was. -/
structure ST (w0 : World) (B q tb c nb o tb2 c2 nb2 P S : Nat) (b k2 : Int) (m : List Timer) (i : Nat) (v : Value) (w : World) : Prop where
  q : ∃ k1, HQ w q tb c nb P S (b + i) k1 (dueL m (b + i) false)
  o : HQ w o tb2 c2 nb2 P S b k2 m
  own : OwnT w B v (dueL m (b + i) true)
  below : Below w0.heap.size w0 w
  size : B ≤ w.heap.size
theorem chg_grown {w w' : World} {v : Value} (hg : w.grownBy w' v.ownBlock) : Chg (fun k => v.ownBlock = some k) w w' :=
  ⟨hg.os, hg.tape, hg.output, hg.size, fun k hk hn => hg.block k hk (fun e => hn e.symm)⟩
/-! The end: the second wheel goes all the way at once; then both are held against each other. -/
def FX (B q o : Nat) (b n : Int) (v0 : Value) (L m1 : List Timer) (j : Nat) (v : Value) (w : World) : Prop := match j with
  | 0 => v = v0
  | 1 => v = .pointer (some ⟨o, 0, none⟩)
  | 2 => v = .int .u64 b
  | 3 => v = .int .i64 n
  | 4 => v = .int .u64 n
  | 5 => v = .int .u64 (b + n)
  | 6 => LF B w v L
  | 7 => v = .bool true
  | 8 => v = .bool true
  | 9 => v = .pointer (some ⟨q, 0, none⟩)
  | 10 => v = .pointer (some ⟨q, 0, none⟩)
  | 11 => v = .pointer (some ⟨q, 0, none⟩)
  | 12 => LF B w v m1
  | 13 => v = .pointer (some ⟨o, 0, none⟩)
  | 14 => v = .pointer (some ⟨o, 0, none⟩)
  | 15 => v = .pointer (some ⟨o, 0, none⟩)
  | 16 => LF B w v m1
  | _ => v = .bool true
theorem FX.keep {B q o tb2 nb2 : Nat} {b n : Int} {v0 : Value} {L m1 : List Timer} (hT : ∀ i, HS o tb2 nb2 i → i < B) (i j : Nat) (v : Value) (w w' : World) (_ : j ≠ i) (h : FX B q o b n v0 L m1 j v w) (r : Chg (HS o tb2 nb2) w w') : FX B q o b n v0 L m1 j v w' := by
  unfold FX at h ⊢
  split at h <;> first | exact h | exact h.chg r hT
structure SX (B q tb c nb o tb2 c2 nb2 P S : Nat) (b n k1 k2 k3 : Int) (m m1 L : List Timer) (v0 : Value) (w0 : World) (p : Nat → Bool) (w : World) : Prop where
  q : HQ w q tb c nb P S (b + n) k1 m1
  o0 : p 6 = false → HQ w o tb2 c2 nb2 P S b k2 m
  o1 : p 6 = true → HQ w o tb2 c2 nb2 P S (b + n) k3 m1
  v : LF B w v0 L
  size : B ≤ w.heap.size
  below : Below w0.heap.size w0 w
  tab : TabAt w
  c7 : p 7 = true → p 6 = true
  c8 : p 8 = true → p 7 = true
section
variable {B q tb c nb o tb2 c2 nb2 P S x : Nat} {b n k1 k2 k3 : Int} {m m1 L : List Timer} {v0 : Value} {w0 w w' : World} {p : Nat → Bool}
theorem SX.quiet (h : SX B q tb c nb o tb2 c2 nb2 P S b n k1 k2 k3 m m1 L v0 w0 p w) (r : Below w.heap.size w w') (i : Nat) (h6 : i ≠ 6) (g7 : i = 7 → p 6 = true) (g8 : i = 8 → p 7 = true) : SX B q tb c nb o tb2 c2 nb2 P S b n k1 k2 k3 m m1 L v0 w0 (also p i) w' := by
  have e6 : also p i 6 = p 6 := also_ne p (fun e => h6 e.symm)
  refine ⟨h.q.below r, fun y => (h.o0 (e6 ▸ y)).below r, fun y => (h.o1 (e6 ▸ y)).below r, h.v.chg (Chg.of_same r (fun _ => False)) (fun _ e => e.elim), Nat.le_trans h.size r.size, h.below.trans (Below.mono r h.below.size), h.tab.below r (glob_lt h.tab), fun y => ?_, fun y => ?_⟩
  · rw [e6]
    by_cases hi : i = 7
    · exact g7 hi
    · rw [also_ne p (fun e => hi e.symm)] at y
      exact h.c7 y
  · have h8 : p 7 = true := by
      by_cases hi : i = 8
      · exact g8 hi
      · rw [also_ne p (fun e => hi e.symm)] at y
        exact h.c8 y
    by_cases hi : i = 7
    · subst hi; exact also_at p 7
    · rw [also_ne p (fun e => hi e.symm)]; exact h8
theorem SX.due (h : SX B q tb c nb o tb2 c2 nb2 P S b n k1 k2 (lookL m b S (b + n)) m (dueL m (b + n) false) (dueL m (b + n) true) v0 w0 p w) (A : Apart w0 q tb c nb o tb2 c2 nb2 x) (hT : TabAt w0) (z : HSz P S) (hp : p 6 = false) (hlt : ∀ i, HS o tb2 nb2 i → i < B) (hge : ∀ i, HS o tb2 nb2 i → w0.heap.size ≤ i) (hn : 0 ≤ n) (ub : U64 b) (un : U64 (b + n)) :
    Calls Tryd.prog 28 #[.pointer (some ⟨o, 0, none⟩), .int .u64 (b + n)] w fun e w' => ∃ v, e = .returned v ∧ LF B w' v (dueL m (b + n) true) ∧ Chg (HS o tb2 nb2) w w' ∧ (false = true → Frsh v w w') ∧ SX B q tb c nb o tb2 c2 nb2 P S b n k1 k2 (lookL m b S (b + n)) m (dueL m (b + n) false) (dueL m (b + n) true) v0 w0 (also p 6) w' := by
  refine (hq_due o tb2 c2 nb2 P S b k2 (b + n) m w (h.o0 hp) z ub un h.tab).mono ?_
  rintro e w' ⟨v, rfl, ho, hq, hk⟩
  rw [show max b (b + n) = b + n by omega] at hq
  have e7 : also p 6 7 = p 7 := also_ne p (by decide)
  have e8 : also p 6 8 = p 8 := also_ne p (by decide)
  refine ⟨v, rfl, ho.lf.mono h.size, hk, (fun h => by cases h), A.one h.q hk, fun y => ?_, fun _ => hq, h.v.chg hk hlt, Nat.le_trans h.size hk.size, below_chg h.below (Nat.le_refl _) hk hge, h.tab.chg hk (fun e => by have := hge _ e; have := glob_lt hT; omega), fun _ => also_at p 6, fun y => ?_⟩
  · rw [also_at] at y
    cases y
  · rw [e8] at y
    rw [e7]
    exact h.c8 y
end
attribute [local irreducible] Calls
set_option linter.unusedSimpArgs false in
set_option maxRecDepth 100000 in
set_option maxHeartbeats 4000000 in
theorem hsteps (P bits base n : Int) (A : Option Addr) (l : List Act) (c : Nat) (w : World) (hT : TabAt w) (hA : AcAt w w.heap.size A l) (ha : AcOk l) (hlen : l.length ≤ 2 ^ 63 - 1) (ub : U64 base) :
    Calls Tryd.prog 7 #[.int .i64 P, .int .i64 bits, .int .u64 base, .slice A l.length c, .int .i64 n] w fun e w' => e = .returned (.bool true) ∧ Below w.heap.size w w' := by
  have hw := hworks w hT
  go_enter Tryd.func7, Tryd.ntmps7
  go_wp2_with fail
  refine hw.mono ?_
  rintro e w1 ⟨rfl, hb⟩
  have hT1 := hT.below hb (glob_lt hT)
  have hA1 := hA.below hb (Nat.le_refl _)
  clear hw
  by_cases hl : 60 < l.length
  · have hl2 : (60 : Int) < l.length := by omega
    have HB := Lib.hid hb
    clear hA hA1 hb
    go_wp2_with fail
    go_ret
    exact ⟨rfl, HB.out⟩
  · have hl2 : ¬ (60 : Int) < l.length := by omega
    by_cases hn0 : n < 0
    · have HB := Lib.hid hb
      clear hA hA1 hb
      go_wp2_with fail
      go_ret
      exact ⟨rfl, HB.out⟩
    · by_cases hn3 : 300 < n
      · have HB := Lib.hid hb
        clear hA hA1 hb
        go_wp2_with fail
        go_ret
        exact ⟨rfl, HB.out⟩
      · by_cases hok : NewOk P bits
        · obtain ⟨bn, rfl⟩ := Int.eq_ofNat_of_zero_le (show 0 ≤ bits by have := hok.2.2.1; omega)
          obtain ⟨nn, rfl⟩ := Int.eq_ofNat_of_zero_le (show 0 ≤ n by omega)
          have hbn : bn ≤ 6 := by have := hok.2.2.2; omega
          have z := slotsN_ok hok
          have hs1 := hb.size
          have hat : ∀ wx, Below w.heap.size w wx → AcAt wx wx.heap.size A l := fun wx hx i hi => by obtain ⟨b, o, e, h1, h2⟩ := (hA.below hx (Nat.le_refl _)) i hi; exact ⟨b, o, e, Nat.lt_of_lt_of_le h1 hx.size, h2⟩
          have hn := hbuilt_ok P bn base A l c w1 hok (hat w1 hb) ha ub (by omega) hT1
          have hn2 := fun wx hx => hbuilt_ok P bn base A l c wx hok (hat wx hx) ha ub (by omega) (hT.below hx (glob_lt hT))
          have uA := baseA_u64 ub l ha
          clear hA hA1 ha hat
          go_wp2_with fail
          refine hn.mono ?_
          rintro e w2 ⟨q, tb, c1, nb, k1, rfl, hq, hx, g1, g2, g3, g4⟩
          have hb2 := hb.trans (Below.mono hx hb.size)
          obtain ⟨l1, l2, l3, l4⟩ := hq.lts
          have hn2 := hn2 w2 hb2
          clear hn hx hb hT1
          go_wp2_with fail
          refine hn2.mono ?_
          rintro e w3 ⟨o, tb2, c2, nb2, k2, rfl, ho, hx, m1, m2, m3, m4⟩
          have hq3 := hq.below hx
          have hb3 := hb2.trans (Below.mono hx hb2.size)
          have AP : Apart w q tb c1 nb o tb2 c2 nb2 w2.heap.size := ⟨⟨by omega, l1⟩, ⟨by omega, l2⟩, ⟨by omega, l3⟩, ⟨by omega, l4⟩, m1, m2, m3, m4⟩
          have hs2 := hb2.size
          have hge : ∀ i, HS o tb2 nb2 i → w.heap.size ≤ i := fun i e => by unfold HS at e; omega
          clear hn2 hx hb2 hq g1 g2 g3 g4 m1 m2 m3 m4 l1 l2 l3 l4 hs1
          generalize behindL P l = m at *
          generalize baseA base l = b at *
          generalize slotsN bn = S at *
          obtain ⟨l1, l2, l3, l4⟩ := hq3.lts
          obtain ⟨m1, m2, m3, m4⟩ := ho.lts
          have hml := hq3.len
          have hsrt := hq3.srt
          generalize P.toNat = Pn at *
          have hba := hq_base q tb c1 nb Pn S b k1 m w3 hq3
          have j1 : IntKind.u64.wrap (nn : Int) = (nn : Int) := IntWalk.u64_in _ (by omega)
          have j2 : IntKind.u64.wrap (18446744073709551615 - (nn : Int)) = 18446744073709551615 - (nn : Int) := IntWalk.u64_in _ (by omega)
          by_cases hnv : 18446744073709551615 - (nn : Int) < b
          · have HB := Lib.hid hb3
            clear hq3 ho hb3 AP hge z hT
            go_wp2_with fail
            refine hba.mono ?_
            rintro e wx ⟨rfl, rfl⟩
            go_wp2_with fail
            go_ret
            exact ⟨rfl, HB.out⟩
          · have ubn : ∀ j : Nat, j ≤ nn → U64 (b + j) := fun j hj => by unfold U64 at *; omega
            have hT3 := hT.below hb3 (glob_lt hT)
            have hdu := hq_due q tb c1 nb Pn S b k1 b m w3 hq3 z uA uA hT3
            clear hq3
            go_wp2_with fail
            refine hba.mono ?_
            rintro e wx ⟨rfl, rfl⟩
            go_wp2_with fail
            refine hdu.mono ?_
            rintro e w4 ⟨v4, rfl, hO, hq, hk⟩
            rw [show max b b = b by omega] at hq
            have hst : ST w w3.heap.size q tb c1 nb o tb2 c2 nb2 Pn S b k2 m 0 v4 w4 :=
              ⟨⟨_, by simpa using hq⟩, AP.two ho hk, by simpa using hO, AP.below hb3 (chg_one hk), hk.size⟩
            clear hba hdu hO hq hk ho hb3 hT3
            generalize w3.heap.size = B at *
            have hwB : w.heap.size ≤ B := by have := AP.lq; omega
            have j1' := Lib.hid j1
            clear j1 j2
            go_wp2_with fail
            go_loopw [17, 18] (fun v i wr => ∃ j : Nat, j ≤ nn ∧ i = .int .i64 ((j : Int) + 1) ∧ ST w B q tb c1 nb o tb2 c2 nb2 Pn S b k2 m j v wr) (fun _ i _ => nn + 1 - (intOf i).toNat)
            case atStart => exact ⟨0, Nat.zero_le _, rfl, hst⟩
            case round =>
              clear hst
              obtain ⟨j, hj, rfl, hst⟩ := hrel
              by_cases hlt : j < nn
              · obtain ⟨⟨k1, hq⟩, ho, hO, hbr, hBs⟩ := hst
                have hL := due_lens m (b + (j : Int))
                have hD2 := due_lens (dueL m (b + (j : Int)) false) (b + ((j : Int) + 1))
                have TWO := Lib.hid (due_two hsrt (show b + (j : Int) ≤ b + ((j : Int) + 1) by omega))
                have REST := Lib.hid (due_rest m (show b + (j : Int) ≤ b + ((j : Int) + 1) by omega))
                have ubj := ubn j hj
                have ubj1 : U64 (b + ((j : Int) + 1)) := by have := ubn (j + 1) (by omega); simpa using this
                have i1 : IntKind.u64.wrap ((j : Int) + 1) = (j : Int) + 1 := IntWalk.u64_in _ (by omega)
                have i2 : IntKind.u64.wrap (b + ((j : Int) + 1)) = b + ((j : Int) + 1) := IntWalk.u64_in _ (by unfold U64 at ubj1; omega)
                have hP := z.hP
                have hown0 : OwnT (wr.alloc (.cells #[] 37)) wr.heap.size (.slice (some ⟨wr.heap.size, 0, none⟩) 0 0) [] := ⟨rfl, .inr ⟨wr.heap.size, 0, #[], rfl, Nat.le_refl _, heap_alloc_new _ _, Nat.le_refl _, by simp [maxLen], rfl, rfl⟩⟩
                have HO0 := Lib.hid hown0
                have HL1 := Lib.hid (hO.lat.on (alloc_kept' wr (.cells #[] 37)))
                have hln : ([] : List Timer).length + (dueL m (b + (j : Int)) true).length ≤ 1000000 := by simp; omega
                go_wp2_with (at_builtin; refine wpList_app_T rfl _ _ rfl wr.heap.size _ [] rfl HO0.out _ _ rfl HL1.out.lw hln (by simp) ?_)
                intro v3 w3' ho3 hg3
                have hx : Below wr.heap.size wr w3' := ((Below.refl wr.heap.size wr).alloc (Nat.le_refl _) _).grown hg3 (by simp) fun k hk => (by simp [Value.ownBlock] at hk; omega)
                have hq3 := hq.below hx
                have ho3' := ho.below hx
                have hb3' := hbr.trans (Below.mono hx hbr.size)
                have hs3 := hx.size
                have hdu := hq_due q tb c1 nb Pn S (b + (j : Int)) k1 (b + ((j : Int) + 1)) (dueL m (b + (j : Int)) false) w3' hq3 z ubj ubj1 (hT.below hb3' (glob_lt hT))
                have HM := Lib.hid (show max (b + (j : Int)) (b + ((j : Int) + 1)) = b + ((j : Int) + 1) by omega)
                clear hq ho hbr hown0 HO0 HL1 hg3 hO hx hln
                go_wp2_with fail
                refine hdu.mono ?_
                rintro e w5 ⟨u, rfl, hU, hq5, hk⟩
                have ho5 := AP.two ho3' hk
                have hb5 := AP.below hb3' (chg_one hk)
                have hs5 := hk.size
                have ho5' : OwnT w5 B v3 (dueL m (b + (j : Int)) true) := (ownsRow_keep ho3 fun g hg e => hk.block g hg (by have := own_base ho3 g e; unfold HS; omega)).mono hBs
                have HO := Lib.hid ho5'
                have HU := Lib.hid hU.lat
                have hln : (dueL m (b + (j : Int)) true).length + (dueL (dueL m (b + (j : Int)) false) (b + ((j : Int) + 1)) true).length ≤ 1000000 := by omega
                clear hdu ho3 ho3' hb3' hk hq3 hU
                go_wp2_with (at_builtin; refine wpList_app_T rfl _ _ rfl B _ _ rfl HO.out _ _ rfl HU.out.lw hln (by omega) ?_)
                intro v7 w7 ho7 hg7
                have hk7 := chg_grown hg7
                have own7 := own_base HO.out
                have hnx : ∀ k, v3.ownBlock = some k → B ≤ k := own7
                rw [TWO.out] at ho7
                rw [REST.out, HM.out] at hq5
                have hst : ST w B q tb c1 nb o tb2 c2 nb2 Pn S b k2 m (j + 1) v7 w7 :=
                  ⟨⟨_, by simpa using hq5.chg hk7 (fun e => by have := hnx _ e; omega) (fun e => by have := hnx _ e; omega) (fun e => by have := hnx _ e; omega) (fun e => by have := hnx _ e; omega)⟩, ho5.chg hk7 (fun e => by have := hnx _ e; omega) (fun e => by have := hnx _ e; omega) (fun e => by have := hnx _ e; omega) (fun e => by have := hnx _ e; omega), by simpa using ho7, below_chg hb5 (Nat.le_refl _) hk7 (fun k e => by have := hnx _ e; omega), by have := hk7.size; omega⟩
                clear hq5 ho5 hb5 ho7 hk7 hnx own7 HO HU hln hg7 ho5' i1 i2
                go_wp2_with fail
                go_roundw
                case rel => exact ⟨j + 1, by omega, by go_num, hst⟩
                case measure => simp [intOf]; omega
              · obtain rfl : j = nn := by omega
                obtain ⟨⟨k1, hq⟩, ho, hO, hbr, hBs⟩ := hst
                have hP := z.hP
                have hlL := due_lens m (b + (j : Int))
                have ubj := ubn j hj
                have j1 := j1'.out
                have i2 : IntKind.u64.wrap (b + (j : Int)) = b + (j : Int) := IntWalk.u64_in _ (by unfold U64 at ubj; omega)
                have hTB : ∀ i, HS o tb2 nb2 i → i < B := fun i e => by unfold HS at e; omega
                go_upto_region 18 with fail
                have hs0 : SX B q tb c1 nb o tb2 c2 nb2 Pn S b j k1 k2 (lookL m b S (b + (j : Int))) m (dueL m (b + (j : Int)) false) (dueL m (b + (j : Int)) true) u17 w (fun _ => false) wr.drew :=
                  ⟨hq.drew, fun _ => ho.drew, (fun h => by cases h), hO.lf.chg (Chg.of_same (Below.refl _ _).drew (fun _ => False)) (fun _ e => e.elim), hBs, hbr.drew, hT.below hbr.drew (glob_lt hT), (fun h => by cases h), fun h => by cases h⟩
                clear hq ho hbr hO hBs
                refine region_facts_set 19 (fun _ => false) (FX B q o b j u17 (dueL m (b + (j : Int)) true) (dueL m (b + (j : Int)) false)) (SX B q tb c1 nb o tb2 c2 nb2 Pn S b j k1 k2 (lookL m b S (b + (j : Int))) m (dueL m (b + (j : Int)) false) (dueL m (b + (j : Int)) true) u17 w) (fun _ x y => Chg (HS o tb2 nb2) x y) [92, 93, 94, 95, 96, 97, 98, 99, 100, 101, 102, 103, 104, 105, 106, 107, 108, 109, 110] (by kernel_rfl) (by kernel_rfl) (by kernel_rfl) (by decide) (by kernel_rfl) (by kernel_rfl) (FX.keep hTB) (fun _ _ _ h => h.size) hs0 ?_ ?_
                · intro fr hfr
                  have f17 : fr.getD 17 undef = u17 := by rw [hfr]; rfl
                  have f14 : fr.getD 14 undef = .pointer (some ⟨o, 0, none⟩) := by rw [hfr]; rfl
                  have f12 : fr.getD 12 undef = .pointer (some ⟨q, 0, none⟩) := by rw [hfr]; rfl
                  have f16 : fr.getD 16 undef = .int .u64 b := by rw [hfr]; rfl
                  have f4 : fr.getD 4 undef = .int .i64 j := by rw [hfr]; rfl
                  clear hfr
                  iterate 19
                    refine ⟨⟨by first | trivial | exact ⟨rfl, fun _ _ h => h⟩, ?_⟩, ?_⟩
                    · intro ρ w' p hp hdq hρ hd hSt
                      simp only [DepF, Region.binds, List.getD_cons_zero, List.getD_cons_succ, FX, forall_const, and_true, true_and] at hd
                      simp only [DepQ, Region.binds, forall_const, and_true] at hdq
                      have hcon := hρ.con
                      have e17 := (hρ.slot 17 (by kernel_rfl)).trans f17
                      have e14 := (hρ.slot 14 (by kernel_rfl)).trans f14
                      have e12 := (hρ.slot 12 (by kernel_rfl)).trans f12
                      have e16 := (hρ.slot 16 (by kernel_rfl)).trans f16
                      have e4 := (hρ.slot 4 (by kernel_rfl)).trans f4
                      have hdk := Lib.hid hdq
                      clear hdq
                      (try rw [execOp_call_fn _ _ _ _ _ _ _ _ _ (hρ.fn _)])
                      go_simp
                      (try simp only [GoodQ, FX])
                      first
                        | exact ⟨rfl, Chg.refl _ _, fun h => absurd h (by decide), hSt.quiet (Below.refl _ _) _ (by decide) (fun h => absurd h (by decide)) (fun h => absurd h (by decide))⟩
                        | exact ⟨trivial, Chg.refl _ _, fun h => absurd h (by decide), hSt.quiet (Below.refl _ _) _ (by decide) (fun h => absurd h (by decide)) (fun h => absurd h (by decide))⟩
                        | exact ⟨rfl, Chg.refl _ _, fun h => absurd h (by decide), hSt.quiet (Below.refl _ _) _ (by decide) (fun h => absurd h (by decide)) (fun _ => hdk.out.1)⟩
                        | exact ⟨trivial, Chg.refl _ _, fun h => absurd h (by decide), hSt.quiet (Below.refl _ _) _ (by decide) (fun h => absurd h (by decide)) (fun _ => hdk.out.1)⟩
                        | exact hSt.due AP hT z hp hTB hge (by omega) uA ubj
                        | (refine (same_refl u17 _ _ w' hSt.v.at_ hd.2.1.at_ (by omega)).mono ?_; rintro e w'' ⟨rfl, hk'⟩; exact ⟨_, rfl, rfl, Chg.of_same hk' _, fun h => absurd h (by decide), hSt.quiet hk' _ (by decide) (fun _ => hdk.out.2.1) (fun h => absurd h (by decide))⟩)
                        | (refine (hq_all q tb c1 nb Pn S _ _ _ w' hSt.q z).mono ?_; rintro e w'' ⟨v', rfl, hO, hk'⟩; exact ⟨v', rfl, hO.lf.mono hSt.size, Chg.of_same hk' _, fun h => absurd h (by decide), hSt.quiet hk' _ (by decide) (fun h => absurd h (by decide)) (fun h => absurd h (by decide))⟩)
                        | (refine (hq_all o tb2 c2 nb2 Pn S _ _ _ w' (hSt.o1 (hSt.c7 (hSt.c8 (by first | exact hdk.out.2.2 | exact hdk.out.2.2.1)))) z).mono ?_; rintro e w'' ⟨v', rfl, hO, hk'⟩; exact ⟨v', rfl, hO.lf.mono hSt.size, Chg.of_same hk' _, fun h => absurd h (by decide), hSt.quiet hk' _ (by decide) (fun h => absurd h (by decide)) (fun h => absurd h (by decide))⟩)
                        | (refine (same_refl _ _ _ w' hd.1.at_ hd.2.1.at_ (by omega)).mono ?_; rintro e w'' ⟨rfl, hk'⟩; exact ⟨_, rfl, rfl, Chg.of_same hk' _, fun h => absurd h (by decide), hSt.quiet hk' _ (by decide) (fun h => absurd h (by decide)) (fun h => absurd h (by decide))⟩)
                  trivial
                · intro vs w5 hSt hF _
                  have h18 : vs 18 = .bool true := hF 18 (by decide)
                  have hq5 := hSt.q
                  have ho5 := hSt.o1 (by decide)
                  have ha1 := hq_base q tb c1 nb Pn S _ _ _ w5 hq5
                  have ha2 := hq_base o tb2 c2 nb2 Pn S _ _ _ w5 ho5
                  have HK := Lib.hid hSt.below
                  clear hF hs0 hSt hq5 ho5 j1 i2
                  simp only [setAll, List.setIfInBounds_toArray, List.set_cons_zero, List.set_cons_succ, Nat.reduceAdd]
                  rw [h18]
                  simp only [List.drop_succ_cons, List.drop_zero]
                  clear h18
                  go_wp2_with fail
                  refine ha1.mono ?_
                  rintro e wx ⟨rfl, rfl⟩
                  go_wp2_with fail
                  refine ha2.mono ?_
                  rintro e wx ⟨rfl, rfl⟩
                  go_wp2_with fail
                  go_ret
                  exact ⟨rfl, HK.out⟩
        · have hn := hbuilt_bad P bits base A l.length c w1 hok (by omega)
          have HB := Lib.hid hb
          clear hA hA1 hb hok
          go_wp2_with fail
          refine hn.mono ?_
          rintro e w2 ⟨rfl, rfl⟩
          unfold nilE
          go_wp2_with fail
          refine hn.mono ?_
          rintro e w3 ⟨rfl, rfl⟩
          unfold nilE
          go_wp2_with fail
          go_ret
          exact ⟨rfl, HB.out⟩
end Go.Proofs.YtckkfbepclogcaaDoor
