/- The law: the texts LawPM, laid end to end by a program. -/
import Derived.Test.YtpbepmipfjcjbaaPcRefN
import Derived.Test.YtpbepmipfjcjbaaPcPal
namespace Go.Proofs.Ytpbepmipfjcjbaa
open Go.RowKit
theorem WS.apart {lo hi q o P P2 : Nat} {mq mo : List Timer} {x y : World} {T : Nat → Prop} (h : WS lo hi q o P P2 mq mo [] x) (k : Chg T x y) (hT : ∀ b, b < hi → ¬ T b) : WS lo hi q o P P2 mq mo [] y := by
  obtain ⟨G1, G2, a, b, c, d⟩ := h.ex
  exact ⟨fun p hp => (by cases hp), ⟨G1, G2, a.chg k fun z hz => hT z (d z (.inl hz)).2.1, b.chg k fun z hz => hT z (d z (.inr hz)).2.1, c, d⟩, Nat.le_trans h.hi_le k.size, h.lo_le⟩
theorem lat_box {w : World} {v : Value} {l : List Timer} {g : Nat} {cs : Array Value} (h : LAt w v l) (b : Blk w g 30 cs) : ∀ k, blkOf v = some k → k ≠ g := fun k hk e => by
  obtain ⟨ds, hd⟩ := h.lies k hk
  subst e
  exact absurd (blk_same b hd) (by decide)
attribute [local irreducible] Calls
set_option linter.unusedSimpArgs false in
set_option maxRecDepth 100000 in
set_option maxHeartbeats 8000000 in
theorem pmelds (P O place : Int) (A A2 : Option Addr) (l k : List Act) (c c2 : Nat) (w : World) (hA : AcAt w w.heap.size A l) (hA2 : AcAt w w.heap.size A2 k) (hl : l.length ≤ 2 ^ 63 - 1) (hk : k.length ≤ 2 ^ 63 - 1) :
    Calls Try.prog 4 #[.int .i64 P, .slice A l.length c, .int .i64 O, .slice A2 k.length c2, .int .i64 place] w fun e w' => e = .returned (.bool true) ∧ Below w.heap.size w w' := by
  have hw := pworks w
  go_enter Try.func4, Try.ntmps4
  go_wp2_with fail
  refine hw.mono ?_
  rintro e w1 ⟨rfl, hb1⟩
  clear hw
  have hA1 := hA.below hb1 (Nat.le_refl _)
  have hA3 := hA2.below hb1 (Nat.le_refl _)
  by_cases h1 : 60 < l.length
  · skip
    have HB := Lib.hid hb1
    clear hA hA2 hA1 hA3 hb1
    go_wp2_with fail
    go_ret
    exact ⟨rfl, HB.out⟩
  by_cases h2 : 60 < k.length
  · skip
    have HB := Lib.hid hb1
    clear hA hA2 hA1 hA3 hb1
    go_wp2_with fail
    go_ret
    exact ⟨rfl, HB.out⟩
  have hA4 : AcAt w1 w1.heap.size A l := fun i hi => by
    obtain ⟨b, o, e, hb, r⟩ := hA1 i hi
    exact ⟨b, o, e, Nat.lt_of_lt_of_le hb hb1.size, r⟩
  have hA5 : AcAt w1 w1.heap.size A2 k := fun i hi => by
    obtain ⟨b, o, e, hb, r⟩ := hA3 i hi
    exact ⟨b, o, e, Nat.lt_of_lt_of_le hb hb1.size, r⟩
  clear hA hA2 hA1 hA3
  by_cases hP : P < 0 ∨ 1024 < P
  · have hbu := pbuilt_bad P A l.length c w1 hP (by omega)
    by_cases hO : O < 0 ∨ 1024 < O
    · have hbo := pbuilt_bad O A2 k.length c2 w1 hO (by omega)
      have HB := Lib.hid hb1
      clear hP hO hA4 hA5 hb1
      unfold nilE at hbu hbo
      go_wp2_with fail
      refine hbu.mono ?_
      rintro e wx ⟨rfl, rfl⟩
      clear hbu
      go_wp2_with fail
      refine hbo.mono ?_
      rintro e wx ⟨rfl, rfl⟩
      clear hbo
      go_wp2_with fail
      go_ret
      exact ⟨rfl, HB.out⟩
    · obtain ⟨On, rfl⟩ : ∃ p : Nat, O = p := ⟨O.toNat, by omega⟩
      have hbo := pbuilt_ok On A2 k c2 w1 (by omega) hA5 (by omega)
      clear hP hO hA4 hA5
      unfold nilE at hbu
      go_wp2_with fail
      refine hbu.mono ?_
      rintro e wx ⟨rfl, rfl⟩
      clear hbu
      go_wp2_with fail
      refine hbo.mono ?_
      rintro e w3 ⟨o, rfl, _, hx⟩
      have HB := Lib.hid (hb1.trans (Below.mono hx hb1.size))
      clear hbo hx hb1
      go_wp2_with fail
      go_ret
      exact ⟨rfl, HB.out⟩
  · obtain ⟨Pn, rfl⟩ : ∃ p : Nat, P = p := ⟨P.toNat, by omega⟩
    have hbu := pbuilt_ok Pn A l c w1 (by omega) hA4 (by omega)
    by_cases hO : O < 0 ∨ 1024 < O
    · have hbo := fun w2 => pbuilt_bad O A2 k.length c2 w2 hO (by omega)
      clear hP hO hA4 hA5
      unfold nilE at hbo
      go_wp2_with fail
      refine hbu.mono ?_
      rintro e w2 ⟨q, rfl, _, hx⟩
      have HB := Lib.hid (hb1.trans (Below.mono hx hb1.size))
      clear hbu hx hb1
      go_wp2_with fail
      refine (hbo w2).mono ?_
      rintro e wx ⟨rfl, rfl⟩
      clear hbo
      go_wp2_with fail
      go_ret
      exact ⟨rfl, HB.out⟩
    · obtain ⟨On, rfl⟩ : ∃ p : Nat, O = p := ⟨O.toNat, by omega⟩
      have hP1 : Pn ≤ 1024 := by omega
      have hO1 : On ≤ 1024 := by omega
      clear hP hO
      go_wp2_with fail
      refine hbu.mono ?_
      rintro e w2 ⟨q, rfl, hq, hx2⟩
      have hA6 : AcAt w2 w2.heap.size A2 k := fun i hi => by
        obtain ⟨b, o, e, hb, r⟩ := hA5.below hx2 (Nat.le_refl _) i hi
        exact ⟨b, o, e, Nat.lt_of_lt_of_le hb hx2.size, r⟩
      have hbo := pbuilt_ok On A2 k c2 w2 hO1 hA6 (by omega)
      clear hbu
      go_wp2_with fail
      refine hbo.mono ?_
      rintro e w3 ⟨o, rfl, ho, hx3⟩
      have hws := WS.two hq ho hx2 hx3
      have hb3 := (hb1.trans (Below.mono hx2 hb1.size)).trans (Below.mono hx3 (Nat.le_trans hb1.size hx2.size))
      have hA7 : AcAt w3 w3.heap.size A l := fun i hi => by
        obtain ⟨b, o, e, hb, r⟩ := (hA4.below hx2 (Nat.le_refl _)).below hx3 hx2.size i hi
        exact ⟨b, o, e, Nat.lt_of_lt_of_le hb (Nat.le_trans hx2.size hx3.size), r⟩
      have hA8 : AcAt w3 w3.heap.size A2 k := fun i hi => by
        obtain ⟨b, o, e, hb, r⟩ := hA6.below hx3 (Nat.le_refl _) i hi
        exact ⟨b, o, e, Nat.lt_of_lt_of_le hb hx3.size, r⟩
      have hlo : w.heap.size ≤ w1.heap.size := hb1.size
      clear hbo hA4 hA5 hA6 hq ho hx2 hx3 hb1
      generalize hlo1 : w1.heap.size = lo at *
      clear hlo1
      have hrb := rbehind_ok Pn A l c w3 hA7 (by omega) (by omega)
      have hmb : (behindL Pn l).length ≤ 1024 := Nat.le_trans hws.lenq hP1
      have hmo : (behindL On k).length ≤ 1024 := Nat.le_trans hws.leno hO1
      generalize behindL Pn l = m at *
      generalize hmk : behindL On k = m2 at *
      have HMK := Lib.hid hmk
      clear hmk
      obtain ⟨hi, hhi⟩ : ∃ hi, hi = w3.heap.size := ⟨_, rfl⟩
      rw [← hhi] at hws
      go_wp2_with fail
      refine hrb.mono ?_
      rintro e w4 ⟨v, rfl, hv, hx4, hf4⟩
      obtain ⟨Av, cv, rfl, _⟩ := id hv
      have hws4 := hws.kept hx4
      have hA9 : AcAt w4 w4.heap.size A2 k := fun i hi => by
        obtain ⟨b, o, e, hb, r⟩ := (hA8.below hx4 (Nat.le_refl _)) i hi
        exact ⟨b, o, e, Nat.lt_of_lt_of_le hb hx4.size, r⟩
      have hb4 := hb3.trans (Below.mono hx4 (by have := hws.hi_le; have := hws.lo_le; omega))
      have hvh : ∀ b, blkOf (.slice Av m.length cv) = some b → hi ≤ b := fun b e => by
        rcases hf4 b e with h | h
        · cases h
        · omega
      have hh4 : hi ≤ w4.heap.size := hws4.hi_le
      have hk5 := alloc_kept' w4 (.cells #[.int .i64 Pn, .slice Av m.length cv] 30)
      have hrb2 := rbehind_ok On A2 k c2 (w4.alloc (.cells #[.int .i64 Pn, .slice Av m.length cv] 30)) (fun i hi => by
        obtain ⟨b, o, e, hb, r⟩ := (hA9.below hk5 (Nat.le_refl _)) i hi
        exact ⟨b, o, e, Nat.lt_of_lt_of_le hb hk5.size, r⟩) (by omega) (by omega)
      rw [HMK.out] at hrb2
      have hws5 := hws4.kept hk5
      have hb5 := hb4.trans (Below.mono hk5 (by have := hws4.hi_le; have := hws4.lo_le; omega))
      have hv5 := hv.on hk5
      have bx16 := Blk.new w4 30 #[.int .i64 Pn, .slice Av m.length cv]
      unfold qE qV
      clear hrb hws hws4 hA7 hA8 hA9 hb3 hb4 hv hx4 hf4
      go_upto_region 11 with fail
      generalize w4.alloc (.cells #[.int .i64 Pn, .slice Av m.length cv] 30) = w5 at *
      have hg16 : hi ≤ w4.heap.size := hh4
      generalize w4.heap.size = g16 at *
      clear hk5 hh4
      go_wp2_with fail
      refine hrb2.mono ?_
      rintro e w6 ⟨v2, rfl, hv2, hx6, hf6⟩
      obtain ⟨Av2, cv2, rfl, _⟩ := id hv2
      have hws6 := hws5.kept hx6
      have hb6 := hb5.trans (Below.mono hx6 (by have := hws5.hi_le; have := hws5.lo_le; omega))
      have hv6 := hv5.on hx6
      have b166 := bx16.below hx6 bx16.lt
      have hvh2 : ∀ b, blkOf (.slice Av2 m2.length cv2) = some b → hi ≤ b := fun b e => by
        rcases hf6 b e with h | h
        · cases h
        · have := hws5.hi_le; omega
      have hk7 := alloc_kept' w6 (.cells #[.int .i64 On, .slice Av2 m2.length cv2] 30)
      have hws7 := hws6.kept hk7
      have hb7 := hb6.trans (Below.mono hk7 (by have := hws6.hi_le; have := hws6.lo_le; omega))
      have hv7 := hv6.on hk7
      have hv27 := hv2.on hk7
      have b167 := b166.below hk7 b166.lt
      have bx18 := Blk.new w6 30 #[.int .i64 On, .slice Av2 m2.length cv2]
      have hg18 : hi ≤ w6.heap.size := hws6.hi_le
      have h1618 : g16 ≠ w6.heap.size := fun e => by have := b166.lt; omega
      clear hrb2 hws5 hws6 hb5 hb6 hv5 hv6 bx16 b166 hx6 hf6 hv2 hk7
      unfold qE qV
      go_upto_region 12 with fail
      generalize w6.alloc (.cells #[.int .i64 On, .slice Av2 m2.length cv2] 30) = w7 at *
      generalize w6.heap.size = g18 at *
      have hme := hws7.meld hP1
      clear hws7
      go_wp2_with fail
      refine hme.mono ?_
      rintro e w8 ⟨rfl, hws8, hc8⟩
      have hv8 : LAt w8 (.slice Av m.length cv) m := hv7.far hc8.size fun b e => hc8.block b (hv7.blk b e) fun h => by have := hvh b e; omega
      have hv28 : LAt w8 (.slice Av2 m2.length cv2) m2 := hv27.far hc8.size fun b e => hc8.block b (hv27.blk b e) fun h => by have := hvh2 b e; omega
      have b168 := b167.chg hc8 fun h => by omega
      have b188 := bx18.chg hc8 fun h => by omega
      have hb8 : Below w.heap.size w w8 := hb7.trans (Below.mono (Chg.to_below (hc8.mono (S' := fun b => lo ≤ b) fun b _ e => e.1) (by have := hws8.lo_le; have := bx18.lt; omega)) hlo)
      have hmr := rmeld_any Pn On (.slice Av m.length cv) (.slice Av2 m2.length cv2) m m2 w8 hv8 hv28 (by omega) (by omega)
      unfold qV at hmr
      have hmlL : (mldL Pn On m m2).length ≤ 100000 := by have := hws8.lenq; omega
      have c16 := b168.cell
      have c18 := b188.cell
      clear hme hc8 hv7 hv27 b167 bx18 hb7
      go_wp2_with fail
      refine hmr.mono ?_
      rintro e w9 ⟨v3, rfl, hv3, hx9⟩
      obtain ⟨Av3, cv3, rfl, _⟩ := id hv3
      have hws9 := hws8.kept hx9
      have hhl := hws8.hi_le
      have hll := hws8.lo_le
      have hb9 := hb8.trans (Below.mono hx9 (by omega))
      have b189 := b188.below hx9 b188.lt
      have hv29 := hv28.on hx9
      have hk10 := alloc_kept' w9 (.cells #[.int .i64 Pn, .slice Av3 (mldL Pn On m m2).length cv3] 30)
      have bx21 := Blk.new w9 30 #[.int .i64 Pn, .slice Av3 (mldL Pn On m m2).length cv3]
      have hws10 := hws9.kept hk10
      have hv310 := hv3.on hk10
      have hv210 := hv29.on hk10
      have b1810 := b189.below hk10 b189.lt
      have hb10 := hb9.trans (Below.mono hk10 (by have := hws9.hi_le; omega))
      have h1821 : g18 ≠ w9.heap.size := fun e => by have := b189.lt; omega
      have hg21 : hi ≤ w9.heap.size := hws9.hi_le
      clear hmr hws8 hb8 hv8 b168 b188 c16 c18 hx9 hws9 hb9 b189 hv29 hv28 hv3 hk10
      unfold qE qV
      go_upto_region 14 with fail
      generalize w9.alloc (.cells #[.int .i64 Pn, .slice Av3 (mldL Pn On m m2).length cv3] 30) = w10 at *
      generalize w9.heap.size = g21 at *
      have hcases : mldE Pn On m m2 = 0 ∨ mldE Pn On m m2 ≠ 0 := by omega
      rcases hcases with hz | hz
      · have hOz : mldO Pn On m m2 = [] := by unfold mldO; rw [if_pos hz]
        rw [hOz] at hws10
        have hne3 := lat_box hv310 b1810
        have z18 := b1810.frozen
        have l18 := b1810.lt
        have d18 := b1810.cell
        have b18F : Blk ((w10.setCell ⟨g18, 0, none⟩ (.int .i64 On)).setCell ⟨g18, 1, none⟩ (.slice none 0 0)) g18 30 #[.int .i64 On, .slice none 0 0] := by
          have := (b1810.put 0 (.int .i64 On)).put 1 (.slice none 0 0)
          simpa using this
        have kk : Chg (fun b => b = g18) w10 ((w10.setCell ⟨g18, 0, none⟩ (.int .i64 On)).setCell ⟨g18, 1, none⟩ (.slice none 0 0)) := (chg_cell w10 g18 0 _).trans (chg_cell _ g18 1 _) fun _ _ e => e
        have hwsF := hws10.apart kk fun b hb e => by omega
        have hv3F := (hv310.setCell ⟨g18, 0, none⟩ (.int .i64 On) hne3).setCell ⟨g18, 1, none⟩ (.slice none 0 0) hne3
        have b21F := bx21.chg kk fun e => h1821 e.symm
        have hvoF : LAt ((w10.setCell ⟨g18, 0, none⟩ (.int .i64 On)).setCell ⟨g18, 1, none⟩ (.slice none 0 0)) (.slice none 0 0) [] := LAt.nil _
        have hbF : Below w.heap.size w ((w10.setCell ⟨g18, 0, none⟩ (.int .i64 On)).setCell ⟨g18, 1, none⟩ (.slice none 0 0)) := (hb10.setCell (p := ⟨g18, 0, none⟩) (by show w.heap.size ≤ g18; omega) _).setCell (p := ⟨g18, 1, none⟩) (by show w.heap.size ≤ g18; omega) _
        clear hws10 hv310 hv210 b1810 hb10 bx21 kk
        rw [hz]
        clear hz hOz
        go_upto_region 18 with fail
        generalize (w10.setCell ⟨g18, 0, none⟩ (.int .i64 On)).setCell ⟨g18, 1, none⟩ (.slice none 0 0) = w11 at *
        clear z18 l18 d18
        obtain ⟨G1, G2, qa, qb, _, _⟩ := id hwsF.ex
        have hal := palike q Pn _ G1 Pn (.slice Av3 (mldL Pn On m m2).length cv3) place w11 qa hP1 hv3F hmlL
        have hal2 := fun x (hx : Below (w11).heap.size (w11) x) => palike o On _ G2 On (.slice none 0 0) place x (qb.below hx) hO1 (hvoF.on hx) (by have := hwsF.leno; omega)
        have HB := Lib.hid hbF
        have hzF : w.heap.size ≤ (w11).heap.size := hbF.size
        have c21 := b21F.cell
        have c18 := fun x (hx : Below (w11).heap.size (w11) x) => (b18F.below hx b18F.lt).cell
        unfold qV at hal hal2
        clear qa qb hwsF hv3F hvoF hbF b21F b18F
        go_wp2_with fail
        refine hal.mono ?_
        rintro e w12 ⟨rfl, hx12⟩
        have c18' := c18 w12 hx12
        have hal2' := hal2 w12 hx12
        clear hal hal2 c18 c21
        go_wp2_with fail
        refine hal2'.mono ?_
        rintro e w13 ⟨rfl, hx13⟩
        have HB13 := Lib.hid ((HB.out.trans (Below.mono hx12 hzF)).trans (Below.mono hx13 (Nat.le_trans hzF hx12.size)))
        clear hal2' hx12 hx13 c18'
        go_wp2_with fail
        go_ret
        exact ⟨rfl, HB13.out⟩
      · have hOz : mldO Pn On m m2 = m2 := by unfold mldO; rw [if_neg hz]
        rw [hOz] at hws10
        have hwsF := hws10
        have hv3F := hv310
        have hvoF := hv210
        have hbF := hb10
        have b21F := bx21
        have b18F := b1810
        clear hws10 hv310 hv210 b1810 hb10 bx21 hOz
        generalize mldE Pn On m m2 = me at *
        go_upto_region 18 with fail
        obtain ⟨G1, G2, qa, qb, _, _⟩ := id hwsF.ex
        have hal := palike q Pn _ G1 Pn (.slice Av3 (mldL Pn On m m2).length cv3) place w10 qa hP1 hv3F hmlL
        have hal2 := fun x (hx : Below (w10).heap.size (w10) x) => palike o On _ G2 On (.slice Av2 m2.length cv2) place x (qb.below hx) hO1 (hvoF.on hx) (by have := hwsF.leno; omega)
        have HB := Lib.hid hbF
        have hzF : w.heap.size ≤ (w10).heap.size := hbF.size
        have c21 := b21F.cell
        have c18 := fun x (hx : Below (w10).heap.size (w10) x) => (b18F.below hx b18F.lt).cell
        unfold qV at hal hal2
        clear qa qb hwsF hv3F hvoF hbF b21F b18F
        go_wp2_with fail
        refine hal.mono ?_
        rintro e w12 ⟨rfl, hx12⟩
        have c18' := c18 w12 hx12
        have hal2' := hal2 w12 hx12
        clear hal hal2 c18 c21
        go_wp2_with fail
        refine hal2'.mono ?_
        rintro e w13 ⟨rfl, hx13⟩
        have HB13 := Lib.hid ((HB.out.trans (Below.mono hx12 hzF)).trans (Below.mono hx13 (Nat.le_trans hzF hx12.size)))
        clear hal2' hx12 hx13 c18'
        go_wp2_with fail
        go_ret
        exact ⟨rfl, HB13.out⟩
end Go.Proofs.Ytpbepmipfjcjbaa
