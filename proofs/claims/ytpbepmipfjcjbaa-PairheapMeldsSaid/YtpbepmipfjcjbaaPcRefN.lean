/- The law: the texts RefN, laid end to end by a program. -/
import Derived.Test.YtpbepmipfjcjbaaPk19
namespace Go.Proofs.Ytpbepmipfjcjbaa
open Go.RowKit

/-- The boxes of Meld: the two queues, and what is told. -/
structure MB (w : World) (g : Nat) (P P2 : Nat) (A A2 : Option Addr) (n n2 c c2 : Nat) (x : World) : Prop where
  b2 : Blk x g 30 #[.int .i64 P, .slice A n c]
  b3 : Blk x (g + 1) 30 #[.int .i64 P2, .slice A2 n2 c2]
  b4 : Blk x (g + 1 + 1) 30 #[.int .i64 0, .slice none 0 0]
  bl : Below g w x
theorem MB.on {w : World} {g P P2 n n2 c c2 : Nat} {A A2 : Option Addr} {x y : World} (h : MB w g P P2 A A2 n n2 c c2 x) (k : Below x.heap.size x y) : MB w g P P2 A A2 n n2 c c2 y :=
  ⟨h.b2.below k h.b2.lt, h.b3.below k h.b3.lt, h.b4.below k h.b4.lt, h.bl.trans (Below.mono k (Nat.le_of_lt h.b2.lt))⟩
def FMe (l : List Value) (j : Nat) (v : Value) (_ : World) : Prop := if j = 11 then True else v = l.getD j undef
structure SMb (w7 : World) (p : Nat → Bool) (vs : Nat → Value) (x : World) : Prop where
  bl : Below w7.heap.size w7 x
  bx : p 11 = true → ∃ k u0 u1 u2, vs 11 = .pointer (some ⟨k, 0, none⟩) ∧ w7.heap.size ≤ k ∧ Blk x k 35 #[u0, u1, u2]
theorem SMb.other {w7 x y : World} {p : Nat → Bool} {vs : Nat → Value} (h : SMb w7 p vs x) (k : Below x.heap.size x y) {i : Nat} (hi : i ≠ 11) (v : Value) : SMb w7 (also p i) (updV vs i v) y := by
  refine ⟨h.bl.trans (Below.mono k h.bl.size), fun e => ?_⟩
  have e11 : also p i 11 = p 11 := by simp [also, Ne.symm hi]
  rw [e11] at e
  obtain ⟨k', u0, u1, u2, a, b, c⟩ := h.bx e
  exact ⟨k', u0, u1, u2, by rw [updV_ne _ _ (Ne.symm hi)]; exact a, b, c.below k c.lt⟩
theorem SMb.laid {w7 x : World} {p : Nat → Bool} {vs : Nat → Value} (h : SMb w7 p vs x) (u0 u1 u2 : Value) : SMb w7 (also p 11) (updV vs 11 (.pointer (some ⟨x.heap.size, 0, none⟩))) (x.alloc (.cells #[u0, u1, u2] 35)) :=
  ⟨h.bl.trans (Below.mono (alloc_kept' _ _) h.bl.size), fun _ => ⟨_, u0, u1, u2, updV_at _ _ _, h.bl.size, Blk.new _ _ _⟩⟩
theorem SMb.store {w7 x : World} {p : Nat → Bool} {vs : Nat → Value} {k : Nat} {u0 u1 u2 : Value} (h : SMb w7 p vs x) (hv : vs 11 = .pointer (some ⟨k, 0, none⟩)) (hk : w7.heap.size ≤ k) (hb : Blk x k 35 #[u0, u1, u2]) (a0 a1 a2 : Value) :
    SMb w7 (also p 12) (updV vs 12 undef) (((x.setCell ⟨k, 0, none⟩ a0).setCell ⟨k, 1, none⟩ a1).setCell ⟨k, 2, none⟩ a2) := by
  have h2 := ((hb.put 0 a0).put 1 a1).put 2 a2
  simp only [List.setIfInBounds_toArray, List.set_cons_zero, List.set_cons_succ] at h2
  exact ⟨((h.bl.setCell (p := ⟨k, 0, none⟩) hk a0).setCell (p := ⟨k, 1, none⟩) hk a1).setCell (p := ⟨k, 2, none⟩) hk a2, fun _ => ⟨k, a0, a1, a2, by rw [updV_ne _ _ (by decide)]; exact hv, hk, h2⟩⟩
/-- What the document's melding tells. -/
def rmC (P P2 : Nat) (m m2 : List Timer) (_ : Value) (e : Ending) (w w' : World) : Prop :=
  ∃ v', e = .returned (qE P v' (mldE P P2 m m2)) ∧ LAt w' v' (mldL P P2 m m2) ∧ Below w.heap.size w w'
attribute [local irreducible] Calls
set_option linter.unusedSimpArgs false in
set_option maxRecDepth 100000 in
set_option maxHeartbeats 8000000 in
theorem rmeld_any (P P2 : Nat) (v v2 : Value) (m m2 : List Timer) (w : World) (hv : LAt w v m) (hv2 : LAt w v2 m2) (hl : m.length ≤ 2000) (hl2 : m2.length ≤ 2000) :
    Calls Try.prog 18 #[qV P v, qV P2 v2] w fun e w' => rmC P P2 m m2 v e w w' := by
  obtain ⟨A, c, rfl, hT, _⟩ := id hv
  obtain ⟨A2, c2, rfl, hT2, _⟩ := id hv2
  have hmb : MB w w.heap.size P P2 A A2 m.length m2.length c c2 (((w.alloc (.cells #[.int .i64 P, .slice A m.length c] 30)).alloc (.cells #[.int .i64 P2, .slice A2 m2.length c2] 30)).alloc (.cells #[.int .i64 0, .slice none 0 0] 30)) :=
    ⟨((Blk.new _ _ _).alloc _).alloc _, (alloc2_at _ _ _ _).alloc _, alloc3_at _ _ _ _ _, three_new _ _ _ _⟩
  unfold qV at *
  go_enter Try.func18, Try.ntmps18
  go_upto_region 1 with fail
  generalize hn : m.length = n at *
  generalize hn2 : m2.length = n2 at *
  have HN := Lib.hid hn
  have HN2 := Lib.hid hn2
  generalize ((w.alloc (.cells #[.int .i64 P, .slice A n c] 30)).alloc (.cells #[.int .i64 P2, .slice A2 n2 c2] 30)).alloc (.cells #[.int .i64 0, .slice none 0 0] 30) = w0 at *
  have hbl := hmb.bl
  have hv0 := hv.on hbl
  have hv20 := hv2.on hbl
  have hvb := hv.blk
  have hvb2 := hv2.blk
  generalize hg : w.heap.size = g at *
  have HG := Lib.hid hg
  clear hg hT hT2
  have c2' := hmb.b2.cell
  have c3' := hmb.b3.cell
  have c4' := hmb.b4.cell
  by_cases hne : P = P2
  · subst hne
    have hE0 : ∀ h : m2.any (fun x => (getL m x.place).isSome) = false, mldE P P m m2 = 0 := fun h => by unfold mldE; rw [if_neg (by simp), h]; rfl
    have hE4 : ∀ h : m2.any (fun x => (getL m x.place).isSome) = true, mldE P P m m2 = 4 := fun h => by unfold mldE; rw [if_neg (by simp), h]; rfl
    have hrg := fun x (hx : LAt x (.slice A n c) m) p => rget_any P (.slice A n c) m p x hx (by rw [HN.out]; omega)
    unfold qV at hrg
    have HE0 := Lib.hid hE0
    have HE4 := Lib.hid hE4
    clear hE0 hE4
    have k1 := alloc_kept' w0 (.cells #[] 35)
    have ho0 : OwnT (w0.alloc (.cells #[] 35)) w0.heap.size (.slice (some ⟨w0.heap.size, 0, none⟩) 0 0) [] := World.ownsRow_lit w0 #[] 0 (Nat.le_refl _) (by simp [maxLen]) rfl
    have hv1 := (hv0.on k1).lw
    have hlen0 : ([] : List Timer).length + m.length ≤ 1000000 := by rw [HN.out]; simp; omega
    have hs0 : w0.heap.size ≤ (w0.alloc (.cells #[] 35)).heap.size := k1.size
    have m1 := hmb.on k1
    have c21 := m1.b2.cell
    go_wp2_with (at_builtin; refine wpList_app_T rfl _ _ rfl w0.heap.size _ _ rfl ho0 _ _ rfl hv1 hlen0 hs0 ?_)
    intro v6 w1 ho6 hg6
    have hB1 : Below w0.heap.size w0 w1 := k1.trans (Chg.to_below ((grown_ch hg6).mono (S' := fun b => w0.heap.size ≤ b) fun b _ e => own_base ho0 b e) hs0)
    clear hg6 ho0 hv1 hlen0 hs0 m1 c21 c2' c3' c4' k1
    go_wp2_with fail
    go_loopw [6, 7] (fun u i wr => ∃ (j : Nat) (v' : Value), v' = u ∧ j ≤ n2 ∧ i = .int .i64 j ∧ OwnT wr w0.heap.size v' (putsL m (m2.take j)) ∧ (∀ z (hz : z < m2.length), z < j → (getL m m2[z].place).isSome = false) ∧ Below w0.heap.size w0 wr) (fun _ i _ => n2 - (intOf i).toNat)
    case atStart => exact ⟨0, _, rfl, Nat.zero_le _, rfl, by simpa [putsL] using ho6, fun z _ h => absurd h (by omega), hB1⟩
    case round =>
      clear ho6 hB1
      obtain ⟨j, u, rfl, hj, rfl, ho, hz, hB⟩ := hrel
      have hm := hmb.on hB
      have hvr := hv0.on hB
      have hgl : g + 1 + 1 < w0.heap.size := hmb.b4.lt
      have hBs := hB.size
      have hpl : (putsL m (m2.take j)).length ≤ 4000 := by rw [(putsL_perm _ _).length_eq]; simp; have := HN.out; omega
      by_cases hlt : j < n2
      · have hlt' : j < m2.length := by rw [HN2.out]; exact hlt
        obtain ⟨_, _, e2, hT2, _⟩ := hv20.on hB
        injection e2 with e2 e2a e2b
        clear e2a e2b
        subst e2
        obtain ⟨b, o, rfl, hbw, y0, y1, y2⟩ := hT2 j hlt'
        have HT2 := Lib.hid hT2
        generalize hy : m2[j] = y at *
        have HY := Lib.hid hy
        obtain ⟨x, bb, hx, hbb⟩ : ∃ x bb, pairT (getL m y.place) = .tuple #[.agg #[.int .u64 x.at_, .int .u64 x.seq, .int .i64 x.place], .bool bb] ∧ (getL m y.place).isSome = bb := ⟨(getL m y.place).getD Timer.zero, _, rfl, rfl⟩
        have hrg' := fun x' (hx' : Below wr.heap.size wr x') => hrg x' (hvr.on hx') y.place
        rw [hx] at hrg'
        have HM := Lib.hid hm
        have HO := Lib.hid ho
        have HZ := Lib.hid hz
        have HBB := Lib.hid hbb
        have q2 := hm.b2
        have q3 := hm.b3
        clear hx hbb hy hT2 hm ho hz
        have cq3 := q3.cell
        have HS := Lib.hid (And.intro hpl (And.intro hBs hgl))
        have HV0 := Lib.hid hv0
        have HST := Lib.hid (show putsL m (m2.take (j + 1)) = putL (putsL m (m2.take j)) y from by
          rw [take_snoc m2 j hlt', HY.out]
          simp [putsL])
        have HANY := Lib.hid (show (getL m y.place).isSome = true → m2.any (fun x => (getL m x.place).isSome) = true from fun e => List.any_eq_true.2 ⟨y, by rw [← HY.out]; exact List.getElem_mem hlt', e⟩)
        have HV20 := Lib.hid (And.intro hvb (And.intro hvb2 hB))
        clear hvb hvb2 hv2 hv20 hmb hv hv0 hrg hbl hn hn2 hvr hpl hBs hgl
        go_wp2_with fail
        refine region_facts_val 14 (fun _ => false) (FMe [.agg #[.int .i64 P, .slice A n c], .pointer (some ⟨g + 1, 1, none⟩), .slice (some ⟨b, o, none⟩) n2 c2, .int .i64 j, .pointer (some ⟨b, o + j * 3, none⟩), .pointer (some ⟨b, o + j * 3 + 2, none⟩), .int .i64 y.place, .tuple #[.agg #[.int .u64 x.at_, .int .u64 x.seq, .int .i64 x.place], .bool bb], .tuple #[.agg #[.int .u64 x.at_, .int .u64 x.seq, .int .i64 x.place], .bool bb], .agg #[.int .u64 x.at_, .int .u64 x.seq, .int .i64 x.place], .bool bb, undef, undef, .bool bb]) (SMb wr) (fun _ x y => x.heap.size ≤ y.heap.size) [28, 29, 30, 31, 32, 33, 34, 35, 27, 36, 37, 8, 1000, 9] (by kernel_rfl) (by kernel_rfl) (by kernel_rfl) (by decide) (by kernel_rfl)
          (fun _ _ _ _ _ _ h _ => h) (fun _ _ _ h => h) (fun _ => ⟨(Below.refl _ _).drew, fun e => (by cases e)⟩) ?_ ?_
        · intro fr hfr
          have f2 : fr.getD 2 undef = .pointer (some ⟨g, 0, none⟩) := by rw [hfr]; rfl
          have f3 : fr.getD 3 undef = .pointer (some ⟨g + 1, 0, none⟩) := by rw [hfr]; rfl
          have f7 : fr.getD 7 undef = .int .i64 j := by rw [hfr]; rfl
          clear hfr
          iterate 14
            refine ⟨⟨trivial, ?_⟩, ?_⟩
            · intro ρ w' p vs hp hdq hρ hd hV hSt
              simp only [DepF, Region.binds, List.getD_cons_zero, List.getD_cons_succ, FMe, forall_const, and_true, true_and, Nat.reduceEqDiff, if_false, if_true, reduceIte, reduceCtorEq] at hd
              have hcon := hρ.con
              have e2 := (hρ.slot 2 (by kernel_rfl)).trans f2
              have e3 := (hρ.slot 3 (by kernel_rfl)).trans f3
              have e7 := (hρ.slot 7 (by kernel_rfl)).trans f7
              have d2 := (q2.below hSt.bl q2.lt).cell
              have d3 := (q3.below hSt.bl q3.lt).cell
              have g0 := (hSt.bl.cell (p := ⟨b, o + j * 3, none⟩) (by exact hbw)).trans y0
              have g1 := (hSt.bl.cell (p := ⟨b, o + j * 3 + 1, none⟩) (by exact hbw)).trans y1
              have g2 := (hSt.bl.cell (p := ⟨b, o + j * 3 + 2, none⟩) (by exact hbw)).trans y2
              first
                | (have h11 : p 11 = true := by simp [DepQ, Region.binds] at hdq; simp [hdq]
                   have h9' : ρ (.tmp 36) = .agg #[.int .u64 x.at_, .int .u64 x.seq, .int .i64 x.place] := by first | exact hd.1 | exact hd.2.1 | exact hd
                   obtain ⟨k, u0, u1, u2, a1, a2, a3⟩ := hSt.bx h11
                   have e8 : ρ (.tmp 8) = .pointer (some ⟨k, 0, none⟩) := (hV 11 h11).trans a1
                   have ck := a3.cell
                   have zk := a3.frozen
                   have lk := a3.lt
                   clear hdq hV hd
                   go_simp
                   simp only [GoodV, FMe, List.getD_cons_zero, List.getD_cons_succ, Nat.reduceEqDiff, if_false, if_true, reduceIte, reduceCtorEq]
                   exact ⟨trivial, (by simp [World.setCell]), fun h => absurd h (by decide), hSt.store a1 a2 a3 _ _ _⟩)
                | (clear hdq hV
                   (try rw [execOp_call_fn _ _ _ _ _ _ _ _ _ (hρ.fn _)])
                   go_simp
                   (try simp only [GoodV, FMe, List.getD_cons_zero, List.getD_cons_succ, Nat.reduceEqDiff, if_false, if_true, reduceIte, reduceCtorEq])
                   first
                     | exact ⟨fun h => absurd h (by decide), rfl, Nat.le_refl _, fun h => absurd h (by decide), hSt.other (Below.refl _ _) (by decide) _⟩
                     | exact ⟨fun h => absurd h (by decide), trivial, Nat.le_refl _, fun h => absurd h (by decide), hSt.other (Below.refl _ _) (by decide) _⟩
                     | exact ⟨fun h => absurd h (by decide), trivial, (alloc_kept' _ _).size, fun h => absurd h (by decide), hSt.laid _ _ _⟩
                     | (refine (hrg' w' hSt.bl).mono ?_
                        rintro e w'' ⟨rfl, hk⟩
                        exact ⟨_, rfl, fun h => absurd h (by decide), rfl, hk.size, fun h => absurd h (by decide), hSt.other hk (by decide) _⟩))
          trivial
        · intro vs w8 hSt hF _
          have h13 : vs 13 = .bool bb := hF 13 (by decide)
          have h10 : vs 10 = .bool bb := hF 10 (by decide)
          have hm8 := HM.out.on hSt.bl
          have hz8 := hSt.bl.size
          have ho8 : OwnT w8 w0.heap.size u (putsL m (m2.take j)) := own_below HO.out hSt.bl (Nat.le_refl _)
          have hB8 : Below w0.heap.size w0 w8 := HV20.out.2.2.trans (Below.mono hSt.bl HS.out.2.1)
          have g0 := (hSt.bl.cell (p := ⟨b, o + j * 3, none⟩) (by exact hbw)).trans y0
          have g1 := (hSt.bl.cell (p := ⟨b, o + j * 3 + 1, none⟩) (by exact hbw)).trans y1
          have g2 := (hSt.bl.cell (p := ⟨b, o + j * 3 + 2, none⟩) (by exact hbw)).trans y2
          simp only [setAll, List.setIfInBounds_toArray, List.set_cons_zero, List.set_cons_succ, Nat.reduceAdd]
          rw [h13]
          simp only [List.drop_succ_cons, List.drop_zero, List.drop_nil]
          clear h13 h10 hF hSt q2 q3 cq3 hrg' hB y0 y1 y2
          cases bb with
          | true =>
            have hE := HE4.out (HANY.out HBB.out)
            have q2 := hm8.b2.cell
            have HM := Lib.hid hm8
            have HF : Hid (rmC P P m m2 (.slice A n c) (.returned (qE P (.slice A n c) 4)) w ((w8.setCell ⟨g + 1 + 1, 0, none⟩ (.int .i64 P)).setCell ⟨g + 1 + 1, 1, none⟩ (.slice A n c))) := Lib.hid (by
              have hL : mldL P P m m2 = m := by unfold mldL; rw [hE]; rfl
              refine ⟨_, by rw [hE], ?_, ?_⟩
              · rw [hL]
                exact ((HV0.out.on hB8).setCell ⟨g + 1 + 1, 0, none⟩ _ fun b hb => by have := HV20.out.1 b hb; show b ≠ g + 1 + 1; omega).setCell ⟨g + 1 + 1, 1, none⟩ _ fun b hb => by have := HV20.out.1 b hb; show b ≠ g + 1 + 1; omega
              · rw [HG.out]
                exact (HM.out.bl.setCell (p := ⟨g + 1 + 1, 0, none⟩) (by show g ≤ g + 1 + 1; omega) _).setCell (p := ⟨g + 1 + 1, 1, none⟩) (by show g ≤ g + 1 + 1; omega) _)
            clear hm8 ho8 hB8 g0 g1 g2 hE
            have z4 := HM.out.b4.frozen
            have l4 := HM.out.b4.lt
            have c4 := HM.out.b4.cell
            have x4 := ((HM.out.b4.put 0 (.int .i64 P)).put 1 (.slice A n c))
            simp only [List.setIfInBounds_toArray, List.set_cons_zero, List.set_cons_succ] at x4
            have cx := x4.cell
            clear x4
            go_wp2_with fail
            refine bodyPost_ret (v := qE P (.slice A n c) 4) (by simp [results, Try.results18, go_sem, qE, qV, cx]) rfl HF.out
          | false =>
            obtain ⟨A6, c6, e6, hT6, hc6, hm6, hA6, _⟩ := (show LAt w8 u (putsL m (m2.take j)) from OwnT.lat ho8)
            have hpu := put_any A6 (putsL m (m2.take j)) c6 y w8 hT6 (by have := HS.out.1; omega) ⟨hc6, by unfold maxLen at hm6; omega⟩ hA6
            subst e6
            have q3 := hm8.b3.cell
            have hzz : w0.heap.size ≤ w8.heap.size := hB8.size
            have HB8 := Lib.hid hB8
            unfold Timer.val at hpu
            generalize (putsL m (m2.take j)).length = n6 at *
            clear hT6 hc6 hm6 hA6 ho8 hm8 hB8
            go_wp2_with fail
            refine hpu.mono ?_
            rintro e w9 ⟨u2, rfl, ho9, hk9⟩
            have HO9 := Lib.hid (ho9.mono hzz)
            have HB9 := Lib.hid (HB8.out.trans (Below.mono hk9 hzz))
            clear hpu ho9 hk9 q3 g0 g1 g2
            go_wp2_with fail
            go_roundw
            case rel => exact ⟨j + 1, _, rfl, by omega, by go_num, by rw [HST.out]; exact HO9.out, fun z hz1 hz2 => by
              by_cases e : z = j
              · subst e
                rw [HY.out]
                exact HBB.out
              · exact HZ.out z hz1 (by omega), HB9.out⟩
            case measure => simp [intOf]; omega
      · obtain rfl : n2 = j := by omega
        have hT : m2.take n2 = m2 := List.take_of_length_le (by have := HN2.out; omega)
        rw [hT] at ho hpl
        have hno : m2.any (fun x => (getL m x.place).isSome) = false := by
          rw [List.any_eq_false]
          intro x hx
          obtain ⟨z, hzl, rfl⟩ := List.getElem_of_mem hx
          rw [hz z hzl (by have := HN2.out; omega)]
          decide
        have hE := HE0.out hno
        have HM := Lib.hid hm
        obtain ⟨A6, c6, rfl, hT6, hc6, hm6, hA6⟩ := ho.at
        have hblk6 : ∀ b, blkOf (.slice A6 (putsL m m2).length c6) = some b → w0.heap.size ≤ b := fun b e => by
          cases A6 with
          | none => cases e
          | some a => exact (hA6 b (by simpa [blkOf] using e)).1
        have q2 := hm.b2.cell
        have q3 := hm.b3.cell
        have HF : Hid (rmC P P m m2 (.slice A n c) (.returned (qE P (.slice A6 (putsL m m2).length c6) 0)) w ((wr.setCell ⟨g + 1 + 1, 0, none⟩ (.int .i64 P)).setCell ⟨g + 1 + 1, 1, none⟩ (.slice A6 (putsL m m2).length c6))) := Lib.hid (by
          have hL : mldL P P m m2 = putsL m m2 := by unfold mldL; rw [hE]; rfl
          refine ⟨_, by rw [hE], ?_, ?_⟩
          · rw [hL]
            exact (ho.lat.setCell ⟨g + 1 + 1, 0, none⟩ _ fun b hb => by have := hblk6 b hb; show b ≠ g + 1 + 1; omega).setCell ⟨g + 1 + 1, 1, none⟩ _ fun b hb => by have := hblk6 b hb; show b ≠ g + 1 + 1; omega
          · rw [HG.out]
            exact (HM.out.bl.setCell (p := ⟨g + 1 + 1, 0, none⟩) (by show g ≤ g + 1 + 1; omega) _).setCell (p := ⟨g + 1 + 1, 1, none⟩) (by show g ≤ g + 1 + 1; omega) _)
        generalize (putsL m m2).length = n6 at *
        clear hT6 ho hblk6 hA6 hvr hm hz hE hno
        have z4 := HM.out.b4.frozen
        have l4 := HM.out.b4.lt
        have c4 := HM.out.b4.cell
        have x4 := ((HM.out.b4.put 0 (.int .i64 P)).put 1 (.slice A6 n6 c6))
        simp only [List.setIfInBounds_toArray, List.set_cons_zero, List.set_cons_succ] at x4
        have cx := x4.cell
        clear x4
        go_wp2_with fail
        refine bodyPost_ret (v := qE P (.slice A6 n6 c6) 0) (by simp [results, Try.results18, go_sem, qE, qV, cx]) rfl HF.out
  · have z4 := hmb.b4.frozen
    have l4 := hmb.b4.lt
    have x4 := ((hmb.b4.put 0 (.int .i64 P)).put 1 (.slice A n c))
    simp only [List.setIfInBounds_toArray, List.set_cons_zero, List.set_cons_succ] at x4
    have HF : Hid (rmC P P2 m m2 (.slice A n c) (.returned (qE P (.slice A n c) 1)) w ((w0.setCell ⟨g + 1 + 1, 0, none⟩ (.int .i64 P)).setCell ⟨g + 1 + 1, 1, none⟩ (.slice A n c))) := Lib.hid (by
      have hE : mldE P P2 m m2 = 1 := by unfold mldE; rw [if_pos hne]
      have hL : mldL P P2 m m2 = m := by unfold mldL; rw [hE]; rfl
      refine ⟨_, by rw [hE], ?_, ?_⟩
      · rw [hL]
        exact (hv0.setCell ⟨g + 1 + 1, 0, none⟩ _ fun b hb => by have := hvb b hb; show b ≠ g + 1 + 1; omega).setCell ⟨g + 1 + 1, 1, none⟩ _ fun b hb => by have := hvb b hb; show b ≠ g + 1 + 1; omega
      · rw [HG.out]
        exact (hmb.bl.setCell (p := ⟨g + 1 + 1, 0, none⟩) (by show g ≤ g + 1 + 1; omega) _).setCell (p := ⟨g + 1 + 1, 1, none⟩) (by show g ≤ g + 1 + 1; omega) _)
    have cx := x4.cell
    have hne2 : ¬ (P : Int) = (P2 : Int) := by omega
    go_wp2_with fail
    refine bodyPost_ret (v := qE P (.slice A n c) 1) (by simp [results, Try.results18, go_sem, qE, qV, cx]) rfl HF.out
end Go.Proofs.Ytpbepmipfjcjbaa
