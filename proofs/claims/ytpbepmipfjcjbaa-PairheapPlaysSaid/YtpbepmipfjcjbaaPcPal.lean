/- The law: the texts Pal, laid end to end by a program. -/
import Derived.Test.YtpbepmipfjcjbaaPk19
namespace Go.Proofs.Ytpbepmipfjcjbaa
open Go.RowKit

def FAl (m : List Timer) (l : List Value) (j : Nat) (v : Value) (w : World) : Prop := if j = 1 then LAt w v m else v = l.getD j undef
theorem FAl.keep {m : List Timer} {l : List Value} (i j : Nat) (v : Value) (w w' : World) (_ : j ≠ i) (h : FAl m l j v w) (r : Below w.heap.size w w') : FAl m l j v w' := by
  unfold FAl at h ⊢
  split at h
  · rename_i hj; rw [if_pos hj]; exact h.on r
  · rename_i hj; rw [if_neg hj]; exact h
attribute [local irreducible] Calls
set_option linter.unusedSimpArgs false in
set_option maxRecDepth 100000 in
set_option maxHeartbeats 8000000 in
theorem palike (q P : Nat) (m : List Timer) (G : Nat → Prop) (Pi : Int) (v : Value) (place : Int) (w : World) (h : PQ w q P m G) (hP : P ≤ 1024) (hv : LAt w v m) (hl : m.length ≤ 100000) :
    Calls Try.prog 14 #[.pointer (some ⟨q, 0, none⟩), qV Pi v, .int .i64 place] w fun e w' => e = .returned (.bool true) ∧ Below w.heap.size w w' := by
  have hge := fun x (hx : PQ x q P m G) => pq_get hx hP place
  have hgr := fun x (hx : LAt x v m) => rget_any Pi v m place x hx hl
  have hmq := fun x (hx : PQ x q P m G) => pq_min hx
  have hmr := fun x (hx : LAt x v m) => rmin_any Pi v m x hx hl
  obtain ⟨A, c, rfl, _⟩ := id hv
  generalize hgl : getL m place = ox at *
  obtain ⟨x, bx, hx⟩ : ∃ x b, pairT ox = .tuple #[.agg #[.int .u64 x.at_, .int .u64 x.seq, .int .i64 x.place], .bool b] := ⟨ox.getD Timer.zero, ox.isSome, rfl⟩
  obtain ⟨y, by_, hy⟩ : ∃ y b, pairT m.head? = .tuple #[.agg #[.int .u64 y.at_, .int .u64 y.seq, .int .i64 y.place], .bool b] := ⟨m.head?.getD Timer.zero, m.head?.isSome, rfl⟩
  rw [hx] at hge hgr
  rw [hy] at hmq hmr
  clear hgl hx hy
  have b4 := Blk.new w 30 #[.int .i64 Pi, .slice A m.length c]
  have hb0 : Below w.heap.size w (w.alloc (.cells #[.int .i64 Pi, .slice A m.length c] 30)) := (Below.refl _ _).alloc (Nat.le_refl _) _
  have h0 := h.below hb0
  have hv0 := hv.on hb0
  unfold qV at *
  clear h hv
  go_enter Try.func14, Try.ntmps14
  go_upto_region 1 with fail
  generalize hn : m.length = n at *
  have HN := Lib.hid hn
  clear hn
  generalize w.alloc (.cells #[.int .i64 Pi, .slice A n c] 30) = w0 at *
  generalize hg4 : w.heap.size = g4 at *
  go_wp2_with fail
  refine (hge w0 h0).mono ?_
  rintro e w1 ⟨rfl, hx1⟩
  have hk2 : Below w0.heap.size w0 (w1.alloc (.cells #[.int .u64 x.at_, .int .u64 x.seq, .int .i64 x.place] 35)) := hx1.alloc hx1.size _
  have b7 := Blk.new w1 35 #[.int .u64 x.at_, .int .u64 x.seq, .int .i64 x.place]
  clear hge hx1
  go_upto_region 2 with fail
  generalize w1.alloc (.cells #[.int .u64 x.at_, .int .u64 x.seq, .int .i64 x.place] 35) = w2 at *
  generalize w1.heap.size = g7 at *
  have h2 := h0.below hk2
  have b42 := b4.below hk2 b4.lt
  have hv2 := hv0.on hk2
  have c42 := b42.cell
  clear h0 b4 hv0
  go_wp2_with fail
  refine (hgr w2 hv2).mono ?_
  rintro e w3 ⟨rfl, hx3⟩
  have hk4 : Below w2.heap.size w2 (w3.alloc (.cells #[.int .u64 x.at_, .int .u64 x.seq, .int .i64 x.place] 35)) := hx3.alloc hx3.size _
  have b9 := Blk.new w3 35 #[.int .u64 x.at_, .int .u64 x.seq, .int .i64 x.place]
  clear hgr hx3 c42
  go_upto_region 3 with fail
  generalize w3.alloc (.cells #[.int .u64 x.at_, .int .u64 x.seq, .int .i64 x.place] 35) = w4 at *
  generalize w3.heap.size = g9 at *
  have h4 := h2.below hk4
  have b44 := b42.below hk4 b42.lt
  have b74 := b7.below hk4 b7.lt
  have hv4 := hv2.on hk4
  clear h2 b42 b7 hv2
  go_wp2_with fail
  refine (hmq w4 h4).mono ?_
  rintro e w5 ⟨rfl, hx5⟩
  have hk6 : Below w4.heap.size w4 (w5.alloc (.cells #[.int .u64 y.at_, .int .u64 y.seq, .int .i64 y.place] 35)) := hx5.alloc hx5.size _
  have b11 := Blk.new w5 35 #[.int .u64 y.at_, .int .u64 y.seq, .int .i64 y.place]
  clear hmq hx5
  go_upto_region 4 with fail
  generalize w5.alloc (.cells #[.int .u64 y.at_, .int .u64 y.seq, .int .i64 y.place] 35) = w6 at *
  generalize w5.heap.size = g11 at *
  have h6 := h4.below hk6
  have b46 := b44.below hk6 b44.lt
  have b76 := b74.below hk6 b74.lt
  have b96 := b9.below hk6 b9.lt
  have hv6 := hv4.on hk6
  have c46 := b46.cell
  clear h4 b44 b74 b9 hv4
  go_wp2_with fail
  refine (hmr w6 hv6).mono ?_
  rintro e w7 ⟨rfl, hx7⟩
  have hk8 : Below w6.heap.size w6 (w7.alloc (.cells #[.int .u64 y.at_, .int .u64 y.seq, .int .i64 y.place] 35)) := hx7.alloc hx7.size _
  have b13 := Blk.new w7 35 #[.int .u64 y.at_, .int .u64 y.seq, .int .i64 y.place]
  clear hmr hx7 c46
  go_upto_region 5 with fail
  generalize w7.alloc (.cells #[.int .u64 y.at_, .int .u64 y.seq, .int .i64 y.place] 35) = w8 at *
  generalize w7.heap.size = g13 at *
  have h8 := h6.below hk8
  have b48 := b46.below hk8 b46.lt
  have b78 := b76.below hk8 b76.lt
  have b98 := b96.below hk8 b96.lt
  have b118 := b11.below hk8 b11.lt
  have hv8 := hv6.on hk8
  have hwl : g4 ≤ w0.heap.size := by rw [← hg4]; exact hb0.size
  have hz2 := hk2.size
  have hz4 := hk4.size
  have hz6 := hk6.size
  have hz8 := hk8.size
  have hb8 : Below g4 w w8 := (((hb0.trans (Below.mono hk2 hwl)).trans (Below.mono hk4 (by omega))).trans (Below.mono hk6 (by omega))).trans (Below.mono hk8 (by omega))
  have hg8 : g4 ≤ w8.heap.size := by omega
  have HG := Lib.hid hg4
  clear h6 b46 b76 b96 b11 hv6 hb0 hk2 hk4 hk6 hk8 hwl hz2 hz4 hz6 hz8 hg4
  have hs0 : Below w8.heap.size w8 w8.drew := (Below.refl _ _).drew
  refine region_facts_set 4 (fun _ => false) (FAl m [.pointer (some ⟨q, 0, none⟩), undef, .pointer (some ⟨g4, 1, none⟩), .slice A n c]) (fun _ x => Below w8.heap.size w8 x) (fun _ x y => Below x.heap.size x y) [38, 39, 40, 41] (by kernel_rfl) (by kernel_rfl) (by kernel_rfl) (by decide) (by kernel_rfl) (by kernel_rfl) FAl.keep (fun _ _ _ h => h.size) hs0 ?_ ?_
  · intro fr hfr
    have f0 : fr.getD 0 undef = .pointer (some ⟨q, 0, none⟩) := by rw [hfr]; rfl
    have f4 : fr.getD 4 undef = .pointer (some ⟨g4, 0, none⟩) := by rw [hfr]; rfl
    clear hfr
    iterate 4
      refine ⟨⟨trivial, ?_⟩, ?_⟩
      · intro ρ w' p hp hdq hρ hd hSt
        simp only [DepF, Region.binds, List.getD_cons_zero, List.getD_cons_succ, FAl, forall_const, and_true, true_and, Nat.reduceEqDiff, if_false, if_true, reduceIte, reduceCtorEq] at hd
        have hcon := hρ.con
        have e0 := (hρ.slot 0 (by kernel_rfl)).trans f0
        have e4 := (hρ.slot 4 (by kernel_rfl)).trans f4
        have c4 := (b48.below hSt b48.lt).cell
        (try rw [execOp_call_fn _ _ _ _ _ _ _ _ _ (hρ.fn _)])
        go_simp
        (try simp only [GoodQ, FAl, List.getD_cons_zero, List.getD_cons_succ, Nat.reduceEqDiff, if_false, if_true, reduceIte, reduceCtorEq])
        first
          | exact ⟨rfl, Below.refl _ _, fun h => absurd h (by decide), hSt⟩
          | exact ⟨trivial, Below.refl _ _, fun h => absurd h (by decide), hSt⟩
          | (refine (pq_all (h8.below hSt) hP).mono ?_
             rintro e w'' ⟨v', rfl, ho', hk⟩
             exact ⟨v', rfl, ho'.lat, hk, fun h => absurd h (by decide), hSt.trans (Below.mono hk hSt.size)⟩)
    trivial
  · intro vs w9 hSt hF _
    have h1 : LAt w9 (vs 1) m := hF 1 (by decide)
    have h3 : vs 3 = .slice A n c := hF 3 (by decide)
    have hsm := same_refl (vs 1) (.slice A n c) _ w9 h1 (hv8.on hSt) (by rw [HN.out]; omega)
    have h9 := h8.below hSt
    have b49 := b48.below hSt b48.lt
    have b79 := b78.below hSt b78.lt
    have b99 := b98.below hSt b98.lt
    have b119 := b118.below hSt b118.lt
    have b139 := b13.below hSt b13.lt
    have hb9 := hb8.trans (Below.mono hSt hg8)
    have hg9 := Nat.le_trans hg8 hSt.size
    simp only [setAll, List.setIfInBounds_toArray, List.set_cons_zero, List.set_cons_succ, Nat.reduceAdd]
    rw [h3]
    simp only [List.drop_succ_cons, List.drop_zero, List.drop_nil]
    clear hF h1 h3 hs0 hSt h8 b48 b78 b98 b118 b13 hv8 hb8 hg8
    go_wp2_with fail
    refine hsm.mono ?_
    rintro e w10 ⟨rfl, hx10⟩
    have h10 := h9.below hx10
    have d4 := b49.below hx10 b49.lt
    have d7 := b79.below hx10 b79.lt
    have d9 := b99.below hx10 b99.lt
    have d11 := b119.below hx10 b119.lt
    have d13 := b139.below hx10 b139.lt
    have hb10 := hb9.trans (Below.mono hx10 hg9)
    have hg10 := Nat.le_trans hg9 hx10.size
    have hln := fun z (hz : Below w10.heap.size w10 z) => pq_len (h10.below hz)
    rw [HN.out] at hln
    clear hsm hx10 h9 b49 b79 b99 b119 b139 hb9 hg9
    go_upto_region 6 with fail
    have hs0 : Below w10.heap.size w10 w10.drew := (Below.refl _ _).drew
    refine region_facts_set 29 (fun _ => false) (FV [.agg #[.int .u64 x.at_, .int .u64 x.seq, .int .i64 x.place], .agg #[.int .u64 x.at_, .int .u64 x.seq, .int .i64 x.place], .bool true, .bool true, .bool bx, .bool bx, .bool true, .bool true, .bool true, .agg #[.int .u64 y.at_, .int .u64 y.seq, .int .i64 y.place], .agg #[.int .u64 y.at_, .int .u64 y.seq, .int .i64 y.place], .bool true, .bool true, .bool true, .bool by_, .bool by_, .bool true, .bool true, .bool true, .pointer (some ⟨q, 0, none⟩), .int .i64 n, .pointer (some ⟨g4, 1, none⟩), .slice A n c, .int .i64 n, .bool true, .bool true, .bool true, .bool true, .bool true]) (fun _ x => Below w10.heap.size w10 x) (fun _ x y => x.heap.size ≤ y.heap.size) [43, 44, 45, 46, 47, 48, 49, 50, 51, 52, 53, 54, 55, 56, 57, 58, 59, 60, 61, 62, 63, 64, 65, 66, 67, 68, 69, 70, 71] (by kernel_rfl) (by kernel_rfl) (by kernel_rfl) (by decide) (by kernel_rfl) (by kernel_rfl) (fun _ _ _ _ _ _ h _ => h) (fun _ _ _ h => h) hs0 ?_ ?_
    · intro fr hfr
      have f0 : fr.getD 0 undef = .pointer (some ⟨q, 0, none⟩) := by rw [hfr]; rfl
      have f4 : fr.getD 4 undef = .pointer (some ⟨g4, 0, none⟩) := by rw [hfr]; rfl
      have f7 : fr.getD 7 undef = .pointer (some ⟨g7, 0, none⟩) := by rw [hfr]; rfl
      have f9 : fr.getD 9 undef = .pointer (some ⟨g9, 0, none⟩) := by rw [hfr]; rfl
      have f11 : fr.getD 11 undef = .pointer (some ⟨g11, 0, none⟩) := by rw [hfr]; rfl
      have f13 : fr.getD 13 undef = .pointer (some ⟨g13, 0, none⟩) := by rw [hfr]; rfl
      have f8 : fr.getD 8 undef = .bool bx := by rw [hfr]; rfl
      have f10 : fr.getD 10 undef = .bool bx := by rw [hfr]; rfl
      have f12 : fr.getD 12 undef = .bool by_ := by rw [hfr]; rfl
      have f14 : fr.getD 14 undef = .bool by_ := by rw [hfr]; rfl
      have f15 : fr.getD 15 undef = .bool true := by rw [hfr]; rfl
      clear hfr
      iterate 29
        refine ⟨⟨by first | trivial | exact ⟨rfl, fun _ _ h => h⟩, ?_⟩, ?_⟩
        · intro ρ w' p hp hdq hρ hd hSt
          simp only [DepF, Region.binds, List.getD_cons_zero, List.getD_cons_succ, FV, forall_const, and_true, true_and] at hd
          have hcon := hρ.con
          (have e0 := (hρ.slot 0 (by kernel_rfl)).trans f0; have e4 := (hρ.slot 4 (by kernel_rfl)).trans f4; have e7 := (hρ.slot 7 (by kernel_rfl)).trans f7; have e9 := (hρ.slot 9 (by kernel_rfl)).trans f9; have e11 := (hρ.slot 11 (by kernel_rfl)).trans f11; have e13 := (hρ.slot 13 (by kernel_rfl)).trans f13; have e8 := (hρ.slot 8 (by kernel_rfl)).trans f8; have e10 := (hρ.slot 10 (by kernel_rfl)).trans f10; have e12 := (hρ.slot 12 (by kernel_rfl)).trans f12; have e14 := (hρ.slot 14 (by kernel_rfl)).trans f14; have e15 := (hρ.slot 15 (by kernel_rfl)).trans f15)
          (have c4 := (d4.below hSt d4.lt).cell; have c7 := (d7.below hSt d7.lt).cell; have c9 := (d9.below hSt d9.lt).cell; have c11 := (d11.below hSt d11.lt).cell; have c13 := (d13.below hSt d13.lt).cell)
          (try rw [execOp_call_fn _ _ _ _ _ _ _ _ _ (hρ.fn _)])
          go_simp
          (try simp only [GoodQ, FV, List.getD_cons_zero, List.getD_cons_succ])
          first
            | exact ⟨rfl, Nat.le_refl _, fun h => absurd h (by decide), hSt⟩
            | exact ⟨trivial, Nat.le_refl _, fun h => absurd h (by decide), hSt⟩
            | (refine (hln w' hSt).mono ?_; rintro e w'' ⟨rfl, rfl⟩; exact ⟨_, rfl, rfl, Nat.le_refl _, fun h => absurd h (by decide), hSt⟩)
      trivial
    · intro vs2 w11 hSt hF _
      have h28 : vs2 28 = .bool true := hF 28 (by decide)
      have HB := Lib.hid (hb10.trans (Below.mono hSt hg10))
      simp only [setAll, List.setIfInBounds_toArray, List.set_cons_zero, List.set_cons_succ, Nat.reduceAdd]
      rw [h28]
      simp only [List.drop_succ_cons, List.drop_zero, List.drop_nil]
      clear h28 hF hs0 hSt hln h10 d4 d7 d9 d11 d13 hb10 hg10
      go_wp2_with fail
      go_ret
      exact ⟨rfl, by rw [HG.out]; exact HB.out⟩
end Go.Proofs.Ytpbepmipfjcjbaa
