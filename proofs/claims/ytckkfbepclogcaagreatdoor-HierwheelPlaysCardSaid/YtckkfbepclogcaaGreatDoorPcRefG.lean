/- The law: the texts RefG, laid end to end by a program. -/
import Derived.Test.YtckkfbepclogcaaGreatDoorPk19
import Derived.Test.YtckkfbepclogcaaGreatDoorPcRef3
import Derived.Test.YtckkfbepclogcaaGreatDoorPk21
import Derived.Test.YtckkfbepclogcaaGreatDoorPk1
namespace Go.Proofs.YtckkfbepclogcaaGreatDoor
open Go.RowKit

attribute [local irreducible] Calls
set_option linter.unusedSimpArgs false in
set_option maxRecDepth 100000 in
set_option maxHeartbeats 4000000 in
theorem vwwhere_any (P : Int) (v : Value) (m : List Timer) (n B : Nat) (PP : Nat) (z : RSz PP n B) (base lk p : Int) (w : World) (h : LAt w v m) (hl : m.length ≤ 100000) (hb : U64 base) (hf : ∀ x ∈ m, U64 x.at_) :
    Calls Tryz.prog 12 #[wV P v n base lk, .int .i64 p] w fun e w' => e = .returned (whV B base (getL m p)) ∧ Below w.heap.size w w' := by
  have r0 := alloc_kept' w (.cells #[.int .i64 P, v, .int .i64 n, .int .u64 base, .int .i64 lk] 33)
  have b0 : Blk (w.alloc (.cells #[.int .i64 P, v, .int .i64 n, .int .u64 base, .int .i64 lk] 33)) w.heap.size 33 #[.int .i64 P, v, .int .i64 n, .int .u64 base, .int .i64 lk] := Blk.new _ _ _
  have hg := rget_any P v m p _ (h.on r0) hl
  obtain ⟨A0, n0, c0, rfl⟩ := h.form
  unfold pairT Timer.val qV at hg
  unfold wV
  cases ho : getL m p with
  | none =>
    rw [ho] at hg
    simp only [Option.getD_none, Option.isSome_none] at hg
    generalize Timer.zero = t0 at *
    clear hf
    unfold whV
    simp only []
    go_enter Tryz.func12, Tryz.ntmps12
    go_wp2_with fail
    refine hg.mono ?_
    rintro e w1 ⟨rfl, hx⟩
    have HB := Lib.hid ((r0.trans (Below.mono hx r0.size)).alloc (by have := (r0.trans (Below.mono hx r0.size)).size; omega) (.cells #[.int .u64 t0.at_, .int .u64 t0.seq, .int .i64 t0.place] 37))
    clear hg hx r0 b0
    go_wp2_with fail
    exact bodyPost_ret (v := .tuple #[.int .i64 0, .int .i64 0, .bool false]) (by simp [results, Tryz.results12, go_sem]) rfl ⟨rfl, HB.out⟩
  | some t =>
    rw [ho] at hg
    simp only [Option.getD_some, Option.isSome_some] at hg
    have hut := hf t (List.mem_of_find?_eq_some ho)
    have hl1 := fun w => rlevel_u z hb hut w
    have hs1 := fun w => rslot_u z hb hut w
    unfold whV
    simp only []
    generalize lev (B : Int) base t.at_ = L at *
    generalize slotI (B : Int) base t.at_ = S1 at *
    clear hf ho
    go_enter Tryz.func12, Tryz.ntmps12
    go_wp2_with fail
    refine hg.mono ?_
    rintro e w1 ⟨rfl, hx⟩
    have hb1 := r0.trans (Below.mono hx r0.size)
    have q0 := (b0.below hx b0.lt).alloc (.cells #[.int .u64 t.at_, .int .u64 t.seq, .int .i64 t.place] 37)
    have q7 : Blk (w1.alloc (.cells #[.int .u64 t.at_, .int .u64 t.seq, .int .i64 t.place] 37)) w1.heap.size 37 #[.int .u64 t.at_, .int .u64 t.seq, .int .i64 t.place] := Blk.new _ _ _
    have hb2 := hb1.alloc hb1.size (.cells #[.int .u64 t.at_, .int .u64 t.seq, .int .i64 t.place] 37)
    clear hg hx r0 b0 hb1
    go_upto_region 4 with fail
    generalize w1.alloc (.cells #[.int .u64 t.at_, .int .u64 t.seq, .int .i64 t.place] 37) = w2 at *
    generalize w1.heap.size = x7 at *
    have hs0 : Below w2.heap.size w2 w2.drew := (Below.refl _ _).drew
    refine region_facts_set 17 (fun _ => false) (FV [.pointer (some ⟨w.heap.size, 3, none⟩), .int .u64 base, .pointer (some ⟨x7, 0, none⟩), .int .u64 t.at_, .pointer (some ⟨w.heap.size, 2, none⟩), .int .i64 n, .int .i64 L, .pointer (some ⟨w.heap.size, 3, none⟩), .int .u64 base, .pointer (some ⟨x7, 0, none⟩), .int .u64 t.at_, .pointer (some ⟨w.heap.size, 2, none⟩), .int .i64 n, .int .i64 S1, .int .i64 L, .int .i64 S1, .bool true]) (fun _ x => Below w2.heap.size w2 x) (fun _ x y => x.heap.size ≤ y.heap.size) [18, 19, 20, 21, 22, 23, 24, 25, 26, 27, 28, 29, 30, 31, 4, 5, 6] (by kernel_rfl) (by kernel_rfl) (by kernel_rfl) (by decide) (by kernel_rfl) (by kernel_rfl) (fun _ _ _ _ _ _ h _ => h) (fun _ _ _ h => h) hs0 ?_ ?_
    · intro fr hfr
      have f2 : fr.getD 2 undef = .pointer (some ⟨w.heap.size, 0, none⟩) := by rw [hfr]; rfl
      have f7 : fr.getD 7 undef = .pointer (some ⟨x7, 0, none⟩) := by rw [hfr]; rfl
      clear hfr
      iterate 17
        refine ⟨⟨by first | trivial | exact ⟨rfl, fun _ _ h => h⟩, ?_⟩, ?_⟩
        · intro ρ w' p hp hdq hρ hd hSt
          simp only [DepF, Region.binds, List.getD_cons_zero, List.getD_cons_succ, FV, forall_const, and_true, true_and] at hd
          have hcon := hρ.con
          (have e2 := (hρ.slot 2 (by kernel_rfl)).trans f2; have e7 := (hρ.slot 7 (by kernel_rfl)).trans f7)
          (have eb := (q0.below hSt q0.lt).cell; have eq := (q7.below hSt q7.lt).cell)
          (try rw [execOp_call_fn _ _ _ _ _ _ _ _ _ (hρ.fn _)])
          go_simp
          (try simp only [GoodQ, FV, List.getD_cons_zero, List.getD_cons_succ])
          first
            | exact ⟨rfl, Nat.le_refl _, fun h => absurd h (by decide), hSt⟩
            | exact ⟨trivial, Nat.le_refl _, fun h => absurd h (by decide), hSt⟩
            | (first | (refine (hl1 w').mono ?_; rintro e w'' ⟨rfl, hx⟩; exact ⟨_, rfl, rfl, hx.size, fun h => absurd h (by decide), hSt.trans (Below.mono hx hSt.size)⟩) | (refine (hs1 w').mono ?_; rintro e w'' ⟨rfl, hx⟩; exact ⟨_, rfl, rfl, hx.size, fun h => absurd h (by decide), hSt.trans (Below.mono hx hSt.size)⟩))
      trivial
    · intro vs w4 hSt hF _
      have h14 : vs 14 = .int .i64 L := hF 14 (by decide)
      have h15 : vs 15 = .int .i64 S1 := hF 15 (by decide)
      have h16 : vs 16 = .bool true := hF 16 (by decide)
      have HB := Lib.hid (hb2.trans (Below.mono hSt hb2.size))
      simp only [setAll, List.setIfInBounds_toArray, List.set_cons_zero, List.set_cons_succ, Nat.reduceAdd]
      rw [h14, h15, h16]
      simp only [List.drop_succ_cons, List.drop_zero, List.drop_nil]
      clear h14 h15 h16 hF hs0 hSt q0 q7 hl1 hs1
      go_wp2_with fail
      exact bodyPost_ret (v := .tuple #[.int .i64 L, .int .i64 S1, .bool true]) (by simp [results, Tryz.results12, go_sem]) rfl ⟨rfl, HB.out⟩
end Go.Proofs.YtckkfbepclogcaaGreatDoor
