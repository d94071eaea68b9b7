/- Order: works, the document's examples. -/
import Derived.Test.YtfdbimkddkohnaaMerge
import Derived.Test.YtfdbimkddkohnaaSort
namespace Go.Proofs.Ytfdbimkddkohnaa
open Go.RowKit
theorem LAt.built (w : World) (l : List Timer) (h : l.length ≤ maxLen) (_ : 0 < l.length) : LAt (w.alloc (.cells (l.flatMap Timer.cells).toArray 25)) (.slice (some ⟨w.heap.size, 0, none⟩) l.length l.length) l := by
  have hB : Blk (w.alloc (.cells (l.flatMap Timer.cells).toArray 25)) w.heap.size 25 (l.flatMap Timer.cells).toArray := Blk.new _ _ _
  refine ⟨_, l.length, rfl, ?_, Nat.le_refl _, h, by simp, ?_⟩
  · intro i hi
    have e : ∀ j, j < 3 → (w.alloc (.cells (l.flatMap Timer.cells).toArray 25)).cell? ⟨w.heap.size, i * 3 + j, none⟩ = l[i].cells[j]? := fun j hj => by
      rw [hB.cell, List.getElem?_toArray]
      exact flat_idx l i hi j hj
    refine ⟨w.heap.size, 0, rfl, hB.lt, ?_, ?_, ?_⟩
    · simpa [Timer.cells] using e 0 (by omega)
    · simpa [Timer.cells] using e 1 (by omega)
    · simpa [Timer.cells] using e 2 (by omega)
  · intro g e
    simp only [Option.map_some, Option.some.injEq] at e
    subst e
    exact hB.lt
def tA : Timer := ⟨1, 0, 0⟩
def tB : Timer := ⟨2, 0, 0⟩
def tC : Timer := ⟨3, 0, 0⟩
def tD : Timer := ⟨2, 1, 0⟩
theorem same_lat (v u : Value) (l m : List Timer) (w : World) (h : LAt w v l) (k : LAt w u m) (hl : l.length ≤ 1000000) (hm : m.length ≤ 1000000) :
    Calls Try.prog 24 #[v, u] w fun e w' => e = .returned (.bool (decide (l = m))) ∧ Below w.heap.size w w' := by
  obtain ⟨A, c, rfl, hT, _⟩ := h
  obtain ⟨C, d, rfl, kT, _⟩ := k
  exact same_any A C l m c d w hT kT hl hm
theorem find_lat (v : Value) (l : List Timer) (t : Timer) (w : World) (h : LAt w v l) (hl : l.length ≤ 1000000) (hs : srtB l = true) :
    Calls Try.prog 39 #[v, t.val] w fun e w' => e = .returned (.tuple #[.int .i64 (nBefore l t), .int .i64 0]) ∧ Below w.heap.size w w' := by
  obtain ⟨A, c, rfl, hT, _⟩ := h
  exact ofind_ok A l c t w hT hl hs
theorem sorted_lat (v : Value) (l : List Timer) (w : World) (h : LAt w v l) (hl : l.length ≤ 1000000) :
    Calls Try.prog 36 #[v] w fun e w' => e = .returned (.bool (srtB l)) ∧ Below w.heap.size w w' := by
  obtain ⟨A, c, rfl, hT, _⟩ := h
  exact sorted_any A l c w hT hl
theorem LL.two (w : World) (v u : Value) (l m : List Timer) (h : LAt w v l) (k : LAt w u m) : LL (w.alloc (.cells #[v, u] 33)) (some ⟨w.heap.size, 0, none⟩) [l, m] := by
  have hB := Blk.new w 33 #[v, u]
  have hb := alloc_kept' w (.cells #[v, u] 33)
  intro i hi
  match i, hi with
  | 0, _ => exact ⟨_, 0, v, rfl, hB.lt, hB.cell 0, (h.on hb).lw⟩
  | 1, _ => exact ⟨_, 0, u, rfl, hB.lt, hB.cell 1, (k.on hb).lw⟩
theorem LL.one (w : World) (v : Value) (l : List Timer) (h : LAt w v l) : LL (w.alloc (.cells #[v] 33)) (some ⟨w.heap.size, 0, none⟩) [l] := by
  have hB := Blk.new w 33 #[v]
  have hb := alloc_kept' w (.cells #[v] 33)
  intro i hi
  match i, hi with
  | 0, _ => exact ⟨_, 0, v, rfl, hB.lt, hB.cell 0, (h.on hb).lw⟩
theorem same_refl (v u : Value) (l : List Timer) (w : World) (h : LAt w v l) (k : LAt w u l) (hl : l.length ≤ 1000000) :
    Calls Try.prog 24 #[v, u] w fun e w' => e = .returned (.bool true) ∧ Below w.heap.size w w' := by
  have := same_lat v u l l w h k hl hl
  rwa [decide_eq_true rfl] at this
structure WB (g0 g1 g2 g3 : Nat) (w w' : World) : Prop where
  a : Blk w' g0 25 #[.int .u64 1, .int .u64 0, .int .i64 0]
  b : Blk w' g1 25 #[.int .u64 2, .int .u64 0, .int .i64 0]
  c : Blk w' g2 25 #[.int .u64 3, .int .u64 0, .int .i64 0]
  d : Blk w' g3 25 #[.int .u64 2, .int .u64 1, .int .i64 0]
  below : Below w.heap.size w w'
theorem WB.kept {g0 g1 g2 g3 : Nat} {w x y : World} (h : WB g0 g1 g2 g3 w x) (k : Below x.heap.size x y) : WB g0 g1 g2 g3 w y :=
  ⟨h.a.below k h.a.lt, h.b.below k h.b.lt, h.c.below k h.c.lt, h.d.below k h.d.lt, h.below.trans (Below.mono k h.below.size)⟩
def tv (t : Timer) : Value := .agg #[.int .u64 t.at_, .int .u64 t.seq, .int .i64 t.place]
def FW (j : Nat) (v : Value) (w : World) : Prop := match j with
  | 0 => v = tv tC
  | 1 => v = tv tA
  | 2 => v = tv tB
  | 3 => LAt w v [tC, tA, tB]
  | 4 => LAt w v [tA, tB, tC]
  | 5 => v = tv tA
  | 6 => v = tv tB
  | 7 => v = tv tC
  | _ => LAt w v [tA, tB, tC]
theorem FW.keep (j : Nat) (v : Value) (w w' : World) (h : FW j v w) (r : Below w.heap.size w w') : FW j v w' := by
  unfold FW at h ⊢
  split at h
  · exact h
  · exact h
  · exact h
  · exact h.on r
  · exact h.on r
  · exact h
  · exact h
  · exact h
  · exact h.on r
theorem w_sort : sortL [tC, tA, tB] = [tA, tB, tC] := by decide
theorem w_merge : sortL [[tA, tB, tC], [tD]].flatten = [tA, tB, tD, tC] := by decide
theorem w_find : nBefore [tA, tB, tD, tC] tC = 3 := by decide
theorem w_cut : cutN [tA, tB, tC] 2 = 2 := by decide
theorem w_put : putL [tA, tC] tB = [tA, tB, tC] := by decide
attribute [local irreducible] Calls
set_option maxRecDepth 100000 in
set_option maxHeartbeats 4000000 in
theorem oworks_any (w : World) : Calls Try.prog 34 #[] w fun e w' => e = .returned (.bool true) ∧ Below w.heap.size w w' := by
  obtain ⟨g1, hg1⟩ : ∃ g, g = w.heap.size + 1 := ⟨_, rfl⟩
  obtain ⟨g2, hg2⟩ : ∃ g, g = w.heap.size + 1 + 1 := ⟨_, rfl⟩
  obtain ⟨g3, hg3⟩ : ∃ g, g = w.heap.size + 1 + 1 + 1 := ⟨_, rfl⟩
  have k0 : WB w.heap.size g1 g2 g3 w ((((w.alloc (.cells #[.int .u64 1, .int .u64 0, .int .i64 0] 25)).alloc (.cells #[.int .u64 2, .int .u64 0, .int .i64 0] 25)).alloc (.cells #[.int .u64 3, .int .u64 0, .int .i64 0] 25)).alloc (.cells #[.int .u64 2, .int .u64 1, .int .i64 0] 25)) := by
    refine ⟨(((Blk.new _ _ _).alloc _).alloc _).alloc _, ?_, ?_, ?_, ?_⟩
    · have := (((Blk.new (w.alloc (.cells #[.int .u64 1, .int .u64 0, .int .i64 0] 25)) 25 #[.int .u64 2, .int .u64 0, .int .i64 0]).alloc (.cells #[.int .u64 3, .int .u64 0, .int .i64 0] 25)).alloc (.cells #[.int .u64 2, .int .u64 1, .int .i64 0] 25))
      rw [hg1]
      simpa using this
    · have := (Blk.new ((w.alloc (.cells #[.int .u64 1, .int .u64 0, .int .i64 0] 25)).alloc (.cells #[.int .u64 2, .int .u64 0, .int .i64 0] 25)) 25 #[.int .u64 3, .int .u64 0, .int .i64 0]).alloc (.cells #[.int .u64 2, .int .u64 1, .int .i64 0] 25)
      rw [hg2]
      simpa using this
    · have := Blk.new (((w.alloc (.cells #[.int .u64 1, .int .u64 0, .int .i64 0] 25)).alloc (.cells #[.int .u64 2, .int .u64 0, .int .i64 0] 25)).alloc (.cells #[.int .u64 3, .int .u64 0, .int .i64 0] 25)) 25 #[.int .u64 2, .int .u64 1, .int .i64 0]
      rw [hg3]
      simpa using this
    · exact ((((Below.refl _ _).alloc (Nat.le_refl _) _).alloc (by simp) _).alloc (by simp; omega) _).alloc (by simp; omega) _
  have k1 := k0.kept ((Below.refl _ _).drew)
  go_enter Try.func34, Try.ntmps34
  go_upto_region 3 with fail
  rw [← hg3, ← hg2, ← hg1]
  clear hg1 hg2 hg3 k0
  refine region_facts_tail 9 (fun _ => false) FW (WB w.heap.size g1 g2 g3 w) (fun x y => Below x.heap.size x y) (List.range' 23 9 ++ []) (by kernel_rfl) (by kernel_rfl) (by kernel_rfl) (by decide) (by kernel_rfl) (by kernel_rfl) FW.keep (fun _ _ h k => h.kept k) (fun _ _ h => h.size) k1 ?_ ?_
  · intro fr hfr
    have f1 : fr.getD 1 undef = .pointer (some ⟨w.heap.size, 0, none⟩) := by rw [hfr]; rfl
    have f2 : fr.getD 2 undef = .pointer (some ⟨g1, 0, none⟩) := by rw [hfr]; rfl
    have f3 : fr.getD 3 undef = .pointer (some ⟨g2, 0, none⟩) := by rw [hfr]; rfl
    clear hfr
    iterate 9
      refine ⟨⟨trivial, ?_⟩, ?_⟩
      · intro ρ w' hρ hd hS
        refine ⟨?_, fun h => absurd h (by decide)⟩
        simp only [DepF, Region.binds, dat, Nat.reduceLT, Nat.reduceAdd, FW, tv, tA, tB, tC, forall_const, and_true] at hd
        have hcon := hρ.con
        have e1 := (hρ.slot 1 (by kernel_rfl)).trans f1
        have e2 := (hρ.slot 2 (by kernel_rfl)).trans f2
        have e3 := (hρ.slot 3 (by kernel_rfl)).trans f3
        have hc1 := hS.a.cell
        have hc2 := hS.b.cell
        have hc3 := hS.c.cell
        (try rw [execOp_call_fn _ _ _ _ _ _ _ _ _ (hρ.fn _)])
        go_simp
        (try simp only [Good, FW])
        first
          | exact ⟨rfl, Below.refl _ _⟩
          | exact ⟨LAt.built w' [tC, tA, tB] (by decide) (by decide), alloc_kept' _ _⟩
          | exact ⟨LAt.built w' [tA, tB, tC] (by decide) (by decide), alloc_kept' _ _⟩
          | (go_at_call 30; refine (osort_any _ [tC, tA, tB] w' hd (by decide)).mono ?_; rintro e w'' ⟨v', rfl, ho, hk⟩; rw [w_sort] at ho; exact ⟨v', rfl, ho.lat, hk⟩)
    trivial
  · intro vs w3 hs3 hF _
    have h4 : LAt w3 (vs 4) [tA, tB, tC] := hF 4 (by decide)
    have h8 : LAt w3 (vs 8) [tA, tB, tC] := hF 8 (by decide)
    have hsm := same_refl (vs 4) (vs 8) _ w3 h4 h8 (by decide)
    clear hF h4 h8 k1
    simp only [List.range'_succ, List.range'_zero, List.append_nil, setAll, List.setIfInBounds_toArray, List.set_cons_zero, List.set_cons_succ, Nat.reduceAdd]
    simp only [List.drop_succ_cons, List.drop_zero]
    go_wp2_with fail
    refine hsm.mono ?_
    rintro e w4 ⟨rfl, hx⟩
    have k4 := hs3.kept hx
    have ca := k4.a.cell
    have cb := k4.b.cell
    have cc := k4.c.cell
    have cd := k4.d.cell
    have la := k4.a.lt
    have lb := k4.b.lt
    have lc := k4.c.lt
    have ld := k4.d.lt
    have m0 : LAt (w4.alloc (.cells #[.int .u64 1, .int .u64 0, .int .i64 0, .int .u64 2, .int .u64 0, .int .i64 0, .int .u64 3, .int .u64 0, .int .i64 0] 25)) (.slice (some ⟨w4.heap.size, 0, none⟩) 3 3) [tA, tB, tC] := LAt.built w4 [tA, tB, tC] (by decide) (by decide)
    have m1 : LAt ((w4.alloc (.cells #[.int .u64 1, .int .u64 0, .int .i64 0, .int .u64 2, .int .u64 0, .int .i64 0, .int .u64 3, .int .u64 0, .int .i64 0] 25)).alloc (.cells #[.int .u64 2, .int .u64 1, .int .i64 0] 25)) (.slice (some ⟨w4.heap.size, 0, none⟩) 3 3) [tA, tB, tC] := m0.on (alloc_kept' _ _)
    have m2 : LAt ((w4.alloc (.cells #[.int .u64 1, .int .u64 0, .int .i64 0, .int .u64 2, .int .u64 0, .int .i64 0, .int .u64 3, .int .u64 0, .int .i64 0] 25)).alloc (.cells #[.int .u64 2, .int .u64 1, .int .i64 0] 25)) (.slice (some ⟨w4.heap.size + 1, 0, none⟩) 1 1) [tD] := by
      have := LAt.one (w4.alloc (.cells #[.int .u64 1, .int .u64 0, .int .i64 0, .int .u64 2, .int .u64 0, .int .i64 0, .int .u64 3, .int .u64 0, .int .i64 0] 25)) tD
      simpa [tD] using this
    have m3 : LL (((w4.alloc (.cells #[.int .u64 1, .int .u64 0, .int .i64 0, .int .u64 2, .int .u64 0, .int .i64 0, .int .u64 3, .int .u64 0, .int .i64 0] 25)).alloc (.cells #[.int .u64 2, .int .u64 1, .int .i64 0] 25)).alloc (.cells #[.slice (some ⟨w4.heap.size, 0, none⟩) 3 3, .slice (some ⟨w4.heap.size + 1, 0, none⟩) 1 1] 33)) (some ⟨w4.heap.size + 1 + 1, 0, none⟩) [[tA, tB, tC], [tD]] := by
      have := LL.two _ _ _ _ _ m1 m2
      simpa using this
    have hmg := merge_ok _ _ 2 _ m3 (by decide) (by decide) (by decide) (by decide) (by decide) (by decide)
    rw [w_merge] at hmg
    have hb5 : Below w4.heap.size w4 (((w4.alloc (.cells #[.int .u64 1, .int .u64 0, .int .i64 0, .int .u64 2, .int .u64 0, .int .i64 0, .int .u64 3, .int .u64 0, .int .i64 0] 25)).alloc (.cells #[.int .u64 2, .int .u64 1, .int .i64 0] 25)).alloc (.cells #[.slice (some ⟨w4.heap.size, 0, none⟩) 3 3, .slice (some ⟨w4.heap.size + 1, 0, none⟩) 1 1] 33)) := (((Below.refl _ _).alloc (Nat.le_refl _) _).alloc (by simp) _).alloc (by simp; omega) _
    have k5 := k4.kept hb5
    have K5 := Lib.hid k5
    clear m0
    clear hsm hx hs3 k4 m1 m2 m3 hb5 k5
    go_wp2_with fail
    refine hmg.mono ?_
    rintro e w6 ⟨v6, rfl, ho6, hx⟩
    have k6 := K5.out.kept hx
    have l6 := ho6.lat
    clear hmg hx K5 ho6
    clear ca cb cc cd la lb lc ld
    have ca := k6.a.cell
    have cb := k6.b.cell
    have cc := k6.c.cell
    have cd := k6.d.cell
    have la := k6.a.lt
    have lb := k6.b.lt
    have lc := k6.c.lt
    have ld := k6.d.lt
    have K6 := Lib.hid k6
    have L6 := Lib.hid l6
    clear k6 l6
    have m7 : LAt (w6.alloc (.cells #[.int .u64 1, .int .u64 0, .int .i64 0, .int .u64 2, .int .u64 0, .int .i64 0, .int .u64 2, .int .u64 1, .int .i64 0, .int .u64 3, .int .u64 0, .int .i64 0] 25)) (.slice (some ⟨w6.heap.size, 0, none⟩) 4 4) [tA, tB, tD, tC] := LAt.built w6 [tA, tB, tD, tC] (by decide) (by decide)
    have hcon := same_refl v6 _ _ _ (L6.out.on (alloc_kept' _ _)) m7 (by decide)
    clear m7
    go_wp2_with fail
    refine hcon.mono ?_
    rintro e w7 ⟨rfl, hx⟩
    have K7 := Lib.hid ((K6.out.kept (alloc_kept' w6 (.cells #[.int .u64 1, .int .u64 0, .int .i64 0, .int .u64 2, .int .u64 0, .int .i64 0, .int .u64 2, .int .u64 1, .int .i64 0, .int .u64 3, .int .u64 0, .int .i64 0] 25))).kept hx)
    have L7 := Lib.hid ((L6.out.on (alloc_kept' w6 (.cells #[.int .u64 1, .int .u64 0, .int .i64 0, .int .u64 2, .int .u64 0, .int .i64 0, .int .u64 2, .int .u64 1, .int .i64 0, .int .u64 3, .int .u64 0, .int .i64 0] 25))).on hx)
    have k7 := K7.out
    clear ca cb cc cd la lb lc ld
    have ca := k7.a.cell
    have cb := k7.b.cell
    have cc := k7.c.cell
    have cd := k7.d.cell
    have la := k7.a.lt
    have lb := k7.b.lt
    have lc := k7.c.lt
    have ld := k7.d.lt
    clear hcon hx K6 L6 k7
    have hcon := find_lat v6 _ tC w7 L7.out (by decide) (by decide)
    rw [w_find] at hcon
    unfold Timer.val tC at hcon
    go_wp2_with fail
    refine hcon.mono ?_
    rintro e w8 ⟨rfl, hx⟩
    have K8 := Lib.hid (K7.out.kept hx)
    have L8 := Lib.hid (L7.out.on hx)
    have k8 := K8.out
    clear ca cb cc cd la lb lc ld
    have ca := k8.a.cell
    have cb := k8.b.cell
    have cc := k8.c.cell
    have cd := k8.d.cell
    have la := k8.a.lt
    have lb := k8.b.lt
    have lc := k8.c.lt
    have ld := k8.d.lt
    clear hcon hx K7 L7 k8
    have m9 : LAt (w8.alloc (.cells #[.int .u64 1, .int .u64 0, .int .i64 0, .int .u64 2, .int .u64 0, .int .i64 0, .int .u64 3, .int .u64 0, .int .i64 0] 25)) (.slice (some ⟨w8.heap.size, 0, none⟩) 3 3) [tA, tB, tC] := LAt.built w8 [tA, tB, tC] (by decide) (by decide)
    have hcon := ocut_ok _ _ 2 _ m9 (by decide) (by decide) ⟨by decide, by decide⟩
    rw [w_cut] at hcon
    clear m9
    go_wp2_with fail
    refine hcon.mono ?_
    rintro e w9 ⟨v1, v2, rfl, o1, o2, hx⟩
    obtain ⟨A1, c1, e1, _⟩ := o1.at
    have e1' : v1 = .slice A1 2 c1 := e1
    obtain ⟨A2, c2, e2, _⟩ := o2.at
    have e2' : v2 = .slice A2 1 c2 := e2
    clear e1 e2 o1 o2
    subst e1' e2'
    have K9 := Lib.hid ((K8.out.kept (alloc_kept' w8 (.cells #[.int .u64 1, .int .u64 0, .int .i64 0, .int .u64 2, .int .u64 0, .int .i64 0, .int .u64 3, .int .u64 0, .int .i64 0] 25))).kept hx)
    have L9 := Lib.hid ((L8.out.on (alloc_kept' w8 (.cells #[.int .u64 1, .int .u64 0, .int .i64 0, .int .u64 2, .int .u64 0, .int .i64 0, .int .u64 3, .int .u64 0, .int .i64 0] 25))).on hx)
    have k9 := K9.out
    clear ca cb cc cd la lb lc ld
    have ca := k9.a.cell
    have cb := k9.b.cell
    have cc := k9.c.cell
    have cd := k9.d.cell
    have la := k9.a.lt
    have lb := k9.b.lt
    have lc := k9.c.lt
    have ld := k9.d.lt
    clear hcon hx K8 L8 k9
    have m10 : LAt (w9.alloc (.cells #[.int .u64 1, .int .u64 0, .int .i64 0, .int .u64 3, .int .u64 0, .int .i64 0] 25)) (.slice (some ⟨w9.heap.size, 0, none⟩) 2 2) [tA, tC] := LAt.built w9 [tA, tC] (by decide) (by decide)
    have hcon := oput_ok _ _ tB _ m10 (by decide) (by decide)
    rw [w_put] at hcon
    unfold Timer.val tB at hcon
    clear m10
    go_wp2_with fail
    refine hcon.mono ?_
    rintro e w10 ⟨v10, rfl, o10, hx⟩
    have P10 := Lib.hid o10.lat
    clear o10
    have K10 := Lib.hid ((K9.out.kept (alloc_kept' w9 (.cells #[.int .u64 1, .int .u64 0, .int .i64 0, .int .u64 3, .int .u64 0, .int .i64 0] 25))).kept hx)
    have L10 := Lib.hid ((L9.out.on (alloc_kept' w9 (.cells #[.int .u64 1, .int .u64 0, .int .i64 0, .int .u64 3, .int .u64 0, .int .i64 0] 25))).on hx)
    have k10 := K10.out
    clear ca cb cc cd la lb lc ld
    have ca := k10.a.cell
    have cb := k10.b.cell
    have cc := k10.c.cell
    have cd := k10.d.cell
    have la := k10.a.lt
    have lb := k10.b.lt
    have lc := k10.c.lt
    have ld := k10.d.lt
    clear hcon hx K9 L9 k10
    have m11 : LAt (w10.alloc (.cells #[.int .u64 1, .int .u64 0, .int .i64 0, .int .u64 2, .int .u64 0, .int .i64 0, .int .u64 3, .int .u64 0, .int .i64 0] 25)) (.slice (some ⟨w10.heap.size, 0, none⟩) 3 3) [tA, tB, tC] := LAt.built w10 [tA, tB, tC] (by decide) (by decide)
    have hcon := same_refl v10 _ [tA, tB, tC] _ (P10.out.on (alloc_kept' _ _)) m11 (by decide)
    clear m11
    go_wp2_with fail
    refine hcon.mono ?_
    rintro e w11 ⟨rfl, hx⟩
    clear P10
    have K11 := Lib.hid ((K10.out.kept (alloc_kept' w10 (.cells #[.int .u64 1, .int .u64 0, .int .i64 0, .int .u64 2, .int .u64 0, .int .i64 0, .int .u64 3, .int .u64 0, .int .i64 0] 25))).kept hx)
    have L11 := Lib.hid ((L10.out.on (alloc_kept' w10 (.cells #[.int .u64 1, .int .u64 0, .int .i64 0, .int .u64 2, .int .u64 0, .int .i64 0, .int .u64 3, .int .u64 0, .int .i64 0] 25))).on hx)
    have k11 := K11.out
    clear ca cb cc cd la lb lc ld
    have ca := k11.a.cell
    have cb := k11.b.cell
    have cc := k11.c.cell
    have cd := k11.d.cell
    have la := k11.a.lt
    have lb := k11.b.lt
    have lc := k11.c.lt
    have ld := k11.d.lt
    clear hcon hx K10 L10 k11
    have m12 : LAt (w11.alloc (.cells #[.int .u64 2, .int .u64 0, .int .i64 0, .int .u64 1, .int .u64 0, .int .i64 0] 25)) (.slice (some ⟨w11.heap.size, 0, none⟩) 2 2) [tB, tA] := LAt.built w11 [tB, tA] (by decide) (by decide)
    have m13 : LL ((w11.alloc (.cells #[.int .u64 2, .int .u64 0, .int .i64 0, .int .u64 1, .int .u64 0, .int .i64 0] 25)).alloc (.cells #[.slice (some ⟨w11.heap.size, 0, none⟩) 2 2] 33)) (some ⟨w11.heap.size + 1, 0, none⟩) [[tB, tA]] := by
      have := LL.one _ _ _ m12
      simpa using this
    have hcon := merge_bad _ _ 1 _ m13 (by decide) (by decide) ⟨[tB, tA], by simp, by decide⟩
    have hb13 : Below w11.heap.size w11 ((w11.alloc (.cells #[.int .u64 2, .int .u64 0, .int .i64 0, .int .u64 1, .int .u64 0, .int .i64 0] 25)).alloc (.cells #[.slice (some ⟨w11.heap.size, 0, none⟩) 2 2] 33)) := ((Below.refl _ _).alloc (Nat.le_refl _) _).alloc (by simp) _
    have HB13 := Lib.hid hb13
    clear m12 m13 hb13
    go_wp2_with fail
    refine hcon.mono ?_
    rintro e w12 ⟨rfl, hx⟩
    have K12 := Lib.hid ((K11.out.kept HB13.out).kept hx)
    have L12 := Lib.hid ((L11.out.on HB13.out).on hx)
    have k12 := K12.out
    clear ca cb cc cd la lb lc ld
    have ca := k12.a.cell
    have cb := k12.b.cell
    have cc := k12.c.cell
    have cd := k12.d.cell
    have la := k12.a.lt
    have lb := k12.b.lt
    have lc := k12.c.lt
    have ld := k12.d.lt
    clear hcon hx K11 L11 k12
    have hcon := sorted_lat v6 _ w12 L12.out (by decide)
    rw [show srtB [tA, tB, tD, tC] = true from by decide] at hcon
    clear HB13
    go_wp2_with fail
    refine hcon.mono ?_
    rintro e w13 ⟨rfl, hx⟩
    have hb := (K12.out.kept hx).below
    clear hcon hx K12 L12
    go_wp2_with fail
    go_ret
    exact ⟨rfl, hb⟩
end Go.Proofs.Ytfdbimkddkohnaa
