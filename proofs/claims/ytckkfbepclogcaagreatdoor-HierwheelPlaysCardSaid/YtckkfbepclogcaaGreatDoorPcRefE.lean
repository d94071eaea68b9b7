/- The law: the texts RefE, laid end to end by a program. -/
import Derived.Test.YtckkfbepclogcaaGreatDoorPk19
namespace Go.Proofs.YtckkfbepclogcaaGreatDoor
open Go.RowKit
theorem wV_set {w : World} {g : Nat} {t : TypeId} {a b c d e : Value} (h : Blk w g t #[a, b, c, d, e]) (v : Value) : Blk (w.setCell ⟨g, 4, none⟩ v) g t #[a, b, c, d, v] := by simpa using h.put 4 v
theorem wV_base {w : World} {g : Nat} {t : TypeId} {a b c d e : Value} (h : Blk w g t #[a, b, c, d, e]) (v : Value) : Blk (w.setCell ⟨g, 3, none⟩ v) g t #[a, b, c, v, e] := by simpa using h.put 3 v
/-- What the rounds of Do keep. -/
structure WL (ws xs qs ts : Array Value) (a0 a1 a2 a3 : Value) (v1 u1 : Value) (m' d' : List Timer) (w : World) (g : Nat) (c : Value) (wr : World) : Prop where
  k : BoxW ws xs w wr
  q : BoxX qs ts #[a0, a1, a2, a3, c] g wr
  l1 : LAt wr v1 m'
  l2 : LAt wr u1 d'
  f1 : ∀ i, blkOf v1 = some i → i < g
  f2 : ∀ i, blkOf u1 = some i → i < g
  g : w.heap.size + 1 + 1 + 1 < g
section
variable {ws xs qs ts : Array Value} {a0 a1 a2 a3 v1 u1 c : Value} {m' d' : List Timer} {w wr wx : World} {g : Nat}
theorem WL.kept (h : WL ws xs qs ts a0 a1 a2 a3 v1 u1 m' d' w g c wr) (r : Below wr.heap.size wr wx) : WL ws xs qs ts a0 a1 a2 a3 v1 u1 m' d' w g c wx :=
  ⟨h.k.kept r, ⟨h.q.c0.below r h.q.c0.lt, h.q.c1.below r h.q.c1.lt, h.q.c2.below r h.q.c2.lt⟩, h.l1.on r, h.l2.on r, h.f1, h.f2, h.g⟩
theorem WL.put (h : WL ws xs qs ts a0 a1 a2 a3 v1 u1 m' d' w g c wr) (v : Value) : WL ws xs qs ts a0 a1 a2 a3 v1 u1 m' d' w g v (wr.setCell ⟨g + 1 + 1, 4, none⟩ v) := by
  have h1 := h.g
  have g0 : w.heap.size ≠ g + 1 + 1 := by omega
  have g1 : w.heap.size + 1 ≠ g + 1 + 1 := by omega
  have g2 : w.heap.size + 1 + 1 ≠ g + 1 + 1 := by omega
  have g3 : w.heap.size + 1 + 1 + 1 ≠ g + 1 + 1 := by omega
  have g4 : g ≠ g + 1 + 1 := by omega
  have g5 : g + 1 ≠ g + 1 + 1 := by omega
  exact ⟨⟨h.k.b0.far (p := ⟨g + 1 + 1, 4, none⟩) g0 _, h.k.b1.far (p := ⟨g + 1 + 1, 4, none⟩) g1 _, h.k.b2.far (p := ⟨g + 1 + 1, 4, none⟩) g2 _, h.k.b3.far (p := ⟨g + 1 + 1, 4, none⟩) g3 _, h.k.below.setCell (p := ⟨g + 1 + 1, 4, none⟩) (by simp; omega) _⟩,
    ⟨h.q.c0.far (p := ⟨g + 1 + 1, 4, none⟩) g4 _, h.q.c1.far (p := ⟨g + 1 + 1, 4, none⟩) g5 _, wV_set h.q.c2 v⟩,
    h.l1.setCell ⟨g + 1 + 1, 4, none⟩ v fun i hi => by have := h.f1 i hi; simp; omega, h.l2.setCell ⟨g + 1 + 1, 4, none⟩ v fun i hi => by have := h.f2 i hi; simp; omega, h.f1, h.f2, h.g⟩
theorem WL.rebase (h : WL ws xs qs ts a0 a1 a2 a3 v1 u1 m' d' w g c wr) (v : Value) : WL ws xs qs ts a0 a1 a2 v v1 u1 m' d' w g c (wr.setCell ⟨g + 1 + 1, 3, none⟩ v) := by
  have h1 := h.g
  have g0 : w.heap.size ≠ g + 1 + 1 := by omega
  have g1 : w.heap.size + 1 ≠ g + 1 + 1 := by omega
  have g2 : w.heap.size + 1 + 1 ≠ g + 1 + 1 := by omega
  have g3 : w.heap.size + 1 + 1 + 1 ≠ g + 1 + 1 := by omega
  have g4 : g ≠ g + 1 + 1 := by omega
  have g5 : g + 1 ≠ g + 1 + 1 := by omega
  exact ⟨⟨h.k.b0.far (p := ⟨g + 1 + 1, 3, none⟩) g0 _, h.k.b1.far (p := ⟨g + 1 + 1, 3, none⟩) g1 _, h.k.b2.far (p := ⟨g + 1 + 1, 3, none⟩) g2 _, h.k.b3.far (p := ⟨g + 1 + 1, 3, none⟩) g3 _, h.k.below.setCell (p := ⟨g + 1 + 1, 3, none⟩) (by simp; omega) _⟩,
    ⟨h.q.c0.far (p := ⟨g + 1 + 1, 3, none⟩) g4 _, h.q.c1.far (p := ⟨g + 1 + 1, 3, none⟩) g5 _, wV_base h.q.c2 v⟩,
    h.l1.setCell ⟨g + 1 + 1, 3, none⟩ v fun i hi => by have := h.f1 i hi; simp; omega, h.l2.setCell ⟨g + 1 + 1, 3, none⟩ v fun i hi => by have := h.f2 i hi; simp; omega, h.f1, h.f2, h.g⟩
end
set_option maxRecDepth 100000 in
set_option maxHeartbeats 4000000 in
theorem vwdo_rest (P : Int) (v : Value) (m : List Timer) (n : Nat) (base lk : Int) (a : Act) (w : World) (h : LAt w v m) (hl : m.length ≤ 100000) (h3 : ¬ a.kind = 3) :
    Calls Tryz.prog 8 #[wV P v n base lk, a.val] w fun e w' => ∃ v' u, e = .returned (.tuple #[wV P v' n base lk, tV (doE P m a) (doT P m a) u]) ∧ LAt w' v' (doL P m a) ∧ LAt w' u (doD m a) ∧ Below w.heap.size w w' ∧ FreshV w v v' ∧ FreshV w (.slice none 0 0) u := by
  have hV := h.blk
  have k0 := BoxW.new #[.int .i64 P, v, .int .i64 n, .int .u64 base, .int .i64 lk] #[.int .i64 a.kind, .int .u64 a.t.at_, .int .u64 a.t.seq, .int .i64 a.t.place, .int .u64 a.now] w
  have hdo := rdo_any P v m a _ (h.on k0.below) hl
  unfold qV Act.val at hdo
  unfold wV Act.val
  generalize a.kind = kd at *
  go_enter Tryz.func8, Tryz.ntmps8
  go_wp2_with fail
  refine hdo.mono ?_
  rintro e w1 ⟨v1, u1, rfl, hv1, hu1, hx1, hf1, hf2⟩
  have k1 := k0.kept hx1
  obtain ⟨A1, n1, c1, rfl⟩ := hv1.form
  obtain ⟨A2, n2, c2, rfl⟩ := hu1.form
  have e1 := k1.b1.cell
  have e2 := k1.b0.cell
  have l0 := k1.b0.lt
  have l1 := k1.b1.lt
  clear hdo k0
  unfold doV tV qV
  generalize hx : doT P m a = x at *
  generalize hy : doE P m a = y at *
  go_upto_region 4 with fail
  have q0 := BoxX.new #[.int .i64 P, .slice A1 n1 c1] #[.int .i64 y, .int .u64 x.at_, .int .u64 x.seq, .int .i64 x.place, .slice A2 n2 c2] #[.int .i64 P, .slice A1 n1 c1, .int .i64 n, .int .u64 base, .int .i64 lk] w1
  have k2 := ((k1.alloc (.cells #[.int .i64 P, .slice A1 n1 c1] 31)).alloc (.cells #[.int .i64 y, .int .u64 x.at_, .int .u64 x.seq, .int .i64 x.place, .slice A2 n2 c2] 39)).alloc (.cells #[.int .i64 P, .slice A1 n1 c1, .int .i64 n, .int .u64 base, .int .i64 lk] 33)
  have l4 := k1.b3.lt
  clear k1 e1 e2 l0 l1
  have hM1 := ((hv1.on (alloc_kept' _ (.cells #[.int .i64 P, .slice A1 n1 c1] 31))).on (alloc_kept' _ (.cells #[.int .i64 y, .int .u64 x.at_, .int .u64 x.seq, .int .i64 x.place, .slice A2 n2 c2] 39))).on (alloc_kept' _ (.cells #[.int .i64 P, .slice A1 n1 c1, .int .i64 n, .int .u64 base, .int .i64 lk] 33))
  have hM2 := ((hu1.on (alloc_kept' _ (.cells #[.int .i64 P, .slice A1 n1 c1] 31))).on (alloc_kept' _ (.cells #[.int .i64 y, .int .u64 x.at_, .int .u64 x.seq, .int .i64 x.place, .slice A2 n2 c2] 39))).on (alloc_kept' _ (.cells #[.int .i64 P, .slice A1 n1 c1, .int .i64 n, .int .u64 base, .int .i64 lk] 33))
  generalize ((w1.alloc (.cells #[.int .i64 P, .slice A1 n1 c1] 31)).alloc (.cells #[.int .i64 y, .int .u64 x.at_, .int .u64 x.seq, .int .i64 x.place, .slice A2 n2 c2] 39)).alloc (.cells #[.int .i64 P, .slice A1 n1 c1, .int .i64 n, .int .u64 base, .int .i64 lk] 33) = w2 at *
  have e1 := q0.c1.cell
  have e2 := q0.c2.cell
  have z0 := k2.b2.cell
  have z1 := k2.b3.cell
  have z2 := k2.b2.frozen
  have z3 := k2.b3.frozen
  have l2 := k2.b2.lt
  have l3 := k2.b3.lt
  have l5 := q0.c2.lt
  have n1' : w1.heap.size + 1 ≠ w.heap.size + 1 + 1 := by omega
  have n2' : w1.heap.size + 1 + 1 ≠ w.heap.size + 1 + 1 := by omega
  have n3' : w1.heap.size + 1 ≠ w.heap.size + 1 + 1 + 1 := by omega
  have n4' : w1.heap.size + 1 + 1 ≠ w.heap.size + 1 + 1 + 1 := by omega
  have n5' : w.heap.size + 1 + 1 ≠ w.heap.size + 1 + 1 + 1 := by omega
  have m1' := n1'.symm
  have m2' := n2'.symm
  have m3' := n3'.symm
  have m4' := n4'.symm
  have m5' := n5'.symm
  have fin : Hid (∀ W, FinW w w2 W (w.heap.size + 1 + 1) (w.heap.size + 1 + 1 + 1) (.int .i64 P) (.slice A1 n1 c1) (.int .i64 n) (.int .u64 base) (.int .i64 lk) (.int .i64 y) (.int .u64 x.at_) (.int .u64 x.seq) (.int .i64 x.place) (.slice A2 n2 c2) → LAt W (.slice A1 n1 c1) (doL P m a) ∧ LAt W (.slice A2 n2 c2) (doD m a) ∧ Below w.heap.size w W ∧ FreshV w v (.slice A1 n1 c1) ∧ FreshV w (.slice none 0 0) (.slice A2 n2 c2)) := Lib.hid (by
    intro W hF
    refine ⟨hF.keep _ _ hM1 ?_, hF.keep _ _ hM2 ?_, hF.below, ?_, ?_⟩
    · intro g hg
      rcases hf1 g hg with h | h
      · have := hV g h; omega
      · simp at h; omega
    · intro g hg
      rcases hf2 g hg with h | h
      · cases h
      · simp at h; omega
    · intro g hg
      rcases hf1 g hg with h | h
      · exact .inl h
      · right; simp at h; omega
    · intro g hg
      rcases hf2 g hg with h | h
      · exact .inl h
      · right; simp at h; omega)
  have hFW := Lib.hid (finW (w := w) (.int .i64 P) (.slice A1 n1 c1) (.int .i64 n) (.int .u64 base) (.int .i64 lk) (.int .i64 y) (.int .u64 x.at_) (.int .u64 x.seq) (.int .i64 x.place) (.slice A2 n2 c2) k2.b2 k2.b3 k2.below n5' (by omega) (by omega))
  clear hx1 hv1 hu1 h hf1 hf2 k2 q0 l4 hM1 hM2 hV
  generalize w.heap.size + 1 + 1 + 1 = g3 at *
  generalize w.heap.size + 1 + 1 = g2 at *
  generalize w1.heap.size + 1 + 1 = h2 at *
  generalize w1.heap.size + 1 = h1 at *
  have HX := Lib.hid hx
  have HY := Lib.hid hy
  clear hx hy
  go_region
  all_goals
    go_wp2_with fail
    first
    | (have hW := hFW.out.1
       have s2 := hW.b2.cell
       have s3 := hW.b3.cell
       refine bodyPost_ret (v := .tuple #[.agg #[.int .i64 P, .slice A1 n1 c1, .int .i64 n, .int .u64 base, .int .i64 lk], .agg #[.int .i64 y, .int .u64 x.at_, .int .u64 x.seq, .int .i64 x.place, .slice A2 n2 c2]]) ?_ rfl ⟨.slice A1 n1 c1, .slice A2 n2 c2, by rw [HX.out, HY.out]; rfl, fin.out _ hW⟩
       simp [results, Tryz.results8, go_sem, s2, s3])
    | (have hW := hFW.out.2
       have s2 := hW.b2.cell
       have s3 := hW.b3.cell
       refine bodyPost_ret (v := .tuple #[.agg #[.int .i64 P, .slice A1 n1 c1, .int .i64 n, .int .u64 base, .int .i64 lk], .agg #[.int .i64 y, .int .u64 x.at_, .int .u64 x.seq, .int .i64 x.place, .slice A2 n2 c2]]) ?_ rfl ⟨.slice A1 n1 c1, .slice A2 n2 c2, by rw [HX.out, HY.out]; rfl, fin.out _ hW⟩
       simp [results, Tryz.results8, go_sem, s2, s3])
set_option maxRecDepth 100000 in
set_option maxHeartbeats 4000000 in
theorem vwdo_late (P : Int) (v : Value) (m : List Timer) (n : Nat) (base lk : Int) (a : Act) (w : World) (h : LAt w v m) (hl : m.length ≤ 100000) (h3 : a.kind = 3) (hle : a.now ≤ base) :
    Calls Tryz.prog 8 #[wV P v n base lk, a.val] w fun e w' => ∃ v' u, e = .returned (.tuple #[wV P v' n base lk, tV (doE P m a) (doT P m a) u]) ∧ LAt w' v' (doL P m a) ∧ LAt w' u (doD m a) ∧ Below w.heap.size w w' ∧ FreshV w v v' ∧ FreshV w (.slice none 0 0) u := by
  have hV := h.blk
  have k0 := BoxW.new #[.int .i64 P, v, .int .i64 n, .int .u64 base, .int .i64 lk] #[.int .i64 a.kind, .int .u64 a.t.at_, .int .u64 a.t.seq, .int .i64 a.t.place, .int .u64 a.now] w
  have hdo := rdo_any P v m a _ (h.on k0.below) hl
  unfold qV Act.val at hdo
  unfold wV Act.val
  rw [h3] at hdo k0 ⊢
  go_enter Tryz.func8, Tryz.ntmps8
  go_wp2_with fail
  refine hdo.mono ?_
  rintro e w1 ⟨v1, u1, rfl, hv1, hu1, hx1, hf1, hf2⟩
  have k1 := k0.kept hx1
  obtain ⟨A1, n1, c1, rfl⟩ := hv1.form
  obtain ⟨A2, n2, c2, rfl⟩ := hu1.form
  have e1 := k1.b1.cell
  have e2 := k1.b0.cell
  have l0 := k1.b0.lt
  have l1 := k1.b1.lt
  clear hdo k0
  unfold doV tV qV
  generalize hx : doT P m a = x at *
  generalize hy : doE P m a = y at *
  go_upto_region 3 with fail
  have q0 := BoxX.new #[.int .i64 P, .slice A1 n1 c1] #[.int .i64 y, .int .u64 x.at_, .int .u64 x.seq, .int .i64 x.place, .slice A2 n2 c2] #[.int .i64 P, .slice A1 n1 c1, .int .i64 n, .int .u64 base, .int .i64 lk] w1
  have k2 := ((k1.alloc (.cells #[.int .i64 P, .slice A1 n1 c1] 31)).alloc (.cells #[.int .i64 y, .int .u64 x.at_, .int .u64 x.seq, .int .i64 x.place, .slice A2 n2 c2] 39)).alloc (.cells #[.int .i64 P, .slice A1 n1 c1, .int .i64 n, .int .u64 base, .int .i64 lk] 33)
  have l4 := k1.b3.lt
  clear k1 e1 e2 l0 l1
  have hM1 := ((hv1.on (alloc_kept' _ (.cells #[.int .i64 P, .slice A1 n1 c1] 31))).on (alloc_kept' _ (.cells #[.int .i64 y, .int .u64 x.at_, .int .u64 x.seq, .int .i64 x.place, .slice A2 n2 c2] 39))).on (alloc_kept' _ (.cells #[.int .i64 P, .slice A1 n1 c1, .int .i64 n, .int .u64 base, .int .i64 lk] 33))
  have hM2 := ((hu1.on (alloc_kept' _ (.cells #[.int .i64 P, .slice A1 n1 c1] 31))).on (alloc_kept' _ (.cells #[.int .i64 y, .int .u64 x.at_, .int .u64 x.seq, .int .i64 x.place, .slice A2 n2 c2] 39))).on (alloc_kept' _ (.cells #[.int .i64 P, .slice A1 n1 c1, .int .i64 n, .int .u64 base, .int .i64 lk] 33))
  generalize ((w1.alloc (.cells #[.int .i64 P, .slice A1 n1 c1] 31)).alloc (.cells #[.int .i64 y, .int .u64 x.at_, .int .u64 x.seq, .int .i64 x.place, .slice A2 n2 c2] 39)).alloc (.cells #[.int .i64 P, .slice A1 n1 c1, .int .i64 n, .int .u64 base, .int .i64 lk] 33) = w2 at *
  have e1 := k2.b1.cell
  have e2 := k2.b0.cell
  go_upto_region 4 with fail
  clear hle e1 e2
  have e1 := q0.c1.cell
  have e2 := q0.c2.cell
  have z0 := k2.b2.cell
  have z1 := k2.b3.cell
  have z2 := k2.b2.frozen
  have z3 := k2.b3.frozen
  have l2 := k2.b2.lt
  have l3 := k2.b3.lt
  have l5 := q0.c2.lt
  have n1' : w1.heap.size + 1 ≠ w.heap.size + 1 + 1 := by omega
  have n2' : w1.heap.size + 1 + 1 ≠ w.heap.size + 1 + 1 := by omega
  have n3' : w1.heap.size + 1 ≠ w.heap.size + 1 + 1 + 1 := by omega
  have n4' : w1.heap.size + 1 + 1 ≠ w.heap.size + 1 + 1 + 1 := by omega
  have n5' : w.heap.size + 1 + 1 ≠ w.heap.size + 1 + 1 + 1 := by omega
  have m1' := n1'.symm
  have m2' := n2'.symm
  have m3' := n3'.symm
  have m4' := n4'.symm
  have m5' := n5'.symm
  have fin : Hid (∀ W, FinW w w2 W (w.heap.size + 1 + 1) (w.heap.size + 1 + 1 + 1) (.int .i64 P) (.slice A1 n1 c1) (.int .i64 n) (.int .u64 base) (.int .i64 lk) (.int .i64 y) (.int .u64 x.at_) (.int .u64 x.seq) (.int .i64 x.place) (.slice A2 n2 c2) → LAt W (.slice A1 n1 c1) (doL P m a) ∧ LAt W (.slice A2 n2 c2) (doD m a) ∧ Below w.heap.size w W ∧ FreshV w v (.slice A1 n1 c1) ∧ FreshV w (.slice none 0 0) (.slice A2 n2 c2)) := Lib.hid (by
    intro W hF
    refine ⟨hF.keep _ _ hM1 ?_, hF.keep _ _ hM2 ?_, hF.below, ?_, ?_⟩
    · intro g hg
      rcases hf1 g hg with h | h
      · have := hV g h; omega
      · simp at h; omega
    · intro g hg
      rcases hf2 g hg with h | h
      · cases h
      · simp at h; omega
    · intro g hg
      rcases hf1 g hg with h | h
      · exact .inl h
      · right; simp at h; omega
    · intro g hg
      rcases hf2 g hg with h | h
      · exact .inl h
      · right; simp at h; omega)
  have hFW := Lib.hid (finW (w := w) (.int .i64 P) (.slice A1 n1 c1) (.int .i64 n) (.int .u64 base) (.int .i64 lk) (.int .i64 y) (.int .u64 x.at_) (.int .u64 x.seq) (.int .i64 x.place) (.slice A2 n2 c2) k2.b2 k2.b3 k2.below n5' (by omega) (by omega))
  clear hx1 hv1 hu1 h hf1 hf2 k2 q0 l4 hM1 hM2 hV
  generalize w.heap.size + 1 + 1 + 1 = g3 at *
  generalize w.heap.size + 1 + 1 = g2 at *
  generalize w1.heap.size + 1 + 1 = h2 at *
  generalize w1.heap.size + 1 = h1 at *
  have HX := Lib.hid hx
  have HY := Lib.hid hy
  clear hx hy
  go_region
  all_goals
    go_wp2_with fail
    first
    | (have hW := hFW.out.1
       have s2 := hW.b2.cell
       have s3 := hW.b3.cell
       refine bodyPost_ret (v := .tuple #[.agg #[.int .i64 P, .slice A1 n1 c1, .int .i64 n, .int .u64 base, .int .i64 lk], .agg #[.int .i64 y, .int .u64 x.at_, .int .u64 x.seq, .int .i64 x.place, .slice A2 n2 c2]]) ?_ rfl ⟨.slice A1 n1 c1, .slice A2 n2 c2, by rw [HX.out, HY.out]; rfl, fin.out _ hW⟩
       simp [results, Tryz.results8, go_sem, s2, s3])
    | (have hW := hFW.out.2
       have s2 := hW.b2.cell
       have s3 := hW.b3.cell
       refine bodyPost_ret (v := .tuple #[.agg #[.int .i64 P, .slice A1 n1 c1, .int .i64 n, .int .u64 base, .int .i64 lk], .agg #[.int .i64 y, .int .u64 x.at_, .int .u64 x.seq, .int .i64 x.place, .slice A2 n2 c2]]) ?_ rfl ⟨.slice A1 n1 c1, .slice A2 n2 c2, by rw [HX.out, HY.out]; rfl, fin.out _ hW⟩
       simp [results, Tryz.results8, go_sem, s2, s3])
end Go.Proofs.YtckkfbepclogcaaGreatDoor
