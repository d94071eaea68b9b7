/- Part 5: the texts RefS Pnd PhP PhQ PhM PhR, laid end to end by a program. -/
import Derived.Deep.RegionLaw
import Derived.Test.YtpbepmipfjcjbaaPk4
import Derived.Test.YtpbepmipfjcjbaaPk3
import Derived.Test.YtpbepmipfjcjbaaPk1
namespace Go.Proofs.Ytpbepmipfjcjbaa
open Go.RowKit
theorem two_new (w : World) (a b : Obj) : Below w.heap.size w ((w.alloc a).alloc b) := ((Below.refl _ _).alloc (Nat.le_refl _) _).alloc (by simp) _
attribute [local irreducible] Calls
set_option maxRecDepth 100000 in
set_option maxHeartbeats 4000000 in
theorem rsame_any (e1 e2 : Int) (t1 t2 : Timer) (u1 u2 : Value) (m1 m2 : List Timer) (w : World) (h1 : LAt w u1 m1) (h2 : LAt w u2 m2) (l1 : m1.length ≤ 100000) (l2 : m2.length ≤ 100000) :
    Calls Try.prog 12 #[tV e1 t1 u1, tV e2 t2 u2] w fun e w' => e = .returned (.bool (decide (e1 = e2 ∧ t1 = t2 ∧ m1 = m2))) ∧ Below w.heap.size w w' := by
  have hb0 := two_new w (.cells #[.int .i64 e1, .int .u64 t1.at_, .int .u64 t1.seq, .int .i64 t1.place, u1] 37) (.cells #[.int .i64 e2, .int .u64 t2.at_, .int .u64 t2.seq, .int .i64 t2.place, u2] 37)
  have q1 : Blk ((w.alloc (.cells #[.int .i64 e1, .int .u64 t1.at_, .int .u64 t1.seq, .int .i64 t1.place, u1] 37)).alloc (.cells #[.int .i64 e2, .int .u64 t2.at_, .int .u64 t2.seq, .int .i64 t2.place, u2] 37)) w.heap.size 37 #[.int .i64 e1, .int .u64 t1.at_, .int .u64 t1.seq, .int .i64 t1.place, u1] := (Blk.new _ _ _).alloc _
  have q2 : Blk ((w.alloc (.cells #[.int .i64 e1, .int .u64 t1.at_, .int .u64 t1.seq, .int .i64 t1.place, u1] 37)).alloc (.cells #[.int .i64 e2, .int .u64 t2.at_, .int .u64 t2.seq, .int .i64 t2.place, u2] 37)) (w.heap.size + 1) 37 #[.int .i64 e2, .int .u64 t2.at_, .int .u64 t2.seq, .int .i64 t2.place, u2] := alloc2_at _ _ _ _
  obtain ⟨A1, c1, rfl, T1, _⟩ := h1
  obtain ⟨A2, c2, rfl, T2, _⟩ := h2
  have hs := same_any A1 A2 m1 m2 c1 c2 _ (T1.on hb0) (T2.on hb0) (by omega) (by omega)
  unfold tV
  go_enter Try.func12, Try.ntmps12
  go_wp2_with fail
  refine hs.mono ?_
  rintro e w1 ⟨rfl, hx⟩
  have hb1 := hb0.trans (Below.mono hx hb0.size)
  have q1 := q1.below hx q1.lt
  have q2 := q2.below hx q2.lt
  have d1 := q1.cell
  have d2 := q2.cell
  have l3 := q1.lt
  have l4 := q2.lt
  clear hx hs hb0
  by_cases he : e1 = e2
  · have he' : (e1 == e2) = true := by simp [he]
    by_cases ht : t1 = t2
    · have ht' : decide (t1 = t2) = true := by simp [ht]
      have hG := Lib.hid (show decide (e1 = e2 ∧ t1 = t2 ∧ m1 = m2) = decide (m1 = m2) by simp [he, ht])
      clear he ht
      go_wp2_with fail
      go_ret
      exact ⟨ret_bool hG.out.symm, hb1⟩
    · have ht' : decide (t1 = t2) = false := by simp [ht]
      have hG := Lib.hid (show decide (e1 = e2 ∧ t1 = t2 ∧ m1 = m2) = false by simp [ht])
      clear he ht
      go_wp2_with fail
      go_ret
      exact ⟨ret_bool hG.out.symm, hb1⟩
  · have he' : (e1 == e2) = false := by simp [he]
    have hG := Lib.hid (show decide (e1 = e2 ∧ t1 = t2 ∧ m1 = m2) = false by simp [he])
    clear he
    go_wp2_with fail
    go_ret
    exact ⟨ret_bool hG.out.symm, hb1⟩
def behindL (P : Int) (xs : List Act) : List Timer := xs.foldl (doL P) []
theorem putL_len (l : List Timer) (t : Timer) : (putL l t).length = l.length + 1 := by
  have := nBefore_le l t
  simp [putL]
  omega
theorem insL_len (P : Int) (l : List Timer) (t : Timer) : (insL P l t).length ≤ l.length + 1 := by
  unfold insL
  split
  · rw [putL_len]; omega
  · omega
theorem without_len (l : List Timer) (p : Int) : (withoutL l p).length ≤ l.length := List.length_filter_le _ _
theorem doL_len (P : Int) (l : List Timer) (a : Act) : (doL P l a).length ≤ l.length + 1 := by
  unfold doL
  split
  · exact insL_len P l a.t
  split
  · unfold canL
    split
    · have := without_len l a.t.place; omega
    · omega
  split
  · unfold movL
    split
    · have := insL_len P (withoutL l a.t.place) a.t
      have := without_len l a.t.place
      omega
    · omega
  split
  · have : (dueL l a.now false).length ≤ l.length := List.length_filter_le _ _
    omega
  · omega
theorem fold_len (P : Int) (xs : List Act) : ∀ l : List Timer, (xs.foldl (doL P) l).length ≤ l.length + xs.length := by
  induction xs with
  | nil => intro l; simp
  | cons a xs ih =>
    intro l
    have := ih (doL P l a)
    have := doL_len P l a
    simp only [List.foldl_cons, List.length_cons]
    omega
theorem behindL_len (P : Int) (xs : List Act) : (behindL P xs).length ≤ xs.length := by
  have := fold_len P xs []
  simpa [behindL] using this
theorem behindL_snoc (P : Int) (xs : List Act) (a : Act) : behindL P (xs ++ [a]) = doL P (behindL P xs) a := by simp [behindL]
/-- The acts at A, below block B. -/
def AcAt (w : World) (B : Nat) (A : Option Addr) (l : List Act) : Prop :=
  ∀ i (h : i < l.length), ∃ b o, A = some ⟨b, o, none⟩ ∧ b < B ∧
    w.cell? ⟨b, o + i * 5, none⟩ = some (.int .i64 l[i].kind) ∧ w.cell? ⟨b, o + i * 5 + 1, none⟩ = some (.int .u64 l[i].t.at_) ∧ w.cell? ⟨b, o + i * 5 + 2, none⟩ = some (.int .u64 l[i].t.seq) ∧ w.cell? ⟨b, o + i * 5 + 3, none⟩ = some (.int .i64 l[i].t.place) ∧ w.cell? ⟨b, o + i * 5 + 4, none⟩ = some (.int .u64 l[i].now)
theorem AcAt.below {w w' : World} {B B' : Nat} {A : Option Addr} {l : List Act} (h : AcAt w B A l) (hk : Below B' w w') (hB : B ≤ B') : AcAt w' B A l := by
  intro i hi
  obtain ⟨b, o, rfl, hb, c0, c1, c2, c3, c4⟩ := h i hi
  have e : ∀ k, w'.cell? ⟨b, k, none⟩ = w.cell? ⟨b, k, none⟩ := fun k => World.cell?_of_block (hk.block b (by omega))
  exact ⟨b, o, rfl, hb, (e _).trans c0, (e _).trans c1, (e _).trans c2, (e _).trans c3, (e _).trans c4⟩
set_option maxRecDepth 100000 in
set_option maxHeartbeats 4000000 in
theorem rbehind_bad (P : Int) (A : Option Addr) (l : List Act) (c : Nat) (w : World) (hp : P < 0 ∨ (¬ P < 0 ∧ 1024 < P)) (hl : l.length ≤ 100000) :
    Calls Try.prog 16 #[.int .i64 P, .slice A l.length c] w fun e w' => e = .returned (qE 0 (.slice none 0 0) 1) ∧ Below w.heap.size w w' := by
  have hn := rnew_bad P (w.alloc (.cells #[.int .i64 0, .slice none 0 0] 30)) hp
  have q0 : Blk (w.alloc (.cells #[.int .i64 0, .slice none 0 0] 30)) w.heap.size 30 #[.int .i64 0, .slice none 0 0] := Blk.new _ _ _
  unfold qE qV at hn
  go_enter Try.func16, Try.ntmps16
  go_wp2_with fail
  refine hn.mono ?_
  rintro e w1 ⟨rfl, hx⟩
  have hb1 := (alloc_kept' w _).trans (Below.mono hx (by simp))
  have q1 := q0.below hx q0.lt
  have d1 := q1.cell
  have f1 := q1.frozen
  have l1 := q1.lt
  clear hx hn q0
  go_wp2_with fail
  go_loopw [8] (fun i wr => i = .int .i64 0 ∧ Blk wr w.heap.size 30 #[.int .i64 0, .slice none 0 0] ∧ w1.heap.size < wr.heap.size ∧ Blk wr w1.heap.size 30 #[.int .i64 0, .slice none 0 0] ∧ Below w.heap.size w wr) (fun _ _ => 0)
  case atStart => exact ⟨rfl, q1.alloc _, by simp, Blk.new _ _ _, hb1.alloc hb1.size _⟩
  case round =>
    obtain ⟨rfl, r1, r3, r2, hb⟩ := hrel
    have e1 := r1.cell
    have e2 := r2.cell
    have e3 := r1.frozen
    clear q1 d1 f1 hb1
    have hs1 := (r1.put 0 (.int .i64 0)).put 1 (.slice none 0 0)
    have s1 := hs1.cell
    have H : ((0 : Int) < (l.length : Int)) ∨ (¬ (0 : Int) < (l.length : Int)) := by omega
    rcases H with H | H
    · go_wp2_with fail
      refine bodyPost_ret (v := qE 0 (.slice none 0 0) 1) ?_ rfl ⟨rfl, ?_⟩
      · simp [results, Try.results16, go_sem, qE, qV, s1]
      · exact (hb.setCell (Nat.le_refl _) _).setCell (Nat.le_refl _) _
    · go_wp2_with fail
      refine bodyPost_ret (v := qE 0 (.slice none 0 0) 1) ?_ rfl ⟨rfl, ?_⟩
      · simp [results, Try.results16, go_sem, qE, qV, s1]
      · exact (hb.setCell (Nat.le_refl _) _).setCell (Nat.le_refl _) _
theorem act_on {w w' : World} {b o k : Nat} {a : Act} (h : w.cell? ⟨b, o + k * 5, none⟩ = some (.int .i64 a.kind) ∧ w.cell? ⟨b, o + k * 5 + 1, none⟩ = some (.int .u64 a.t.at_) ∧ w.cell? ⟨b, o + k * 5 + 2, none⟩ = some (.int .u64 a.t.seq) ∧ w.cell? ⟨b, o + k * 5 + 3, none⟩ = some (.int .i64 a.t.place) ∧ w.cell? ⟨b, o + k * 5 + 4, none⟩ = some (.int .u64 a.now)) (hb : w'.heap[b]? = w.heap[b]?) : w'.cell? ⟨b, o + k * 5, none⟩ = some (.int .i64 a.kind) ∧ w'.cell? ⟨b, o + k * 5 + 1, none⟩ = some (.int .u64 a.t.at_) ∧ w'.cell? ⟨b, o + k * 5 + 2, none⟩ = some (.int .u64 a.t.seq) ∧ w'.cell? ⟨b, o + k * 5 + 3, none⟩ = some (.int .i64 a.t.place) ∧ w'.cell? ⟨b, o + k * 5 + 4, none⟩ = some (.int .u64 a.now) := by
  have e : ∀ j, w'.cell? ⟨b, j, none⟩ = w.cell? ⟨b, j, none⟩ := fun j => World.cell?_of_block hb
  obtain ⟨h0, h1, h2, h3, h4⟩ := h
  exact ⟨(e _).trans h0, (e _).trans h1, (e _).trans h2, (e _).trans h3, (e _).trans h4⟩
set_option maxRecDepth 100000 in
set_option maxHeartbeats 4000000 in
theorem rbehind_ok (P : Int) (A : Option Addr) (l : List Act) (c : Nat) (w : World) (hA : AcAt w w.heap.size A l) (hp : ¬ P < 0 ∧ ¬ 1024 < P) (hl : l.length ≤ 10000) :
    Calls Try.prog 16 #[.int .i64 P, .slice A l.length c] w fun e w' => ∃ v, e = .returned (qE P v 0) ∧ LAt w' v (behindL P l) ∧ Below w.heap.size w w' ∧ FreshV w (.slice none 0 0) v := by
  have hn := rnew_ok P (w.alloc (.cells #[.int .i64 0, .slice none 0 0] 30)) hp
  have q0 : Blk (w.alloc (.cells #[.int .i64 0, .slice none 0 0] 30)) w.heap.size 30 #[.int .i64 0, .slice none 0 0] := Blk.new _ _ _
  unfold qE qV at hn
  go_enter Try.func16, Try.ntmps16
  go_wp2_with fail
  refine hn.mono ?_
  rintro e w1 ⟨rfl, hx⟩
  have hb1 := (alloc_kept' w _).trans (Below.mono hx (by simp))
  have q1 := q0.below hx q0.lt
  have d1 := q1.cell
  have f1 := q1.frozen
  have l1 := q1.lt
  clear hx hn q0
  go_wp2_with fail
  go_loopw [8] (fun i wr => ∃ (k : Nat) (v : Value), k ≤ l.length ∧ i = .int .i64 k ∧ LAt wr v (behindL P (l.take k)) ∧ (∀ g, blkOf v = some g → w1.heap.size < g) ∧ Blk wr w.heap.size 30 #[.int .i64 0, .slice none 0 0] ∧ w1.heap.size < wr.heap.size ∧ Blk wr w1.heap.size 30 #[.int .i64 P, v] ∧ Below w.heap.size w wr) (fun i _ => l.length - (intOf i).toNat)
  case atStart => exact ⟨0, .slice none 0 0, Nat.zero_le _, rfl, LAt.nil _, fun g hg => by simp [blkOf] at hg, q1.alloc _, by simp, Blk.new _ _ _, hb1.alloc hb1.size _⟩
  case round =>
    obtain ⟨k, v, hk, rfl, hv, hvb, r1, r3, r2, hb⟩ := hrel
    have e1 := r1.cell
    have e2 := r2.cell
    have e3 := r1.frozen
    clear q1 d1 f1 hb1
    by_cases hlt : k < l.length
    · obtain ⟨b, o, rfl, hbb, c0, c1, c2, c3, c4⟩ := (hA.below hb (Nat.le_refl _)) k hlt
      have hbw : b < wr.heap.size := Nat.lt_of_lt_of_le hbb hb.size
      have HS := Lib.hid (show behindL P (l.take (k + 1)) = doL P (behindL P (l.take k)) l[k] from by rw [take_snoc l k hlt, behindL_snoc])
      have hbl := behindL_len P (l.take k)
      have hbl2 : (behindL P (l.take k)).length ≤ 100000 := by
        have : (l.take k).length ≤ k := by simp; omega
        omega
      have hdo := rdo_any P v (behindL P (l.take k)) l[k] wr.drew hv hbl2
      generalize behindL P (l.take k) = m at *
      generalize l[k] = a at *
      clear hbl hbl2
      have hvf := hv
      obtain ⟨A1, n1, rfl, hrest⟩ := hv
      unfold qV Act.val at hdo
      have hS0 : wr.drew.cell? ⟨b, o + k * 5, none⟩ = some (.int .i64 a.kind) ∧ wr.drew.cell? ⟨b, o + k * 5 + 1, none⟩ = some (.int .u64 a.t.at_) ∧ wr.drew.cell? ⟨b, o + k * 5 + 2, none⟩ = some (.int .u64 a.t.seq) ∧ wr.drew.cell? ⟨b, o + k * 5 + 3, none⟩ = some (.int .i64 a.t.place) ∧ wr.drew.cell? ⟨b, o + k * 5 + 4, none⟩ = some (.int .u64 a.now) := ⟨c0, c1, c2, c3, c4⟩
      have hl14 : w1.heap.size ≠ b := by omega
      go_wp2_with fail
      go_region_law ((go_simp; go_at_call 11; refine hdo.mono ?_; rintro e w2 ⟨v2, u2, rfl, hv2, _, hx, hfr, _⟩; obtain ⟨A2, n2, rfl, hrest2⟩ := hv2; have hv2 : LAt w2 (.slice A2 (doL P m a).length n2) (doL P m a) := ⟨A2, n2, rfl, hrest2⟩; unfold doV qV; have s1 := r1.drew.below hx r1.lt; have s2 := r2.drew.below hx r2.lt; have s3 := s2.cell; have s4 := s2.frozen; have s5 := hx.size; have hb2 := hb.drew.trans (Below.mono hx hb.size)))
      all_goals
        have hfb : ∀ g, blkOf (.slice A2 (doL P m a).length n2) = some g → w1.heap.size < g := by
          intro g hg
          rcases hfr g hg with h | h
          · exact hvb g h
          · exact Nat.lt_of_lt_of_le r3 h
        have hL : LAt ((w2.setCell ⟨w1.heap.size, 0, none⟩ (.int .i64 P)).setCell ⟨w1.heap.size, 1, none⟩ (.slice A2 (doL P m a).length n2)) (.slice A2 (doL P m a).length n2) (doL P m a) :=
          (hv2.setCell ⟨w1.heap.size, 0, none⟩ _ (fun g hg => by have := hfb g hg; simp; omega)).setCell ⟨w1.heap.size, 1, none⟩ _ (fun g hg => by have := hfb g hg; simp; omega)
        have hB1 : Blk ((w2.setCell ⟨w1.heap.size, 0, none⟩ (.int .i64 P)).setCell ⟨w1.heap.size, 1, none⟩ (.slice A2 (doL P m a).length n2)) w.heap.size 30 #[.int .i64 0, .slice none 0 0] := (s1.far (by simp; omega) _).far (by simp; omega) _
        have hB2 : Blk ((w2.setCell ⟨w1.heap.size, 0, none⟩ (.int .i64 P)).setCell ⟨w1.heap.size, 1, none⟩ (.slice A2 (doL P m a).length n2)) w1.heap.size 30 #[.int .i64 P, .slice A2 (doL P m a).length n2] := by simpa using (s2.put 0 (.int .i64 P)).put 1 (.slice A2 (doL P m a).length n2)
        have hbF := (hb2.setCell (p := ⟨w1.heap.size, 0, none⟩) (Nat.le_of_lt l1) (.int .i64 P)).setCell (p := ⟨w1.heap.size, 1, none⟩) (Nat.le_of_lt l1) (.slice A2 (doL P m a).length n2)
        have hsz : w1.heap.size < ((w2.setCell ⟨w1.heap.size, 0, none⟩ (.int .i64 P)).setCell ⟨w1.heap.size, 1, none⟩ (.slice A2 (doL P m a).length n2)).heap.size := by
          simp [World.setCell]
          exact Nat.lt_of_lt_of_le r3 s5
        clear c0 c1 c2 c3 c4 hS0 s1 s2 s3 s4 s5 hx hfr hv2 hrest2 hrest e1 e2 e3 r1 r2
        go_wp2_with fail
        go_roundw
        case rel => exact ⟨k + 1, .slice A2 (doL P m a).length n2, by omega, by go_num, by rw [HS.out]; exact hL, hfb, hB1, hsz, hB2, hbF⟩
        case measure => simp [intOf]; omega
    · have ht : l.take k = l := List.take_of_length_le (by omega)
      rw [ht] at hv
      clear ht
      obtain ⟨A1, n1, rfl, hrest⟩ := hv
      have hv : LAt wr (.slice A1 (behindL P l).length n1) (behindL P l) := ⟨A1, n1, rfl, hrest⟩
      have hM := Lib.hid hv
      have hs1 := (r1.put 0 (.int .i64 P)).put 1 (.slice A1 (behindL P l).length n1)
      have s1 := hs1.cell
      clear hrest hv
      go_wp2_with fail
      refine bodyPost_ret (v := qE P (.slice A1 (behindL P l).length n1) 0) ?_ rfl ⟨.slice A1 (behindL P l).length n1, rfl, ?_, (hb.setCell (Nat.le_refl _) _).setCell (Nat.le_refl _) _, ?_⟩
      · simp [results, Try.results16, go_sem, qE, qV, s1]
      · exact (hM.out.setCell ⟨w.heap.size, 0, none⟩ _ (fun g hg => by have := hvb g hg; simp; omega)).setCell ⟨w.heap.size, 1, none⟩ _ (fun g hg => by have := hvb g hg; simp; omega)
      · intro g hg
        exact .inr (by have := hvb g hg; omega)
end Go.Proofs.Ytpbepmipfjcjbaa
namespace Go.Proofs.Ytpbepmipfjcjbaa
def pendL (P : Nat) (on : Nat → Bool) (tm : Nat → Timer) : List Timer := ((List.range P).filter on).map tm
def updB (f : Nat → Bool) (i : Nat) (v : Bool) : Nat → Bool := fun k => if k = i then v else f k
def updT (f : Nat → Timer) (i : Nat) (v : Timer) : Nat → Timer := fun k => if k = i then v else f k
theorem updB_at (f : Nat → Bool) (i : Nat) (v : Bool) : updB f i v i = v := by simp [updB]
theorem updB_ne (f : Nat → Bool) {i k : Nat} (v : Bool) (h : k ≠ i) : updB f i v k = f k := by simp [updB, h]
theorem updT_at (f : Nat → Timer) (i : Nat) (v : Timer) : updT f i v i = v := by simp [updT]
theorem updT_ne (f : Nat → Timer) {i k : Nat} (v : Timer) (h : k ≠ i) : updT f i v k = f k := by simp [updT, h]
theorem updB_two (on : Nat → Bool) (i : Nat) (h : on i = true) : updB (updB on i false) i true = on := by
  funext k
  by_cases hk : k = i
  · subst hk
    rw [updB_at, h]
  · rw [updB_ne _ _ hk, updB_ne _ _ hk]
theorem filter_on (on : Nat → Bool) (i : Nat) (hoff : on i = false) : ∀ l : List Nat, l.Nodup → i ∈ l → (l.filter (updB on i true)).Perm (i :: l.filter on)
  | [], _, h => absurd h (by simp)
  | x :: l, hn, hm => by
    have hn' := List.nodup_cons.1 hn
    by_cases hx : x = i
    · subst hx
      have e : l.filter (updB on x true) = l.filter on := List.filter_congr fun y hy => by rw [updB_ne _ _ (fun e => hn'.1 (by rw [← e]; exact hy))]
      rw [List.filter_cons_of_pos (by rw [updB_at]), List.filter_cons_of_neg (by rw [hoff]; simp), e]
    · have hm2 : i ∈ l := by
        rcases List.mem_cons.1 hm with e | h
        · exact absurd e.symm hx
        · exact h
      have ih := filter_on on i hoff l hn'.2 hm2
      by_cases ho : on x = true
      · rw [List.filter_cons_of_pos (by rw [updB_ne _ _ hx]; exact ho), List.filter_cons_of_pos ho]
        exact (ih.cons x).trans (List.Perm.swap _ _ _)
      · rw [List.filter_cons_of_neg (by rw [updB_ne _ _ hx]; exact ho), List.filter_cons_of_neg ho]
        exact ih
theorem mem_pend {P : Nat} {on : Nat → Bool} {tm : Nat → Timer} {x : Timer} : x ∈ pendL P on tm ↔ ∃ i, i < P ∧ on i = true ∧ tm i = x := by
  unfold pendL
  rw [List.mem_map]
  constructor
  · rintro ⟨i, hi, rfl⟩
    have := List.mem_filter.1 hi
    exact ⟨i, List.mem_range.1 this.1, this.2, rfl⟩
  · rintro ⟨i, h1, h2, rfl⟩
    exact ⟨i, List.mem_filter.2 ⟨List.mem_range.2 h1, h2⟩, rfl⟩
theorem pend_congr {P : Nat} {on on' : Nat → Bool} {tm tm' : Nat → Timer} (h1 : ∀ i, i < P → on i = on' i) (h2 : ∀ i, i < P → on i = true → tm i = tm' i) : pendL P on tm = pendL P on' tm' := by
  unfold pendL
  rw [List.filter_congr (q := on') (fun x hx => h1 x (List.mem_range.1 hx))]
  refine List.map_congr_left fun x hx => ?_
  have := List.mem_filter.1 hx
  have hP := List.mem_range.1 this.1
  exact h2 x hP (by rw [h1 x hP]; exact this.2)
theorem pend_on {P : Nat} {on : Nat → Bool} {tm : Nat → Timer} {i : Nat} (t : Timer) (hi : i < P) (hoff : on i = false) : (pendL P (updB on i true) (updT tm i t)).Perm (t :: pendL P on tm) := by
  have h := (filter_on on i hoff (List.range P) List.nodup_range (List.mem_range.2 hi)).map (updT tm i t)
  rw [List.map_cons, updT_at] at h
  unfold pendL
  rw [show ((List.range P).filter on).map tm = ((List.range P).filter on).map (updT tm i t) from List.map_congr_left fun x hx => by
    have := (List.mem_filter.1 hx).2
    rw [updT_ne _ _ (fun e => by subst e; rw [hoff] at this; cases this)]]
  exact h
theorem pend_off {P : Nat} {on : Nat → Bool} {tm : Nat → Timer} {i : Nat} (hi : i < P) (hon : on i = true) : (pendL P on tm).Perm (tm i :: pendL P (updB on i false) tm) := by
  have h := (filter_on (updB on i false) i (updB_at _ _ _) (List.range P) List.nodup_range (List.mem_range.2 hi)).map tm
  rw [updB_two on i hon, List.map_cons] at h
  exact h
/-- What pends at a place. -/
def atP (P : Nat) (on : Nat → Bool) (tm : Nat → Timer) (p : Int) : Option Timer := if 0 ≤ p ∧ p < P ∧ on p.toNat = true then some (tm p.toNat) else none
/-- m is what pends, in order; each timer lies at its place. -/
structure PRel (P : Nat) (on : Nat → Bool) (tm : Nat → Timer) (m : List Timer) : Prop where
  srt : Srt m
  perm : m.Perm (pendL P on tm)
  place : ∀ i, i < P → on i = true → (tm i).place = i
section
variable {P : Nat} {on : Nat → Bool} {tm : Nat → Timer} {m : List Timer}
theorem PRel.new (P : Nat) (tm : Nat → Timer) : PRel P (fun _ => false) tm [] := ⟨Srt.nil, by simp [pendL], fun _ _ h => by cases h⟩
theorem PRel.mem (h : PRel P on tm m) {x : Timer} : x ∈ m ↔ ∃ i, i < P ∧ on i = true ∧ tm i = x := by rw [h.perm.mem_iff]; exact mem_pend
theorem PRel.sort (h : PRel P on tm m) : sortL (pendL P on tm) = m := (h.srt.sort_of h.perm).symm
theorem PRel.len (h : PRel P on tm m) : m.length = (pendL P on tm).length := h.perm.length_eq
theorem pendL_le (P : Nat) (on : Nat → Bool) (tm : Nat → Timer) : (pendL P on tm).length ≤ P := by
  unfold pendL
  rw [List.length_map]
  exact Nat.le_trans (List.length_filter_le _ _) (by simp)
theorem PRel.len_le (h : PRel P on tm m) : m.length ≤ P := by rw [h.len]; exact pendL_le _ _ _
theorem PRel.get (h : PRel P on tm m) (p : Int) : getL m p = atP P on tm p := by
  unfold atP getL
  by_cases hp : 0 ≤ p ∧ p < P ∧ on p.toNat = true
  · rw [if_pos hp]
    have hlt : p.toNat < P := by omega
    have hm : tm p.toNat ∈ m := h.mem.2 ⟨_, hlt, hp.2.2, rfl⟩
    have hpl : (tm p.toNat).place = p := by rw [h.place _ hlt hp.2.2]; omega
    cases e : m.find? fun x => decide (x.place = p) with
    | none =>
      have := List.find?_eq_none.1 e _ hm
      rw [hpl] at this
      simp at this
    | some x =>
      obtain ⟨k, hk, ho, rfl⟩ := h.mem.1 (List.mem_of_find?_eq_some e)
      have := List.find?_some e
      rw [h.place k hk ho] at this
      have : (k : Int) = p := by simpa using this
      have : k = p.toNat := by omega
      rw [this]
  · rw [if_neg hp]
    rw [List.find?_eq_none]
    intro x hx
    obtain ⟨k, hk, ho, rfl⟩ := h.mem.1 hx
    rw [h.place k hk ho]
    intro e
    have : (k : Int) = p := by simpa using e
    refine hp ⟨by omega, by omega, ?_⟩
    rw [show p.toNat = k by omega]
    exact ho
theorem PRel.put (h : PRel P on tm m) {i : Nat} {t : Timer} (hi : i < P) (hoff : on i = false) (ht : t.place = i) : PRel P (updB on i true) (updT tm i t) (putL m t) := by
  refine ⟨h.srt.put t, (putL_perm m t).trans ((h.perm.cons t).trans (pend_on t hi hoff).symm), ?_⟩
  intro k hk hon
  by_cases hki : k = i
  · subst hki
    rw [updT_at, ht]
  · rw [updT_ne _ _ hki]
    rw [updB_ne _ _ hki] at hon
    exact h.place k hk hon
theorem filter_ne_eq {m : List Timer} {q : Timer → Bool} : m.filter q = m.filter q := rfl
theorem PRel.without (h : PRel P on tm m) {i : Nat} (hi : i < P) (hon : on i = true) : PRel P (updB on i false) tm (withoutL m i) := by
  refine ⟨h.srt.sub List.filter_sublist, ?_, ?_⟩
  · have h1 := (h.perm.trans (pend_off hi hon)).filter fun x => decide (x.place ≠ (i : Int))
    rw [List.filter_cons_of_neg (by rw [h.place i hi hon]; simp)] at h1
    refine h1.trans (List.Perm.of_eq ?_)
    refine List.filter_eq_self.2 ?_
    intro x hx
    obtain ⟨k, hk, ho, rfl⟩ := mem_pend.1 hx
    have hki : k ≠ i := fun e => by rw [e, updB_at] at ho; cases ho
    rw [updB_ne _ _ hki] at ho
    rw [h.place k hk ho]
    simp only [ne_eq, decide_eq_true_eq]
    omega
  · intro k hk ho
    have hki : k ≠ i := fun e => by rw [e, updB_at] at ho; cases ho
    rw [updB_ne _ _ hki] at ho
    exact h.place k hk ho
/-- Those due have been taken, one by one: what is left, and what was taken, in order. -/
theorem PRel.due (h : PRel P on tm m) {on' : Nat → Bool} {l : List Timer} {now : Int} (hsub : ∀ i, i < P → on' i = true → on i = true) (hp : (l ++ pendL P on' tm).Perm (pendL P on tm))
    (h1 : ∀ x ∈ l, x.at_ ≤ now) (h2 : ∀ i, i < P → on' i = true → now < (tm i).at_) : PRel P on' tm (dueL m now false) ∧ sortL l = dueL m now true := by
  have hall := h.perm.trans hp.symm
  have f1 : (pendL P on' tm).filter (fun x => decide (x.at_ ≤ now) == false) = pendL P on' tm := List.filter_eq_self.2 fun x hx => by
    obtain ⟨k, hk, ho, rfl⟩ := mem_pend.1 hx
    have := h2 k hk ho
    simp; omega
  have f2 : (pendL P on' tm).filter (fun x => decide (x.at_ ≤ now) == true) = [] := List.filter_eq_nil_iff.2 fun x hx => by
    obtain ⟨k, hk, ho, rfl⟩ := mem_pend.1 hx
    have := h2 k hk ho
    simp; omega
  have f3 : l.filter (fun x => decide (x.at_ ≤ now) == false) = [] := List.filter_eq_nil_iff.2 fun x hx => by
    have := h1 x hx
    simp; omega
  have f4 : l.filter (fun x => decide (x.at_ ≤ now) == true) = l := List.filter_eq_self.2 fun x hx => by
    have := h1 x hx
    simp; omega
  refine ⟨⟨h.srt.sub List.filter_sublist, ?_, fun i hi ho => h.place i hi (hsub i hi ho)⟩, ?_⟩
  · have := hall.filter fun x => decide (x.at_ ≤ now) == false
    rw [List.filter_append, f1, f3, List.nil_append] at this
    exact this
  · have := hall.filter fun x => decide (x.at_ ≤ now) == true
    rw [List.filter_append, f2, f4, List.append_nil] at this
    exact ((h.srt.sub List.filter_sublist).sort_of this).symm
/-- One that none is before. -/
def firstL : List Timer → Option Timer
  | [] => none
  | x :: l => some (l.foldl (fun b y => if y.lt b then y else b) x)
theorem first_fold : ∀ (l : List Timer) (b : Timer), (l.foldl (fun b y => if y.lt b then y else b) b ∈ b :: l) ∧ ∀ y ∈ b :: l, y.lt (l.foldl (fun b y => if y.lt b then y else b) b) = false
  | [], b => ⟨by simp, fun y hy => by
    have : y = b := by simpa using hy
    subst this
    exact Timer.lt_irrefl y⟩
  | x :: l, b => by
    simp only [List.foldl_cons]
    by_cases hx : x.lt b = true
    · rw [if_pos hx]
      obtain ⟨i1, i2⟩ := first_fold l x
      refine ⟨List.mem_cons_of_mem _ i1, ?_⟩
      intro y hy
      rcases List.mem_cons.1 hy with rfl | hy
      · have hx2 := i2 x (by simp)
        exact Timer.le_trans hx2 (Timer.lt_asymm hx)
      · exact i2 y hy
    · rw [if_neg hx]
      have hx' : x.lt b = false := by simpa using hx
      obtain ⟨i1, i2⟩ := first_fold l b
      refine ⟨?_, ?_⟩
      · rcases List.mem_cons.1 i1 with h | h
        · rw [h]; simp
        · simp [h]
      intro y hy
      rcases List.mem_cons.1 hy with rfl | hy
      · exact i2 y (by simp)
      rcases List.mem_cons.1 hy with rfl | hy
      · exact Timer.le_trans (i2 b (by simp)) hx'
      · exact i2 y (List.mem_cons_of_mem _ hy)
theorem first_head {l m : List Timer} (hs : Srt m) (hp : m.Perm l) : firstL l = m.head? := by
  cases l with
  | nil => rw [List.Perm.eq_nil hp]; rfl
  | cons x l =>
    cases m with
    | nil => exact absurd hp.symm.eq_nil (by simp)
    | cons y m =>
      obtain ⟨i1, i2⟩ := first_fold l x
      show some _ = some y
      congr 1
      have hy : y ∈ x :: l := hp.mem_iff.1 (by simp)
      refine Timer.lt_total ?_ (i2 y hy)
      have hm := hp.mem_iff.2 i1
      rcases List.mem_cons.1 hm with e | hm
      · rw [e]; exact Timer.lt_irrefl y
      · exact (List.pairwise_cons.1 hs).1 _ hm
theorem PRel.min (h : PRel P on tm m) : firstL (pendL P on tm) = m.head? := first_head h.srt h.perm
theorem atP_on {p : Int} (hb : ¬ (p < 0 ∨ (P : Int) ≤ p)) (ho : on p.toNat = true) : atP P on tm p = some (tm p.toNat) := if_pos ⟨by omega, by omega, ho⟩
theorem atP_off {p : Int} (ho : ¬ on p.toNat = true) : atP P on tm p = none := if_neg fun e => ho e.2.2
/-- The codes of the document's queue. -/
theorem PRel.insC (h : PRel P on tm m) (t : Timer) : insC P m t = if t.place < 0 ∨ (P : Int) ≤ t.place then 1 else if on t.place.toNat = true then 4 else 0 := by
  unfold Go.Proofs.Ytpbepmipfjcjbaa.insC
  by_cases hb : t.place < 0 ∨ (P : Int) ≤ t.place
  · rw [if_pos hb, if_pos hb]
  · rw [if_neg hb, if_neg hb, h.get]
    by_cases ho : on t.place.toNat = true
    · rw [atP_on hb ho, if_pos ho]; rfl
    · rw [atP_off ho, if_neg ho]; rfl
theorem PRel.canC (h : PRel P on tm m) (p : Int) : canC P m p = if p < 0 ∨ (P : Int) ≤ p then 1 else if on p.toNat = true then 0 else 5 := by
  unfold Go.Proofs.Ytpbepmipfjcjbaa.canC
  by_cases hb : p < 0 ∨ (P : Int) ≤ p
  · rw [if_pos hb, if_pos hb]
  · rw [if_neg hb, if_neg hb, h.get]
    by_cases ho : on p.toNat = true
    · rw [atP_on hb ho, if_pos ho]; rfl
    · rw [atP_off ho, if_neg ho]; rfl
theorem PRel.canT (h : PRel P on tm m) {i : Nat} (hi : i < P) (ho : on i = true) : canT P m i = tm i := by
  have hb : ¬ ((i : Int) < 0 ∨ (P : Int) ≤ i) := by omega
  have ho' : on (i : Int).toNat = true := by simpa using ho
  unfold Go.Proofs.Ytpbepmipfjcjbaa.canT
  rw [h.canC, if_neg hb, if_pos ho', if_pos rfl, h.get, atP_on hb ho']
  simp
end
end Go.Proofs.Ytpbepmipfjcjbaa
namespace Go.Proofs.Ytpbepmipfjcjbaa
inductive BT where
  | nil : BT
  | node : Nat → BT → BT → BT
def BT.ids : BT → List Nat
  | .nil => []
  | .node i l s => i :: (l.ids ++ s.ids)
/-- The ways of nodes: the first one below, the next one beside, the one ahead. -/
structure Lk where
  bl : Nat → Option Nat
  bs : Nat → Option Nat
  bk : Nat → Option Nat
def updO (f : Nat → Option Nat) (i : Nat) (v : Option Nat) : Nat → Option Nat := fun k => if k = i then v else f k
theorem updO_at (f : Nat → Option Nat) (i : Nat) (v : Option Nat) : updO f i v i = v := by simp [updO]
theorem updO_ne (f : Nat → Option Nat) {i k : Nat} (v : Option Nat) (h : k ≠ i) : updO f i v k = f k := by simp [updO, h]
/-- The tree lies in the ways, from r on; ahead of it is b. -/
def Rep (f : Lk) : Option Nat → BT → Option Nat → Prop
  | _, .nil, r => r = none
  | b, .node i l s, r => r = some i ∧ f.bk i = b ∧ Rep f (some i) l (f.bl i) ∧ Rep f (some i) s (f.bs i)
/-- Two ways that agree at a node. -/
def Lk.Eq (f g : Lk) (i : Nat) : Prop := g.bl i = f.bl i ∧ g.bs i = f.bs i ∧ g.bk i = f.bk i
theorem Lk.Eq.refl (f : Lk) (i : Nat) : f.Eq f i := ⟨rfl, rfl, rfl⟩
theorem Lk.Eq.trans {f g h : Lk} {i : Nat} (a : f.Eq g i) (b : g.Eq h i) : f.Eq h i := ⟨b.1.trans a.1, b.2.1.trans a.2.1, b.2.2.trans a.2.2⟩
theorem Rep.congr {f g : Lk} : ∀ {t : BT} {b r : Option Nat}, Rep f b t r → (∀ i ∈ t.ids, f.Eq g i) → Rep g b t r
  | .nil, _, _, h, _ => h
  | .node i l s, b, r, ⟨h1, h2, h3, h4⟩, he => by
    have hi := he i (by simp [BT.ids])
    refine ⟨h1, hi.2.2.trans h2, ?_, ?_⟩
    · rw [hi.1]; exact h3.congr fun j hj => he j (by simp [BT.ids, hj])
    · rw [hi.2.1]; exact h4.congr fun j hj => he j (by simp [BT.ids, hj])
theorem Rep.in_ {f : Lk} {t : BT} {b : Option Nat} {i : Nat} (h : Rep f b t (some i)) : i ∈ t.ids := by
  cases t with
  | nil => cases h
  | node j l s =>
    obtain ⟨h1, _⟩ := h
    injection h1 with h1
    subst h1
    simp [BT.ids]
/-- The same tree behind another node. -/
theorem Rep.back {f g : Lk} {t : BT} {b b' r : Option Nat} (h : Rep f b t r) (hn : t.ids.Nodup) (h1 : ∀ i ∈ t.ids, g.bl i = f.bl i ∧ g.bs i = f.bs i) (h2 : ∀ i ∈ t.ids, some i ≠ r → g.bk i = f.bk i) (h3 : ∀ i, r = some i → g.bk i = b') : Rep g b' t r := by
  cases t with
  | nil => exact h
  | node i l s =>
    obtain ⟨rfl, hk, hl, hs⟩ := h
    simp only [BT.ids, List.nodup_cons] at hn
    have hi := h1 i (by simp [BT.ids])
    refine ⟨rfl, h3 i rfl, ?_, ?_⟩
    · rw [hi.1]
      refine hl.congr fun j hj => ?_
      have hj' : j ∈ (BT.node i l s).ids := by simp [BT.ids, hj]
      exact ⟨(h1 j hj').1, (h1 j hj').2, h2 j hj' (fun e => by injection e with e; subst e; exact hn.1 (by simp [hj]))⟩
    · rw [hi.2]
      refine hs.congr fun j hj => ?_
      have hj' : j ∈ (BT.node i l s).ids := by simp [BT.ids, hj]
      exact ⟨(h1 j hj').1, (h1 j hj').2, h2 j hj' (fun e => by injection e with e; subst e; exact hn.1 (by simp [hj]))⟩
/-- In order: what stands below a node is not ahead of it. -/
def HOk (tm : Nat → Timer) : BT → Prop
  | .nil => True
  | .node i l s => (∀ j ∈ l.ids, (tm j).lt (tm i) = false) ∧ HOk tm l ∧ HOk tm s
theorem HOk.congr {tm tm' : Nat → Timer} : ∀ {t : BT}, HOk tm t → (∀ i ∈ t.ids, tm' i = tm i) → HOk tm' t
  | .nil, _, _ => trivial
  | .node i l s, ⟨h1, h2, h3⟩, he => by
    have hi := he i (by simp [BT.ids])
    refine ⟨fun j hj => ?_, h2.congr fun j hj => he j (by simp [BT.ids, hj]), h3.congr fun j hj => he j (by simp [BT.ids, hj])⟩
    rw [hi, he j (by simp [BT.ids, hj])]
    exact h1 j hj
/-! Melding. -/
def meldF (f : Lk) (a b : Nat) : Lk :=
  { bl := updO f.bl a (some b), bs := updO f.bs b (f.bl a), bk := match f.bl a with | some c => updO (updO f.bk b (some a)) c (some b) | none => updO f.bk b (some a) }
theorem meldF_eq {f : Lk} {a b i : Nat} (ha : i ≠ a) (hb : i ≠ b) (hc : f.bl a ≠ some i) : f.Eq (meldF f a b) i := by
  refine ⟨updO_ne _ _ ha, updO_ne _ _ hb, ?_⟩
  unfold meldF
  cases h : f.bl a with
  | none => exact updO_ne _ _ hb
  | some c =>
    have : i ≠ c := fun e => hc (by rw [h, e])
    show updO (updO f.bk b (some a)) c (some b) i = f.bk i
    rw [updO_ne _ _ this, updO_ne _ _ hb]
theorem nodup_two {x y : Nat} {l m : List Nat} (h : (x :: l ++ y :: m).Nodup) : x ≠ y ∧ x ∉ l ∧ x ∉ m ∧ y ∉ l ∧ y ∉ m ∧ l.Nodup ∧ m.Nodup ∧ (∀ i ∈ l, i ∉ m) := by
  rw [List.nodup_append] at h
  obtain ⟨h1, h2, h3⟩ := h
  rw [List.nodup_cons] at h1 h2
  refine ⟨h3 x (by simp) y (by simp), h1.1, fun e => h3 x (by simp) x (by simp [e]) rfl, fun e => h3 y (by simp [e]) y (by simp) rfl, h2.1, h1.2, h2.2, fun i hi e => h3 i (by simp [hi]) i (by simp [e]) rfl⟩
theorem meld_rep {f : Lk} {a b : Nat} {l m : BT} (ha : Rep f none (.node a l .nil) (some a)) (hb : Rep f none (.node b m .nil) (some b)) (hn : (a :: l.ids ++ b :: m.ids).Nodup) :
    Rep (meldF f a b) none (.node a (.node b m l) .nil) (some a) := by
  obtain ⟨n1, n2, n3, n4, n5, n6, n7, n8⟩ := nodup_two hn
  obtain ⟨_, a1, a2, a3⟩ := ha
  obtain ⟨_, b1, b2, b3⟩ := hb
  have hc : ∀ c, f.bl a = some c → c ∈ l.ids := fun c e => by rw [e] at a2; exact a2.in_
  have ka : (meldF f a b).bk a = none := by
    unfold meldF
    cases h : f.bl a with
    | none => show updO f.bk b (some a) a = none; rw [updO_ne _ _ n1, a1]
    | some c => show updO (updO f.bk b (some a)) c (some b) a = none; rw [updO_ne _ _ (show a ≠ c from fun e => n2 (e ▸ hc c h)), updO_ne _ _ n1, a1]
  have kb : (meldF f a b).bk b = some a := by
    unfold meldF
    cases h : f.bl a with
    | none => exact updO_at _ _ _
    | some c => show updO (updO f.bk b (some a)) c (some b) b = some a; rw [updO_ne _ _ (show b ≠ c from fun e => n4 (e ▸ hc c h)), updO_at]
  refine ⟨rfl, ka, ?_, ?_⟩
  · show Rep (meldF f a b) (some a) (.node b m l) (updO f.bl a (some b) a)
    rw [updO_at]
    refine ⟨rfl, kb, ?_, ?_⟩
    · show Rep (meldF f a b) (some b) m (updO f.bl a (some b) b)
      rw [updO_ne _ _ n1.symm]
      exact b2.congr fun i hi => meldF_eq (fun e => n3 (e ▸ hi)) (fun e => n5 (e ▸ hi)) (fun e => n8 i (hc i e) hi)
    · show Rep (meldF f a b) (some b) l (updO f.bs b (f.bl a) b)
      rw [updO_at]
      refine a2.back n6 (fun i hi => ⟨updO_ne _ _ (show i ≠ a from fun e => n2 (e ▸ hi)), updO_ne _ _ (show i ≠ b from fun e => n4 (e ▸ hi))⟩) (fun i hi e => (meldF_eq (show i ≠ a from fun e => n2 (e ▸ hi)) (show i ≠ b from fun e => n4 (e ▸ hi)) fun e2 => e e2.symm).2.2) (fun i e => ?_)
      unfold meldF
      rw [e]
      exact updO_at _ _ _
  · show updO f.bs b (f.bl a) a = none
    rw [updO_ne _ _ n1]
    exact a3
/-! A list of trees, each by itself. -/
def fids (L : List (Nat × BT)) : List Nat := L.flatMap fun p => p.1 :: p.2.ids
structure Forest (f : Lk) (tm : Nat → Timer) (L : List (Nat × BT)) : Prop where
  rep : ∀ p ∈ L, Rep f none (.node p.1 p.2 .nil) (some p.1)
  nd : (fids L).Nodup
  ok : ∀ p ∈ L, HOk tm (.node p.1 p.2 .nil)
theorem fids_perm {L M : List (Nat × BT)} (h : L.Perm M) : (fids L).Perm (fids M) := h.flatMap_right _
theorem Forest.perm {f : Lk} {tm : Nat → Timer} {L M : List (Nat × BT)} (h : Forest f tm L) (p : L.Perm M) : Forest f tm M :=
  ⟨fun x hx => h.rep x (p.mem_iff.2 hx), (fids_perm p).nodup_iff.1 h.nd, fun x hx => h.ok x (p.mem_iff.2 hx)⟩
theorem Forest.same {f g : Lk} {tm : Nat → Timer} {L : List (Nat × BT)} (h : Forest f tm L) (he : ∀ i ∈ fids L, f.Eq g i) : Forest g tm L :=
  ⟨fun x hx => (h.rep x hx).congr fun i hi => he i (List.mem_flatMap.2 ⟨x, hx, by simpa [BT.ids] using hi⟩), h.nd, h.ok⟩
def meldT (tm : Nat → Timer) (a b : Nat × BT) : Nat × BT := if (tm b.1).lt (tm a.1) = true then (b.1, .node a.1 a.2 b.2) else (a.1, .node b.1 b.2 a.2)
def meldL (tm : Nat → Timer) (f : Lk) (a b : Nat) : Lk := if (tm b).lt (tm a) = true then meldF f b a else meldF f a b
theorem nlt_chain {a b c : Timer} (h : b.lt a = false) (k : c.lt b = false) : c.lt a = false := by
  cases e : c.lt a with
  | false => rfl
  | true =>
    cases e2 : a.lt b with
    | true => exact absurd (Timer.lt_trans e e2) (by rw [k]; decide)
    | false =>
      have := Timer.lt_total h e2
      subst this
      rw [k] at e
      cases e
set_option linter.unusedSimpArgs false in
theorem Forest.one {f : Lk} {tm : Nat → Timer} {a b : Nat × BT} {C : List (Nat × BT)} (h : Forest f tm (a :: b :: C)) (hlt : (tm b.1).lt (tm a.1) = false) :
    Forest (meldF f a.1 b.1) tm ((a.1, .node b.1 b.2 a.2) :: C) ∧ (fids ((a.1, .node b.1 b.2 a.2) :: C)).Perm (fids (a :: b :: C)) ∧ ∀ i, i ∉ fids (a :: b :: C) → f.Eq (meldF f a.1 b.1) i := by
  have ha := h.rep a (by simp)
  have hb := h.rep b (by simp)
  have e0 : fids (a :: b :: C) = (a.1 :: a.2.ids ++ b.1 :: b.2.ids) ++ fids C := by simp [fids]
  have hnd := h.nd
  rw [e0, List.nodup_append] at hnd
  obtain ⟨hn1, hn2, hn3⟩ := hnd
  obtain ⟨n1, n2, n3, n4, n5, n6, n7, n8⟩ := nodup_two hn1
  have hc : ∀ c, f.bl a.1 = some c → c ∈ a.2.ids := fun c e => by obtain ⟨_, _, x, _⟩ := ha; rw [e] at x; exact x.in_
  have hp : (fids ((a.1, .node b.1 b.2 a.2) :: C)).Perm (fids (a :: b :: C)) := by
    rw [e0]
    simp only [fids, List.flatMap_cons, BT.ids, List.cons_append, List.append_assoc, List.nil_append, List.append_nil]
    refine List.Perm.cons _ ?_
    exact List.perm_append_comm_assoc (b.1 :: b.2.ids) a.2.ids _
  have hout : ∀ i, i ∉ (a.1 :: a.2.ids ++ b.1 :: b.2.ids) → f.Eq (meldF f a.1 b.1) i := fun i hi => by
    simp only [List.cons_append, List.mem_cons, List.mem_append, not_or] at hi
    exact meldF_eq hi.1 hi.2.2.1 fun e => hi.2.1 (hc i e)
  refine ⟨⟨fun p hp => ?_, hp.nodup_iff.2 h.nd, fun p hp => ?_⟩, hp, fun i hi => hout i fun e => hi (by rw [e0]; exact List.mem_append_left _ e)⟩
  · rcases List.mem_cons.1 hp with rfl | hp
    · exact meld_rep ha hb hn1
    · refine (h.rep p (by simp [hp])).congr fun i hi => hout i fun e => hn3 i e i (List.mem_flatMap.2 ⟨p, hp, by simpa [BT.ids] using hi⟩) rfl
  · rcases List.mem_cons.1 hp with rfl | hp
    · obtain ⟨a1, a2, _⟩ := h.ok a (by simp)
      obtain ⟨b1, b2, _⟩ := h.ok b (by simp)
      refine ⟨fun j hj => ?_, ⟨b1, b2, a2⟩, trivial⟩
      simp only [BT.ids, List.mem_cons, List.mem_append] at hj
      rcases hj with rfl | hj | hj
      · exact hlt
      · exact nlt_chain hlt (b1 j hj)
      · exact a1 j hj
    · exact h.ok p (by simp [hp])
theorem Forest.meld {f : Lk} {tm : Nat → Timer} {a b : Nat × BT} {C : List (Nat × BT)} (h : Forest f tm (a :: b :: C)) :
    Forest (meldL tm f a.1 b.1) tm (meldT tm a b :: C) ∧ (fids (meldT tm a b :: C)).Perm (fids (a :: b :: C)) ∧ ∀ i, i ∉ fids (a :: b :: C) → f.Eq (meldL tm f a.1 b.1) i := by
  unfold meldL meldT
  by_cases hc : (tm b.1).lt (tm a.1) = true
  · rw [if_pos hc, if_pos hc]
    have hsw := List.Perm.swap b a C
    obtain ⟨h1, h2, h3⟩ := (h.perm hsw).one (Timer.lt_asymm hc)
    exact ⟨h1, h2.trans (fids_perm hsw).symm, fun i hi => h3 i fun e => hi ((fids_perm hsw).mem_iff.2 e)⟩
  · rw [if_neg hc, if_neg hc]
    exact h.one (by simpa using hc)
/-! A list beside each other, set free one by one. -/
def freeF (f : Lk) (i : Nat) : Lk := { f with bs := updO f.bs i none, bk := updO f.bk i none }
theorem freeF_eq {f : Lk} {i j : Nat} (h : j ≠ i) : f.Eq (freeF f i) j := ⟨rfl, updO_ne _ _ h, updO_ne _ _ h⟩
/-- So far: the trees set free, and what still stands beside each other. -/
structure Half (f : Lk) (tm : Nat → Timer) (L : List (Nat × BT)) (b : Option Nat) (s : BT) (x : Option Nat) : Prop where
  fr : Forest f tm L
  rep : Rep f b s x
  nd : (fids L ++ s.ids).Nodup
  ok : HOk tm s
theorem Half.step {f : Lk} {tm : Nat → Timer} {L : List (Nat × BT)} {b : Option Nat} {i : Nat} {l s : BT} {x : Option Nat} (h : Half f tm L b (.node i l s) x) :
    x = some i ∧ Half (freeF f i) tm (L ++ [(i, l)]) (some i) s (f.bs i) ∧ (freeF f i).bl = f.bl := by
  obtain ⟨hx, hk, hl, hs⟩ := h.rep
  obtain ⟨o1, o2, o3⟩ := h.ok
  have hnd := h.nd
  rw [List.nodup_append] at hnd
  obtain ⟨n1, n2, n3⟩ := hnd
  simp only [BT.ids, List.nodup_cons, List.mem_append, not_or] at n2
  obtain ⟨⟨il, is⟩, n4⟩ := n2
  rw [List.nodup_append] at n4
  have e1 : fids (L ++ [(i, l)]) = fids L ++ i :: l.ids := by simp [fids]
  have hN : (fids (L ++ [(i, l)]) ++ s.ids).Nodup := by
    have := h.nd
    rw [e1]
    simpa [BT.ids, List.append_assoc] using this
  have hrep : Rep (freeF f i) none (.node i l .nil) (some i) := by
    refine ⟨rfl, updO_at _ _ _, hl.congr fun j hj => freeF_eq fun e => il (e ▸ hj), updO_at _ _ _⟩
  refine ⟨hx, ⟨⟨fun p hp => ?_, (List.nodup_append.1 hN).1, fun p hp => ?_⟩, hs.congr fun j hj => freeF_eq fun e => is (e ▸ hj), hN, o3⟩, rfl⟩
  · rcases List.mem_append.1 hp with hp | hp
    · exact (h.fr.rep p hp).congr fun j hj => freeF_eq fun e => n3 j (List.mem_flatMap.2 ⟨p, hp, by simpa [BT.ids] using hj⟩) i (by simp [BT.ids]) e
    · rw [List.mem_singleton] at hp
      subst hp
      exact hrep
  · rcases List.mem_append.1 hp with hp | hp
    · exact h.fr.ok p hp
    · rw [List.mem_singleton] at hp
      subst hp
      exact ⟨o1, o2, trivial⟩
/-! One node, with all below it, is taken out. -/
def BT.cut (x : Nat) : BT → BT
  | .nil => .nil
  | .node i l s => if i = x then s else .node i (l.cut x) (s.cut x)
def BT.sub (x : Nat) : BT → BT
  | .nil => .nil
  | .node i l s => if i = x then l else if x ∈ l.ids then l.sub x else s.sub x
theorem BT.cut_out {x : Nat} : ∀ {t : BT}, x ∉ t.ids → t.cut x = t
  | .nil, _ => rfl
  | .node i l s, h => by
    simp only [BT.ids, List.mem_cons, List.mem_append, not_or] at h
    simp only [BT.cut]
    rw [if_neg (fun e => h.1 e.symm), BT.cut_out h.2.1, BT.cut_out h.2.2]
theorem BT.cut_perm {x : Nat} : ∀ {t : BT}, t.ids.Nodup → x ∈ t.ids → (x :: (t.sub x).ids ++ (t.cut x).ids).Perm t.ids
  | .nil, _, h => by cases h
  | .node i l s, hn, h => by
    simp only [BT.ids, List.nodup_cons, List.mem_append, not_or] at hn
    obtain ⟨⟨h1, h2⟩, h3⟩ := hn
    rw [List.nodup_append] at h3
    obtain ⟨nl, ns, hd⟩ := h3
    simp only [BT.cut, BT.sub]
    by_cases hi : i = x
    · rw [if_pos hi, if_pos hi, hi]
      simp [BT.ids]
    · rw [if_neg hi, if_neg hi]
      by_cases hl : x ∈ l.ids
      · rw [if_pos hl]
        have hs : x ∉ s.ids := fun e => hd x hl x e rfl
        have ih := BT.cut_perm nl hl
        rw [BT.cut_out hs]
        simp only [BT.ids]
        refine (List.perm_middle (l₁ := x :: (l.sub x).ids)).trans (List.Perm.cons _ ?_)
        rw [← List.append_assoc]
        exact ih.append_right _
      · rw [if_neg hl]
        have hs : x ∈ s.ids := by
          simp only [BT.ids, List.mem_cons, List.mem_append] at h
          rcases h with h | h | h
          · exact absurd h.symm hi
          · exact absurd h hl
          · exact h
        have ih := BT.cut_perm ns hs
        rw [BT.cut_out hl]
        simp only [BT.ids]
        refine (List.perm_middle (l₁ := x :: (s.sub x).ids)).trans (List.Perm.cons _ ?_)
        refine List.Perm.trans ?_ (ih.append_left l.ids)
        rw [← List.append_assoc, ← List.append_assoc]
        exact (List.perm_append_comm (l₁ := x :: (s.sub x).ids) (l₂ := l.ids)).append_right _
theorem HOk.cut {tm : Nat → Timer} {x : Nat} : ∀ {t : BT}, HOk tm t → t.ids.Nodup → HOk tm (t.cut x)
  | .nil, h, _ => h
  | .node i l s, ⟨h1, h2, h3⟩, hn => by
    simp only [BT.ids, List.nodup_cons, List.mem_append, not_or] at hn
    obtain ⟨_, h5⟩ := hn
    rw [List.nodup_append] at h5
    simp only [BT.cut]
    by_cases hi : i = x
    · rw [if_pos hi]; exact h3
    · rw [if_neg hi]
      refine ⟨fun j hj => h1 j ?_, h2.cut h5.1, h3.cut h5.2.1⟩
      by_cases hl : x ∈ l.ids
      · exact (BT.cut_perm h5.1 hl).mem_iff.1 (by simp [hj])
      · rwa [BT.cut_out hl] at hj
theorem HOk.sub {tm : Nat → Timer} {x : Nat} : ∀ {t : BT}, HOk tm t → x ∈ t.ids → HOk tm (.node x (t.sub x) .nil)
  | .nil, _, h => by cases h
  | .node i l s, ⟨h1, h2, h3⟩, h => by
    simp only [BT.sub]
    by_cases hi : i = x
    · rw [if_pos hi]
      subst hi
      exact ⟨h1, h2, trivial⟩
    · rw [if_neg hi]
      by_cases hl : x ∈ l.ids
      · rw [if_pos hl]; exact h2.sub hl
      · rw [if_neg hl]
        refine h3.sub ?_
        simp only [BT.ids, List.mem_cons, List.mem_append] at h
        rcases h with h | h | h
        · exact absurd h.symm hi
        · exact absurd h hl
        · exact h
/-- The ways behind a cut at x (not at the top). -/
def cutF (f : Lk) (x : Nat) : Lk :=
  let p := (f.bk x).getD 0
  { bl := if f.bl p = some x then updO f.bl p (f.bs x) else f.bl,
    bs := updO (if f.bl p = some x then f.bs else updO f.bs p (f.bs x)) x none,
    bk := updO (match f.bs x with | some y => updO f.bk y (f.bk x) | none => f.bk) x none }
theorem cutF_eq {f : Lk} {x i : Nat} (hx : i ≠ x) (hp : f.bk x ≠ some i) (hy : f.bs x ≠ some i) (hb : f.bk x ≠ none) : f.Eq (cutF f x) i := by
  cases hk : f.bk x with
  | none => exact absurd hk hb
  | some p =>
    have hip : i ≠ p := fun e => hp (by rw [hk, e])
    unfold cutF
    simp only [hk, Option.getD_some]
    refine ⟨?_, ?_, ?_⟩
    · show (if f.bl p = some x then updO f.bl p (f.bs x) else f.bl) i = f.bl i
      split
      · exact updO_ne _ _ hip
      · rfl
    · show updO (if f.bl p = some x then f.bs else updO f.bs p (f.bs x)) x none i = f.bs i
      rw [updO_ne _ _ hx]
      split
      · rfl
      · exact updO_ne _ _ hip
    · show updO (match f.bs x with | some y => updO f.bk y (some p) | none => f.bk) x none i = f.bk i
      rw [updO_ne _ _ hx]
      cases hs : f.bs x with
      | none => rfl
      | some y => exact updO_ne _ _ fun e => hy (by rw [hs, e])
/-- Where the ways of an inner node lead. -/
theorem Rep.ways {f : Lk} {x : Nat} : ∀ {t : BT} {b r : Option Nat}, Rep f b t r → x ∈ t.ids → (∀ y, f.bl x = some y → y ∈ t.ids) ∧ (∀ y, f.bs x = some y → y ∈ t.ids) ∧ (r ≠ some x → ∃ p ∈ t.ids, f.bk x = some p)
  | .nil, _, _, _, h => by cases h
  | .node i l s, b, r, ⟨hr, hk, hl, hs⟩, h => by
    simp only [BT.ids, List.mem_cons, List.mem_append] at h
    rcases h with rfl | h | h
    · refine ⟨fun y e => ?_, fun y e => ?_, fun e => absurd hr e⟩
      · rw [e] at hl; simp [BT.ids, hl.in_]
      · rw [e] at hs; simp [BT.ids, hs.in_]
    · obtain ⟨a1, a2, a3⟩ := hl.ways h
      refine ⟨fun y e => by simp [BT.ids, a1 y e], fun y e => by simp [BT.ids, a2 y e], fun _ => ?_⟩
      by_cases e : f.bl i = some x
      · rw [e] at hl
        cases l with
        | nil => cases h
        | node j l1 s1 =>
          obtain ⟨e1, e2, _⟩ := hl
          injection e1 with e1
          subst e1
          exact ⟨i, by simp [BT.ids], e2⟩
      · obtain ⟨p, hp, e2⟩ := a3 e
        exact ⟨p, by simp [BT.ids, hp], e2⟩
    · obtain ⟨a1, a2, a3⟩ := hs.ways h
      refine ⟨fun y e => by simp [BT.ids, a1 y e], fun y e => by simp [BT.ids, a2 y e], fun _ => ?_⟩
      by_cases e : f.bs i = some x
      · rw [e] at hs
        cases s with
        | nil => cases h
        | node j l1 s1 =>
          obtain ⟨e1, e2, _⟩ := hs
          injection e1 with e1
          subst e1
          exact ⟨i, by simp [BT.ids], e2⟩
      · obtain ⟨p, hp, e2⟩ := a3 e
        exact ⟨p, by simp [BT.ids, hp], e2⟩
theorem cut_rep {f : Lk} {x : Nat} : ∀ {t : BT} {b r : Option Nat}, Rep f b t r → t.ids.Nodup → x ∈ t.ids → r ≠ some x →
    Rep (cutF f x) b (t.cut x) r ∧ Rep (cutF f x) none (.node x (t.sub x) .nil) (some x) ∧ ∀ i, i ∉ t.ids → f.Eq (cutF f x) i
  | .nil, _, _, _, _, h, _ => by cases h
  | .node i l s, b, r, hR, hn, h, hr => by
    obtain ⟨w1, w2, w3⟩ := hR.ways h
    obtain ⟨p, hp, hkp⟩ := w3 hr
    have hout : ∀ j, j ∉ (BT.node i l s).ids → f.Eq (cutF f x) j := fun j hj => cutF_eq (fun e => hj (e ▸ h)) (fun e => hj (by rw [hkp] at e; injection e with e; exact e ▸ hp)) (fun e => hj (w2 j e)) (by rw [hkp]; exact fun e => by cases e)
    obtain ⟨rfl, hk, hl, hs⟩ := hR
    have hxi : i ≠ x := fun e => hr (by rw [e])
    simp only [BT.ids, List.nodup_cons, List.mem_append, not_or] at hn
    obtain ⟨⟨il, is⟩, h3⟩ := hn
    rw [List.nodup_append] at h3
    obtain ⟨nl, ns, hd⟩ := h3
    simp only [BT.cut, BT.sub]
    rw [if_neg hxi, if_neg hxi]
    by_cases hxl : x ∈ l.ids
    · rw [if_pos hxl]
      have hxs : x ∉ s.ids := fun e => hd x hxl x e rfl
      rw [BT.cut_out hxs]
      obtain ⟨v1, v2, v3⟩ := hl.ways hxl
      by_cases e : f.bl i = some x
      · cases l with
        | nil => cases hxl
        | node j lx sx =>
          rw [e] at hl
          obtain ⟨e1, e2, hlx, hsx⟩ := hl
          injection e1 with e1
          subst e1
          simp only [BT.ids, List.nodup_cons, List.mem_append, not_or, List.mem_cons] at nl il
          obtain ⟨⟨xl, xs⟩, nn⟩ := nl
          rw [List.nodup_append] at nn
          obtain ⟨nlx, nsx, hdx⟩ := nn
          have hy : ∀ y, f.bs x = some y → y ∈ sx.ids := fun y q => by rw [q] at hsx; exact hsx.in_
          have E : ∀ q, q ≠ x → q ≠ i → q ∉ sx.ids → f.Eq (cutF f x) q := fun q q1 q2 q3 => cutF_eq q1 (fun q4 => q2 (by rw [e2] at q4; injection q4 with q4; exact q4.symm)) (fun q4 => q3 (hy q q4)) (by rw [e2]; exact fun q => by cases q)
          have Bi : (cutF f x).bl i = f.bs x := by
            simp only [cutF, e2, Option.getD_some, e, if_true]
            exact updO_at _ _ _
          have Si : (cutF f x).bs i = f.bs i := by
            simp only [cutF, e2, Option.getD_some, e, if_true]
            exact updO_ne _ _ hxi
          have Ki : (cutF f x).bk i = f.bk i := by
            simp only [cutF]
            rw [updO_ne _ _ hxi]
            cases q : f.bs x with
            | none => rfl
            | some y => exact updO_ne _ _ fun q2 => il.2.2 (q2 ▸ hy y q)
          refine ⟨⟨rfl, Ki.trans hk, ?_, ?_⟩, ⟨rfl, ?_, ?_, ?_⟩, hout⟩
          · rw [Bi]
            simp only [BT.cut, if_true]
            refine hsx.back nsx (fun q hq => ?_) (fun q hq q2 => ?_) (fun q hq => ?_)
            · have q1 : q ≠ x := fun z => xs (z ▸ hq)
              have q2 : q ≠ i := fun z => il.2.2 (z ▸ hq)
              simp only [cutF, e2, Option.getD_some, e, if_true]
              exact ⟨updO_ne _ _ q2, updO_ne _ _ q1⟩
            · have q1 : q ≠ x := fun z => xs (z ▸ hq)
              simp only [cutF]
              rw [updO_ne _ _ q1]
              cases z : f.bs x with
              | none => rfl
              | some y => exact updO_ne _ _ fun z2 => q2 (by rw [z, z2])
            · have q1 : q ≠ x := fun z => xs (z ▸ hy q hq)
              simp only [cutF]
              rw [updO_ne _ _ q1, hq]
              simp only []
              rw [updO_at, e2]
          · rw [Si]
            exact hs.congr fun q hq => E q (fun z => hxs (z ▸ hq)) (fun z => is (z ▸ hq)) fun z => hd q (by simp [BT.ids, z]) q hq rfl
          · simp only [cutF]; exact updO_at _ _ _
          · simp only [BT.sub, if_true]
            have Bx : (cutF f x).bl x = f.bl x := by
              simp only [cutF, e2, Option.getD_some, e, if_true]
              exact updO_ne _ _ hxi.symm
            rw [Bx]
            exact hlx.congr fun q hq => E q (fun z => xl (z ▸ hq)) (fun z => il.2.1 (z ▸ hq)) fun z => hdx q hq q z rfl
          · simp only [cutF]; exact updO_at _ _ _
      · obtain ⟨ih1, ih2, ih3⟩ := cut_rep hl nl hxl e
        have ei := ih3 i il
        refine ⟨⟨rfl, ei.2.2.trans hk, by rw [ei.1]; exact ih1, ?_⟩, ih2, hout⟩
        rw [ei.2.1]
        exact hs.congr fun q hq => ih3 q fun z => hd q z q hq rfl
    · rw [if_neg hxl]
      have hxs : x ∈ s.ids := by
        simp only [BT.ids, List.mem_cons, List.mem_append] at h
        rcases h with h | h | h
        · exact absurd h.symm hxi
        · exact absurd h hxl
        · exact h
      rw [BT.cut_out hxl]
      have hbl : f.bl i ≠ some x := fun e => hxl (by rw [e] at hl; exact hl.in_)
      by_cases e : f.bs i = some x
      · cases s with
        | nil => cases hxs
        | node j lx sx =>
          rw [e] at hs
          obtain ⟨e1, e2, hlx, hsx⟩ := hs
          injection e1 with e1
          subst e1
          simp only [BT.ids, List.nodup_cons, List.mem_append, not_or, List.mem_cons] at ns is
          obtain ⟨⟨xl, xs⟩, nn⟩ := ns
          rw [List.nodup_append] at nn
          obtain ⟨nlx, nsx, hdx⟩ := nn
          have hy : ∀ y, f.bs x = some y → y ∈ sx.ids := fun y q => by rw [q] at hsx; exact hsx.in_
          have E : ∀ q, q ≠ x → q ≠ i → q ∉ sx.ids → f.Eq (cutF f x) q := fun q q1 q2 q3 => cutF_eq q1 (fun q4 => q2 (by rw [e2] at q4; injection q4 with q4; exact q4.symm)) (fun q4 => q3 (hy q q4)) (by rw [e2]; exact fun q => by cases q)
          have Bi : (cutF f x).bl i = f.bl i := by
            simp only [cutF, e2, Option.getD_some, hbl, if_false]
          have Si : (cutF f x).bs i = f.bs x := by
            simp only [cutF, e2, Option.getD_some, hbl, if_false]
            rw [updO_ne _ _ hxi, updO_at]
          have Ki : (cutF f x).bk i = f.bk i := by
            simp only [cutF]
            rw [updO_ne _ _ hxi]
            cases q : f.bs x with
            | none => rfl
            | some y => exact updO_ne _ _ fun q2 => is.2.2 (q2 ▸ hy y q)
          refine ⟨⟨rfl, Ki.trans hk, ?_, ?_⟩, ⟨rfl, ?_, ?_, ?_⟩, hout⟩
          · rw [Bi]
            exact hl.congr fun q hq => E q (fun z => hxl (z ▸ hq)) (fun z => il (z ▸ hq)) fun z => hd q hq q (by simp [BT.ids, z]) rfl
          · rw [Si]
            simp only [BT.cut, if_true]
            refine hsx.back nsx (fun q hq => ?_) (fun q hq q2 => ?_) (fun q hq => ?_)
            · have q1 : q ≠ x := fun z => xs (z ▸ hq)
              have q2 : q ≠ i := fun z => is.2.2 (z ▸ hq)
              simp only [cutF, e2, Option.getD_some, hbl, if_false]
              exact ⟨trivial, by rw [updO_ne _ _ q1, updO_ne _ _ q2]⟩
            · have q1 : q ≠ x := fun z => xs (z ▸ hq)
              simp only [cutF]
              rw [updO_ne _ _ q1]
              cases z : f.bs x with
              | none => rfl
              | some y => exact updO_ne _ _ fun z2 => q2 (by rw [z, z2])
            · have q1 : q ≠ x := fun z => xs (z ▸ hy q hq)
              simp only [cutF]
              rw [updO_ne _ _ q1, hq]
              simp only []
              rw [updO_at, e2]
          · simp only [cutF]; exact updO_at _ _ _
          · simp only [BT.sub, if_true]
            have Bx : (cutF f x).bl x = f.bl x := by
              simp only [cutF, e2, Option.getD_some, hbl, if_false]
            rw [Bx]
            exact hlx.congr fun q hq => E q (fun z => xl (z ▸ hq)) (fun z => is.2.1 (z ▸ hq)) fun z => hdx q hq q z rfl
          · simp only [cutF]; exact updO_at _ _ _
      · obtain ⟨ih1, ih2, ih3⟩ := cut_rep hs ns hxs e
        have ei := ih3 i is
        refine ⟨⟨rfl, ei.2.2.trans hk, ?_, by rw [ei.2.1]; exact ih1⟩, ih2, hout⟩
        rw [ei.1]
        exact hl.congr fun q hq => ih3 q fun z => hd q hq q z rfl
end Go.Proofs.Ytpbepmipfjcjbaa
namespace Go.Proofs.Ytpbepmipfjcjbaa
/-- All that pend stand in the trees of L, each once. -/
structure PF (P : Nat) (on : Nat → Bool) (tm : Nat → Timer) (f : Lk) (L : List (Nat × BT)) : Prop where
  fr : Forest f tm L
  mem : ∀ i, i ∈ fids L ↔ i < P ∧ on i = true
theorem fids_cons (x : Nat) (s : BT) (C : List (Nat × BT)) : fids ((x, s) :: C) = x :: s.ids ++ fids C := by simp [fids]
theorem fids_append (A C : List (Nat × BT)) : fids (A ++ C) = fids A ++ fids C := by simp [fids]
section
variable {P : Nat} {on : Nat → Bool} {tm : Nat → Timer} {f : Lk} {L C : List (Nat × BT)}
theorem PF.new (P : Nat) (tm : Nat → Timer) (f : Lk) : PF P (fun _ => false) tm f [] := ⟨⟨fun _ h => (by cases h), by simp [fids], fun _ h => (by cases h)⟩, fun i => by simp [fids]⟩
theorem PF.perm (h : PF P on tm f L) (p : L.Perm C) : PF P on tm f C := ⟨h.fr.perm p, fun i => (fids_perm p).mem_iff.symm.trans (h.mem i)⟩
theorem PF.meld {a b : Nat × BT} (h : PF P on tm f (a :: b :: C)) : PF P on tm (meldL tm f a.1 b.1) (meldT tm a b :: C) ∧ ∀ i, i ∉ fids (a :: b :: C) → f.Eq (meldL tm f a.1 b.1) i := by
  obtain ⟨h1, h2, h3⟩ := h.fr.meld
  exact ⟨⟨h1, fun i => h2.mem_iff.trans (h.mem i)⟩, h3⟩
/-- A new node, by itself. -/
def newF (f : Lk) (i : Nat) : Lk := { bl := updO f.bl i none, bs := updO f.bs i none, bk := updO f.bk i none }
theorem newF_eq {f : Lk} {i j : Nat} (h : j ≠ i) : f.Eq (newF f i) j := ⟨updO_ne _ _ h, updO_ne _ _ h, updO_ne _ _ h⟩
theorem PF.add (h : PF P on tm f L) {i : Nat} (t : Timer) (hi : i < P) (hoff : on i = false) : PF P (updB on i true) (updT tm i t) (newF f i) ((i, .nil) :: L) := by
  have hni : i ∉ fids L := fun e => by have := ((h.mem i).1 e).2; rw [hoff] at this; cases this
  have hne : ∀ j ∈ fids L, j ≠ i := fun j hj e => hni (e ▸ hj)
  refine ⟨⟨fun p hp => ?_, ?_, fun p hp => ?_⟩, fun j => ?_⟩
  · rcases List.mem_cons.1 hp with rfl | hp
    · exact ⟨rfl, updO_at _ _ _, updO_at _ _ _, updO_at _ _ _⟩
    · exact (h.fr.rep p hp).congr fun j hj => newF_eq (hne j (List.mem_flatMap.2 ⟨p, hp, by simpa [BT.ids] using hj⟩))
  · rw [fids_cons]
    simp only [BT.ids, List.singleton_append, List.nodup_cons]
    exact ⟨hni, h.fr.nd⟩
  · rcases List.mem_cons.1 hp with rfl | hp
    · exact ⟨fun j hj => (by cases hj), trivial, trivial⟩
    · exact (h.fr.ok p hp).congr fun j hj => updT_ne _ _ (hne j (List.mem_flatMap.2 ⟨p, hp, by simpa [BT.ids] using hj⟩))
  · rw [fids_cons]
    simp only [BT.ids, List.singleton_append, List.mem_cons, h.mem]
    by_cases e : j = i
    · subst e
      simp [hi, updB_at]
    · simp [e, updB_ne _ _ e]
/-- A node by itself goes. -/
theorem PF.gone {x : Nat} (h : PF P on tm f ((x, .nil) :: C)) : PF P (updB on x false) tm f C := by
  have hnd := h.fr.nd
  rw [fids_cons] at hnd
  simp only [BT.ids, List.singleton_append, List.nodup_cons] at hnd
  refine ⟨⟨fun p hp => h.fr.rep p (by simp [hp]), hnd.2, fun p hp => h.fr.ok p (by simp [hp])⟩, fun j => ?_⟩
  have hm := h.mem j
  rw [fids_cons] at hm
  simp only [BT.ids, List.singleton_append, List.mem_cons] at hm
  by_cases e : j = x
  · subst e
    simp [hnd.1, updB_at]
  · rw [updB_ne _ _ e]
    rw [← hm]
    simp [e]
/-- A tree's top gets another timer. -/
theorem PF.retime {x : Nat} {s : BT} {t : Timer} (h : PF P on tm f ((x, s) :: C)) (ht : ∀ j ∈ s.ids, (tm j).lt t = false) : PF P on (updT tm x t) f ((x, s) :: C) := by
  have hnd := h.fr.nd
  rw [fids_cons, List.nodup_append, List.nodup_cons] at hnd
  obtain ⟨⟨n1, n2⟩, n3, n4⟩ := hnd
  refine ⟨⟨h.fr.rep, h.fr.nd, fun p hp => ?_⟩, h.mem⟩
  rcases List.mem_cons.1 hp with rfl | hp
  · obtain ⟨o1, o2, o3⟩ := h.fr.ok (x, s) (by simp)
    refine ⟨fun j hj => ?_, o2.congr fun j hj => updT_ne _ _ fun e => n1 (e ▸ hj), trivial⟩
    rw [updT_at, updT_ne _ _ (show j ≠ x from fun e => n1 (e ▸ hj))]
    exact ht j hj
  · exact (h.fr.ok p (by simp [hp])).congr fun j hj => updT_ne _ _ fun e => n4 x (by simp) j (List.mem_flatMap.2 ⟨p, hp, by simpa [BT.ids] using hj⟩) e.symm
theorem PF.in_ (h : PF P on tm f L) {i : Nat} (hi : i < P) (ho : on i = true) : i ∈ fids L := (h.mem i).2 ⟨hi, ho⟩
/-- Below a tree's top none is ahead of it. -/
theorem PF.top {r : Nat} {s : BT} (h : PF P on tm f [(r, s)]) {i : Nat} (hi : i < P) (ho : on i = true) : (tm i).lt (tm r) = false := by
  have hm := h.in_ hi ho
  rw [fids_cons] at hm
  simp only [fids, List.flatMap_nil, List.append_nil, List.mem_cons] at hm
  rcases hm with rfl | hm
  · exact Timer.lt_irrefl _
  · exact (h.fr.ok (r, s) (by simp)).1 i hm
theorem PF.none_ (h : PF P on tm f []) {i : Nat} (hi : i < P) : on i = false := by
  cases e : on i with
  | false => rfl
  | true => have := h.in_ hi e; simp [fids] at this
/-- The first one that pends is the top. -/
theorem PF.head {r : Nat} {s : BT} {m : List Timer} (h : PF P on tm f [(r, s)]) (hp : PRel P on tm m) : m.head? = some (tm r) := by
  have hr := (h.mem r).1 (by simp [fids])
  have hin := hp.mem.2 ⟨r, hr.1, hr.2, rfl⟩
  cases m with
  | nil => cases hin
  | cons y m =>
    obtain ⟨j, hj, hoj, ej⟩ := hp.mem.1 (show y ∈ y :: m by simp)
    have h1 := h.top hj hoj
    rw [ej] at h1
    rcases List.mem_cons.1 hin with e | e
    · rw [List.head?_cons, e]
    · have h2 := (List.pairwise_cons.1 hp.srt).1 _ e
      rw [List.head?_cons, Timer.lt_total h1 h2]
theorem PF.head_none {m : List Timer} (h : PF P on tm f []) (hp : PRel P on tm m) : m = [] := by
  cases m with
  | nil => rfl
  | cons y m =>
    obtain ⟨j, hj, hoj, _⟩ := hp.mem.1 (show y ∈ y :: m by simp)
    rw [h.none_ hj] at hoj
    cases hoj
/-- One is cut out of the tree, with all below it. -/
theorem PF.cut {r x : Nat} {s : BT} (h : PF P on tm f [(r, s)]) (hx : x < P) (ho : on x = true) (hne : r ≠ x) :
    PF P on tm (cutF f x) [(r, s.cut x), (x, s.sub x)] ∧ (∃ p, p < P ∧ on p = true ∧ f.bk x = some p) ∧ (∀ y, f.bs x = some y → y < P ∧ on y = true) := by
  have hm := h.in_ hx ho
  rw [fids_cons] at hm
  simp only [fids, List.flatMap_nil, List.append_nil, List.mem_cons] at hm
  have hxs : x ∈ s.ids := hm.resolve_left fun e => hne e.symm
  have hnd := h.fr.nd
  rw [fids_cons] at hnd
  simp only [fids, List.flatMap_nil, List.append_nil] at hnd
  have hR := h.fr.rep (r, s) (by simp)
  have hn2 : (BT.node r s .nil).ids.Nodup := by simpa [BT.ids] using hnd
  have hx2 : x ∈ (BT.node r s .nil).ids := by simp [BT.ids, hxs]
  have hall : ∀ i, i ∈ (BT.node r s .nil).ids → i < P ∧ on i = true := fun i hi => (h.mem i).1 (by rw [fids_cons]; simpa [BT.ids, fids] using hi)
  obtain ⟨c1, c2, _⟩ := cut_rep hR hn2 hx2 (fun e => hne (by injection e))
  obtain ⟨_, w2, w3⟩ := hR.ways hx2
  have e1 : (BT.node r s .nil).cut x = .node r (s.cut x) .nil := by simp [BT.cut, hne]
  have e2 : (BT.node r s .nil).sub x = s.sub x := by simp [BT.sub, hne, hxs]
  rw [e1] at c1
  rw [e2] at c2
  have hp := BT.cut_perm (List.nodup_cons.1 hnd).2 hxs
  have hperm : (fids [(r, s.cut x), (x, s.sub x)]).Perm (fids [(r, s)]) := by
    rw [fids_cons, fids_cons, fids_cons]
    simp only [fids, List.flatMap_nil, List.append_nil, List.cons_append]
    exact List.Perm.cons _ (List.perm_append_comm.trans hp)
  have hok := h.fr.ok (r, s) (by simp)
  refine ⟨⟨⟨fun q hq => ?_, hperm.nodup_iff.2 h.fr.nd, fun q hq => ?_⟩, fun i => hperm.mem_iff.trans (h.mem i)⟩, ?_, fun y e => hall y (w2 y e)⟩
  · simp only [List.mem_cons, List.not_mem_nil, or_false] at hq
    rcases hq with rfl | rfl
    · exact c1
    · exact c2
  · simp only [List.mem_cons, List.not_mem_nil, or_false] at hq
    rcases hq with rfl | rfl
    · refine ⟨fun j hj => hok.1 j (hp.mem_iff.1 (by simp [hj])), hok.2.1.cut (List.nodup_cons.1 hnd).2, trivial⟩
    · exact hok.2.1.sub hxs
  · obtain ⟨p, h1, h2⟩ := w3 fun e => hne (by injection e)
    exact ⟨p, (hall p h1).1, (hall p h1).2, h2⟩
set_option linter.unusedSimpArgs false in
/-- What stood below one has been set free, and put together. -/
theorem PF.freed {x : Nat} {s : BT} {g : Lk} {M : List (Nat × BT)} (h : PF P on tm f ((x, s) :: C)) (hM : Forest g tm M) (hp : (fids M).Perm s.ids) (he : ∀ i, i ∉ s.ids → f.Eq g i) :
    PF P on tm { g with bl := updO g.bl x none } ((x, .nil) :: (C ++ M)) := by
  have hnd := h.fr.nd
  rw [fids_cons, List.nodup_append, List.nodup_cons] at hnd
  obtain ⟨⟨n1, n2⟩, n3, n4⟩ := hnd
  have hperm : (fids ((x, .nil) :: (C ++ M))).Perm (fids ((x, s) :: C)) := by
    rw [fids_cons, fids_cons, fids_append]
    simp only [BT.ids, List.singleton_append, List.cons_append, List.nil_append, List.append_nil]
    exact List.Perm.cons _ (List.perm_append_comm.trans (hp.append_right _))
  have hxE : ∀ i, i ≠ x → g.Eq { g with bl := updO g.bl x none } i := fun i hi => ⟨updO_ne _ _ hi, rfl, rfl⟩
  have hC : ∀ p ∈ C, ∀ j ∈ (BT.node p.1 p.2 .nil).ids, j ∉ s.ids ∧ j ≠ x := fun p hp j hj => by
    have hj' : j ∈ fids C := List.mem_flatMap.2 ⟨p, hp, by simpa [BT.ids] using hj⟩
    exact ⟨fun e => n4 j (by simp [e]) j hj' rfl, fun e => n4 x (by simp) j hj' e.symm⟩
  refine ⟨⟨fun p hp' => ?_, hperm.nodup_iff.2 h.fr.nd, fun p hp' => ?_⟩, fun i => hperm.mem_iff.trans (h.mem i)⟩
  · rcases List.mem_cons.1 hp' with rfl | hp'
    · obtain ⟨_, x1, _, x3⟩ := h.fr.rep (x, s) (by simp)
      have e := he x n1
      exact ⟨rfl, e.2.2.trans x1, updO_at _ _ _, e.2.1.trans x3⟩
    · rcases List.mem_append.1 hp' with hp' | hp'
      · exact (h.fr.rep p (by simp [hp'])).congr fun j hj => (he j (hC p hp' j hj).1).trans (hxE j (hC p hp' j hj).2)
      · refine (hM.rep p hp').congr fun j hj => hxE j fun e => n1 ?_
        rw [← e]
        exact hp.mem_iff.1 (List.mem_flatMap.2 ⟨p, hp', by simpa [BT.ids] using hj⟩)
  · rcases List.mem_cons.1 hp' with rfl | hp'
    · exact ⟨fun j hj => (by cases hj), trivial, trivial⟩
    · rcases List.mem_append.1 hp' with hp' | hp'
      · exact h.fr.ok p (by simp [hp'])
      · exact hM.ok p hp'
/-- The start of what is set free: what stands below one. -/
theorem PF.half {x : Nat} {s : BT} (h : PF P on tm f ((x, s) :: C)) : Half f tm [] (some x) s (f.bl x) := by
  obtain ⟨_, _, h2, _⟩ := h.fr.rep (x, s) (by simp)
  have hnd := h.fr.nd
  rw [fids_cons, List.nodup_append, List.nodup_cons] at hnd
  exact ⟨⟨fun _ h => (by cases h), by simp [fids], fun _ h => (by cases h)⟩, h2, by simpa [fids] using hnd.1.2, (h.fr.ok (x, s) (by simp)).2.1⟩
end
/-- Those due are taken one by one, the first one first. -/
theorem due_first {m : List Timer} {now : Int} (hs : Srt m) : (∀ x, m.head? = some x → now < x.at_) → dueL m now true = [] ∧ dueL m now false = m := by
  intro hh
  have hall : ∀ x ∈ m, now < x.at_ := by
    cases m with
    | nil => simp
    | cons y m =>
      have hy := hh y rfl
      intro x hx
      rcases List.mem_cons.1 hx with rfl | hx
      · exact hy
      · have := (List.pairwise_cons.1 hs).1 x hx
        have h2 : ¬ x.lt y = true := by rw [this]; decide
        rw [Timer.lt_iff] at h2
        omega
  constructor
  · exact List.filter_eq_nil_iff.2 fun x hx => by have := hall x hx; simp; omega
  · exact List.filter_eq_self.2 fun x hx => by have := hall x hx; simp; omega
theorem due_next {x : Timer} {m : List Timer} {now : Int} (h : x.at_ ≤ now) : dueL (x :: m) now true = x :: dueL m now true ∧ dueL (x :: m) now false = dueL m now false := by simp [dueL, h]
/-- Behind the first one's cancel the rest is left. -/
theorem without_head {P : Nat} {on : Nat → Bool} {tm : Nat → Timer} {x : Timer} {m : List Timer} (h : PRel P on tm (x :: m)) : withoutL (x :: m) x.place = m := by
  obtain ⟨i, hi, ho, rfl⟩ := h.mem.1 (show x ∈ x :: m by simp)
  have hw := h.without hi ho
  rw [h.place i hi ho]
  have hle : (withoutL (tm i :: m) i) = m.filter fun y => decide (y.place ≠ (i : Int)) := by
    unfold withoutL
    rw [List.filter_cons_of_neg (by simp [h.place i hi ho])]
  rw [hle]
  refine List.filter_eq_self.2 fun y hy => ?_
  obtain ⟨j, hj, hoj, rfl⟩ := h.mem.1 (show y ∈ tm i :: m by simp [hy])
  rw [h.place j hj hoj]
  simp only [ne_eq, decide_eq_true_eq]
  intro e
  have e' : j = i := by omega
  subst e'
  have h1 := (h.perm.trans (pend_off hi ho)).cons_inv
  obtain ⟨k, hk, hok, e3⟩ := mem_pend.1 (h1.mem_iff.1 hy)
  by_cases hkj : k = j
  · rw [hkj, updB_at] at hok; cases hok
  · rw [updB_ne _ _ hkj] at hok
    have p1 := h.place k hk hok
    rw [e3, h.place j hj ho] at p1
    omega
end Go.Proofs.Ytpbepmipfjcjbaa
namespace Go.Proofs.Ytpbepmipfjcjbaa
open Go.RowKit
/-- A way to a place's node. -/
def ptrN (nd : Nat → Nat) : Option Nat → Value
  | none => .pointer none
  | some j => .pointer (some ⟨nd j, 0, none⟩)
/-- A node's cells. -/
def ndC (nd : Nat → Nat) (f : Lk) (t : Timer) (i : Nat) : Array Value := #[.int .u64 t.at_, .int .u64 t.seq, .int .i64 t.place, ptrN nd (f.bl i), ptrN nd (f.bs i), ptrN nd (f.bk i)]
/-- The nodes of the places of V lie in memory. -/
structure NM (w : World) (V : Nat → Prop) (nd : Nat → Nat) (tm : Nat → Timer) (f : Lk) : Prop where
  blk : ∀ i, V i → Blk w (nd i) 82 (ndC nd f (tm i) i)
  inj : ∀ i j, V i → V j → nd i = nd j → i = j
/-- The nodes' blocks. -/
def NB (V : Nat → Prop) (nd : Nat → Nat) (g : Nat) : Prop := ∃ i, V i ∧ nd i = g
section
variable {w w' : World} {V V' : Nat → Prop} {nd : Nat → Nat} {tm tm' : Nat → Timer} {f f' : Lk}
theorem NM.below (h : NM w V nd tm f) (k : Below w.heap.size w w') : NM w' V nd tm f := ⟨fun i hi => (h.blk i hi).below k (h.blk i hi).lt, h.inj⟩
theorem NM.drew (h : NM w V nd tm f) : NM w.drew V nd tm f := h.below (Below.refl _ _).drew
theorem NM.chg (h : NM w V nd tm f) {T : Nat → Prop} (k : Chg T w w') (hT : ∀ i, V i → ¬ T (nd i)) : NM w' V nd tm f := ⟨fun i hi => (h.blk i hi).chg k (hT i hi), h.inj⟩
theorem NM.sub (h : NM w V nd tm f) (hV : ∀ i, V' i → V i) : NM w V' nd tm f := ⟨fun i hi => h.blk i (hV i hi), fun i j hi hj => h.inj i j (hV i hi) (hV j hj)⟩
theorem NM.lt (h : NM w V nd tm f) {i : Nat} (hi : V i) : nd i < w.heap.size := (h.blk i hi).lt
/-- One node is written, the others stay. -/
theorem NM.upd (h : NM w V nd tm f) {i : Nat} (hi : V i) (hb : Blk w' (nd i) 82 (ndC nd f' (tm' i) i)) (hk : Chg (fun g => g = nd i) w w') (he : ∀ j, j ≠ i → f.Eq f' j) (ht : ∀ j, j ≠ i → tm' j = tm j) : NM w' V nd tm' f' := by
  refine ⟨fun j hj => ?_, h.inj⟩
  by_cases e : j = i
  · subst e; exact hb
  · have hne : ¬ nd j = nd i := fun x => e (h.inj j i hj hi x)
    have := (h.blk j hj).chg hk hne
    have ee := he j e
    have : ndC nd f' (tm' j) j = ndC nd f (tm j) j := by unfold ndC; rw [ht j e, ee.1, ee.2.1, ee.2.2]
    rw [this]
    assumption
theorem chg_cell (w : World) (x k : Nat) (v : Value) : Chg (fun g => g = x) w (w.setCell ⟨x, k, none⟩ v) := Chg.setCell (S := fun g => g = x) (Chg.refl _ w) (p := ⟨x, k, none⟩) (fun _ => rfl) v
theorem NM.bl (h : NM w V nd tm f) {i : Nat} (hi : V i) (v : Option Nat) : NM (w.setCell ⟨nd i, 3, none⟩ (ptrN nd v)) V nd tm { f with bl := updO f.bl i v } := by
  refine h.upd hi ?_ (chg_cell _ _ _ _) (fun j hj => ⟨updO_ne _ _ hj, rfl, rfl⟩) fun _ _ => rfl
  have := (h.blk i hi).put 3 (ptrN nd v)
  simpa [ndC, updO_at] using this
theorem NM.bs (h : NM w V nd tm f) {i : Nat} (hi : V i) (v : Option Nat) : NM (w.setCell ⟨nd i, 4, none⟩ (ptrN nd v)) V nd tm { f with bs := updO f.bs i v } := by
  refine h.upd hi ?_ (chg_cell _ _ _ _) (fun j hj => ⟨rfl, updO_ne _ _ hj, rfl⟩) fun _ _ => rfl
  have := (h.blk i hi).put 4 (ptrN nd v)
  simpa [ndC, updO_at] using this
theorem NM.bk (h : NM w V nd tm f) {i : Nat} (hi : V i) (v : Option Nat) : NM (w.setCell ⟨nd i, 5, none⟩ (ptrN nd v)) V nd tm { f with bk := updO f.bk i v } := by
  refine h.upd hi ?_ (chg_cell _ _ _ _) (fun j hj => ⟨rfl, rfl, updO_ne _ _ hj⟩) fun _ _ => rfl
  have := (h.blk i hi).put 5 (ptrN nd v)
  simpa [ndC, updO_at] using this
theorem NM.time (h : NM w V nd tm f) {i : Nat} (hi : V i) (t : Timer) : NM (((w.setCell ⟨nd i, 0, none⟩ (.int .u64 t.at_)).setCell ⟨nd i, 1, none⟩ (.int .u64 t.seq)).setCell ⟨nd i, 2, none⟩ (.int .i64 t.place)) V nd (updT tm i t) f := by
  have hk := ((Chg.refl (fun g => g = nd i) w).setCell (p := ⟨nd i, 0, none⟩) (fun _ => rfl) (.int .u64 t.at_)).setCell (p := ⟨nd i, 1, none⟩) (fun _ => rfl) (.int .u64 t.seq) |>.setCell (p := ⟨nd i, 2, none⟩) (fun _ => rfl) (.int .i64 t.place)
  refine h.upd hi ?_ hk (fun j _ => Lk.Eq.refl f j) fun j hj => updT_ne _ _ hj
  have := (((h.blk i hi).put 0 (.int .u64 t.at_)).put 1 (.int .u64 t.seq)).put 2 (.int .i64 t.place)
  simpa [ndC, updT_at] using this
/-- A new node: its block is new. -/
def updN (nd : Nat → Nat) (i v : Nat) : Nat → Nat := fun k => if k = i then v else nd k
theorem updN_at (nd : Nat → Nat) (i v : Nat) : updN nd i v i = v := by simp [updN]
theorem updN_ne (nd : Nat → Nat) {i k : Nat} (v : Nat) (h : k ≠ i) : updN nd i v k = nd k := by simp [updN, h]
/-- The ways among the places of V are told alike if the places' blocks are. -/
theorem ptrN_congr {nd nd' : Nat → Nat} {o : Option Nat} (h : ∀ j, o = some j → nd' j = nd j) : ptrN nd' o = ptrN nd o := by
  cases o with
  | none => rfl
  | some j => simp [ptrN, h j rfl]
theorem NM.add (h : NM w V nd tm f) {i : Nat} (t : Timer) (hV : ∀ j, V' j ↔ j = i ∨ V j) (hi : ¬ V i) (hin : ∀ j, V j → ∀ y, (f.bl j = some y ∨ f.bs j = some y ∨ f.bk j = some y) → y ≠ i)
    {g : Nat} (hg : Blk w' g 82 #[.int .u64 t.at_, .int .u64 t.seq, .int .i64 t.place, .pointer none, .pointer none, .pointer none]) (hgn : w.heap.size ≤ g) (k : Below w.heap.size w w') : NM w' V' (updN nd i g) (updT tm i t) (newF f i) := by
  have hne : ∀ j, V j → j ≠ i := fun j hj e => hi (e ▸ hj)
  refine ⟨fun j hj => ?_, fun a b ha hb e => ?_⟩
  · rcases (hV j).1 hj with rfl | hj
    · rw [updN_at]
      simpa [ndC, newF, updO_at, updT_at, ptrN] using hg
    · have hji := hne j hj
      rw [updN_ne _ _ hji]
      have hb := (h.blk j hj).below k (h.blk j hj).lt
      have e : ndC (updN nd i g) (newF f i) (updT tm i t j) j = ndC nd f (tm j) j := by
        unfold ndC
        have ee := newF_eq (f := f) hji
        rw [updT_ne _ _ hji, ee.1, ee.2.1, ee.2.2]
        rw [ptrN_congr fun y hy => updN_ne _ _ (hin j hj y (.inl hy)), ptrN_congr fun y hy => updN_ne _ _ (hin j hj y (.inr (.inl hy))), ptrN_congr fun y hy => updN_ne _ _ (hin j hj y (.inr (.inr hy)))]
      rw [e]
      exact hb
  · rcases (hV a).1 ha with rfl | ha <;> rcases (hV b).1 hb with rfl | hb
    · rfl
    · rw [updN_at, updN_ne _ _ (hne b hb)] at e
      have := h.lt hb
      omega
    · rw [updN_at, updN_ne _ _ (hne a ha)] at e
      have := h.lt ha
      omega
    · rw [updN_ne _ _ (hne a ha), updN_ne _ _ (hne b hb)] at e
      exact h.inj a b ha hb e
end
end Go.Proofs.Ytpbepmipfjcjbaa
namespace Go.Proofs.Ytpbepmipfjcjbaa
/-- The top of at most one tree. -/
def rootL (L : List (Nat × BT)) : Option Nat := L.head?.map (·.1)
/-- What meld makes of the ways, and what it tells. -/
def meldO (tm : Nat → Timer) (f : Lk) : Option Nat → Option Nat → Lk × Option Nat
  | none, b => (f, b)
  | some a, none => (f, some a)
  | some a, some b => (meldL tm f a b, some (if (tm b).lt (tm a) = true then b else a))
section
variable {P : Nat} {on : Nat → Bool} {tm : Nat → Timer} {f g : Lk} {L A B C D M : List (Nat × BT)}
theorem meldT_fst (tm : Nat → Timer) (a b : Nat × BT) : (meldT tm a b).1 = if (tm b.1).lt (tm a.1) = true then b.1 else a.1 := by
  unfold meldT
  split <;> rfl
theorem Forest.meldO {R : List (Nat × BT)} (h : Forest f tm (A ++ B ++ R)) (hA : A.length ≤ 1) (hB : B.length ≤ 1) :
    ∃ D, D.length ≤ 1 ∧ Forest (Go.Proofs.Ytpbepmipfjcjbaa.meldO tm f (rootL A) (rootL B)).1 tm (D ++ R) ∧ rootL D = (Go.Proofs.Ytpbepmipfjcjbaa.meldO tm f (rootL A) (rootL B)).2 ∧ (fids D).Perm (fids A ++ fids B) ∧
      ∀ i, i ∉ fids A ++ fids B → f.Eq (Go.Proofs.Ytpbepmipfjcjbaa.meldO tm f (rootL A) (rootL B)).1 i := by
  match A, B with
  | [], B => exact ⟨B, hB, by simpa [rootL, Go.Proofs.Ytpbepmipfjcjbaa.meldO] using h, by simp [rootL, Go.Proofs.Ytpbepmipfjcjbaa.meldO], by simp [fids], fun i _ => Lk.Eq.refl f i⟩
  | [a], [] => exact ⟨[a], by simp, by simpa [rootL, Go.Proofs.Ytpbepmipfjcjbaa.meldO] using h, by simp [rootL, Go.Proofs.Ytpbepmipfjcjbaa.meldO], by simp [fids], fun i _ => Lk.Eq.refl f i⟩
  | [a], [b] =>
    have h' : Forest f tm (a :: b :: R) := by simpa using h
    obtain ⟨h1, h2, h3⟩ := h'.meld
    have hnd := h'.nd
    have e0 : fids (a :: b :: R) = (fids [a] ++ fids [b]) ++ fids R := by simp [fids]
    have e1 : fids (meldT tm a b :: R) = fids [meldT tm a b] ++ fids R := by simp [fids]
    refine ⟨[meldT tm a b], by simp, by simpa [rootL, Go.Proofs.Ytpbepmipfjcjbaa.meldO] using h1, by simp [rootL, Go.Proofs.Ytpbepmipfjcjbaa.meldO, meldT_fst], ?_, fun i hi => ?_⟩
    · rw [e0, e1] at h2
      exact (List.perm_append_right_iff _).1 h2
    · show f.Eq (meldL tm f a.1 b.1) i
      have ha := h'.rep a (by simp)
      have hb := h'.rep b (by simp)
      simp only [fids, List.flatMap_cons, List.flatMap_nil, List.append_nil, List.cons_append, List.mem_cons, List.mem_append, not_or] at hi
      obtain ⟨i1, i2, i3, i4⟩ := hi
      unfold meldL
      split
      · refine meldF_eq i3 i1 fun e => i4 ?_
        obtain ⟨_, _, x, _⟩ := hb
        rw [e] at x
        exact x.in_
      · refine meldF_eq i1 i3 fun e => i2 ?_
        obtain ⟨_, _, x, _⟩ := ha
        rw [e] at x
        exact x.in_
  | _ :: _ :: _, _ => simp at hA
  | [_], _ :: _ :: _ => simp at hB
theorem PF.meldO (h : PF P on tm f (A ++ B)) (hA : A.length ≤ 1) (hB : B.length ≤ 1) :
    ∃ D, D.length ≤ 1 ∧ PF P on tm (Go.Proofs.Ytpbepmipfjcjbaa.meldO tm f (rootL A) (rootL B)).1 D ∧ rootL D = (Go.Proofs.Ytpbepmipfjcjbaa.meldO tm f (rootL A) (rootL B)).2 ∧ ∀ i, ¬ (i < P ∧ on i = true) → f.Eq (Go.Proofs.Ytpbepmipfjcjbaa.meldO tm f (rootL A) (rootL B)).1 i := by
  obtain ⟨D, h1, h2, h3, h4, h5⟩ := Forest.meldO (R := []) (by simpa using h.fr) hA hB
  refine ⟨D, h1, ⟨by simpa using h2, fun i => ?_⟩, h3, fun i hi => h5 i fun e => hi ((h.mem i).1 (by rw [fids_append]; exact e))⟩
  rw [h4.mem_iff, ← fids_append]
  exact h.mem i
/-- One stands by itself, what stood below it is free: it counts no more. -/
theorem PF.out {x : Nat} {s : BT} (h : PF P on tm f ((x, s) :: C)) (hM : Forest g tm M) (hp : (fids M).Perm s.ids) (he : ∀ i, i ∉ s.ids → f.Eq g i) :
    PF P (updB on x false) tm g (C ++ M) ∧ g.bs x = none ∧ g.bk x = none := by
  have h1 := h.freed hM hp he
  have h2 := h1.gone
  have hx := h1.fr.rep (x, .nil) (by simp)
  obtain ⟨_, x1, _, x3⟩ := hx
  have hni : x ∉ fids (C ++ M) := by
    have := h1.fr.nd
    rw [fids_cons] at this
    simp only [BT.ids, List.singleton_append, List.nodup_cons] at this
    exact this.1
  exact ⟨⟨h2.fr.same fun i hi => ⟨(updO_ne _ _ (show i ≠ x from fun e => hni (e ▸ hi))).symm, rfl, rfl⟩, h2.mem⟩, x3, x1⟩
/-- Below the one that is out there is none any more. -/
theorem PF.bare {x : Nat} (h : PF P (updB on x false) tm g D) : PF P (updB on x false) tm { g with bl := updO g.bl x none } D := by
  refine ⟨h.fr.same fun i hi => ⟨updO_ne _ _ fun e => ?_, rfl, rfl⟩, h.mem⟩
  have := ((h.mem i).1 hi).2
  rw [e, updB_at] at this
  cases this
/-- It is let in again, with another timer. -/
theorem PF.again {x : Nat} (h : PF P (updB on x false) tm g D) (t : Timer) (hx : x < P) (ho : on x = true) (h1 : g.bl x = none) (h2 : g.bs x = none) (h3 : g.bk x = none) : PF P on (updT tm x t) g ((x, .nil) :: D) := by
  have hni : ∀ i, i ∈ fids D → i ≠ x := fun i hi e => by
    have := ((h.mem i).1 hi).2
    rw [e, updB_at] at this
    cases this
  refine ⟨⟨fun p hp => ?_, ?_, fun p hp => ?_⟩, fun i => ?_⟩
  · rcases List.mem_cons.1 hp with rfl | hp
    · exact ⟨rfl, h3, h1, h2⟩
    · exact h.fr.rep p hp
  · rw [fids_cons]
    simp only [BT.ids, List.singleton_append, List.nodup_cons]
    exact ⟨fun e => hni x e rfl, h.fr.nd⟩
  · rcases List.mem_cons.1 hp with rfl | hp
    · exact ⟨fun j hj => (by cases hj), trivial, trivial⟩
    · exact (h.fr.ok p hp).congr fun j hj => updT_ne _ _ (hni j (List.mem_flatMap.2 ⟨p, hp, by simpa [BT.ids] using hj⟩))
  · rw [fids_cons]
    simp only [BT.ids, List.singleton_append, List.mem_cons, h.mem]
    by_cases e : i = x
    · subst e
      simp [hx, ho]
    · simp [e, updB_ne _ _ e]
/-- A top that is cut, with all below it, moves ahead. -/
theorem PF.ahead {x : Nat} {s : BT} {t : Timer} (h : PF P on tm f ((x, s) :: C)) (ht : t.lt (tm x) = true) : PF P on (updT tm x t) f ((x, s) :: C) := by
  refine h.retime fun j hj => ?_
  have h1 := (h.fr.ok (x, s) (by simp)).1 j hj
  cases e : (tm j).lt t with
  | false => rfl
  | true => rw [Timer.lt_trans e ht] at h1; cases h1
end
/-- What stands first below a node is no top, and not the node. -/
theorem Rep.kid {f : Lk} {i c : Nat} : ∀ {t : BT} {b r : Option Nat}, Rep f b t r → t.ids.Nodup → i ∈ t.ids → f.bl i = some c → c ∈ t.ids ∧ c ≠ i ∧ r ≠ some c
  | .nil, _, _, _, _, h, _ => by cases h
  | .node j l s, b, r, ⟨hr, hk, hl, hs⟩, hn, h, e => by
    simp only [BT.ids, List.nodup_cons, List.mem_append, not_or] at hn
    obtain ⟨⟨jl, js⟩, h3⟩ := hn
    rw [List.nodup_append] at h3
    subst hr
    simp only [BT.ids, List.mem_cons, List.mem_append] at h
    rcases h with rfl | h | h
    · rw [e] at hl
      have hc := hl.in_
      have hne : c ≠ i := fun x => jl (x ▸ hc)
      exact ⟨by simp [BT.ids, hc], hne, fun x => hne (by injection x with x; exact x.symm)⟩
    · obtain ⟨a1, a2, _⟩ := hl.kid h3.1 h e
      exact ⟨by simp [BT.ids, a1], a2, fun x => jl (by injection x with x; exact x ▸ a1)⟩
    · obtain ⟨a1, a2, _⟩ := hs.kid h3.2.1 h e
      exact ⟨by simp [BT.ids, a1], a2, fun x => js (by injection x with x; exact x ▸ a1)⟩
section
variable {P : Nat} {on : Nat → Bool} {tm : Nat → Timer} {f : Lk} {L : List (Nat × BT)}
theorem PF.tree (h : PF P on tm f L) {i : Nat} (hi : i < P) (ho : on i = true) : ∃ p ∈ L, i ∈ (BT.node p.1 p.2 .nil).ids := by
  obtain ⟨p, hp, hm⟩ := List.mem_flatMap.1 (h.in_ hi ho)
  exact ⟨p, hp, by simpa [BT.ids] using hm⟩
theorem PF.live (h : PF P on tm f L) {p : Nat × BT} (hp : p ∈ L) {i : Nat} (hi : i ∈ (BT.node p.1 p.2 .nil).ids) : i < P ∧ on i = true := (h.mem i).1 (List.mem_flatMap.2 ⟨p, hp, by simpa [BT.ids] using hi⟩)
theorem PF.ways (h : PF P on tm f L) {i y : Nat} (hi : i < P ∧ on i = true) (e : f.bl i = some y ∨ f.bs i = some y ∨ f.bk i = some y) : y < P ∧ on y = true := by
  obtain ⟨p, hp, hm⟩ := h.tree hi.1 hi.2
  have hR := h.fr.rep p hp
  obtain ⟨w1, w2, w3⟩ := hR.ways hm
  rcases e with e | e | e
  · exact h.live hp (w1 y e)
  · exact h.live hp (w2 y e)
  · by_cases hr : some p.1 = some i
    · obtain ⟨_, hk, _⟩ := hR
      injection hr with hr
      rw [hr, e] at hk
      cases hk
    · obtain ⟨z, hz, e2⟩ := w3 hr
      rw [e] at e2
      injection e2 with e2
      subst e2
      exact h.live hp hz
theorem PF.kids (h : PF P on tm f L) {i c : Nat} (hi : i < P ∧ on i = true) (e : f.bl i = some c) : i ≠ c ∧ ∀ p ∈ L, c ≠ p.1 := by
  obtain ⟨p, hp, hm⟩ := h.tree hi.1 hi.2
  have hnd : (BT.node p.1 p.2 .nil).ids.Nodup := by
    obtain ⟨A, B, rfl⟩ := List.append_of_mem hp
    have := h.fr.nd
    rw [fids_append, List.nodup_append] at this
    have h2 := this.2.1
    simp only [fids, List.flatMap_cons] at h2
    simpa [BT.ids] using (List.nodup_append.1 h2).1
  obtain ⟨a1, a2, a3⟩ := (h.fr.rep p hp).kid hnd hm e
  refine ⟨a2.symm, fun q hq x => ?_⟩
  by_cases hqp : q = p
  · subst hqp
    exact a3 (by rw [x])
  · obtain ⟨A, B, rfl⟩ := List.append_of_mem hp
    have hpm := h.fr.nd
    have hperm := (fids_perm (List.perm_middle (a := p) (l₁ := A) (l₂ := B))).nodup_iff.1 hpm
    simp only [fids, List.flatMap_cons] at hperm
    have hd := (List.nodup_append.1 hperm).2.2
    have hq' : q ∈ A ++ B := by
      rcases List.mem_append.1 hq with h | h
      · exact List.mem_append_left _ h
      · rcases List.mem_cons.1 h with h | h
        · exact absurd h hqp
        · exact List.mem_append_right _ h
    exact hd c (by simpa [BT.ids] using a1) c (List.mem_flatMap.2 ⟨q, hq', by simp [x]⟩) rfl
end
/-- What stands first below a tree's top is no top, and stands in the trees. -/
theorem Forest.kid {f : Lk} {tm : Nat → Timer} {L : List (Nat × BT)} (h : Forest f tm L) {p : Nat × BT} (hp : p ∈ L) {c : Nat} (e : f.bl p.1 = some c) : c ∈ fids L ∧ p.1 ≠ c ∧ ∀ q ∈ L, c ≠ q.1 := by
  obtain ⟨A, B, rfl⟩ := List.append_of_mem hp
  have hperm := (fids_perm (List.perm_middle (a := p) (l₁ := A) (l₂ := B))).nodup_iff.1 h.nd
  simp only [fids, List.flatMap_cons] at hperm
  obtain ⟨n1, _, hd⟩ := List.nodup_append.1 hperm
  have hnd : (BT.node p.1 p.2 .nil).ids.Nodup := by simpa [BT.ids] using n1
  obtain ⟨a1, a2, _⟩ := (h.rep p hp).kid hnd (by simp [BT.ids]) e
  have a1' : c ∈ p.1 :: p.2.ids := by simpa [BT.ids] using a1
  refine ⟨List.mem_flatMap.2 ⟨p, hp, a1'⟩, a2.symm, fun q hq x => ?_⟩
  rcases List.mem_append.1 hq with hq | hq
  · exact hd c a1' c (List.mem_flatMap.2 ⟨q, List.mem_append_left _ hq, by simp [x]⟩) rfl
  · rcases List.mem_cons.1 hq with rfl | hq
    · exact a2 x
    · exact hd c a1' c (List.mem_flatMap.2 ⟨q, List.mem_append_right _ hq, by simp [x]⟩) rfl
/-- A round of pairs. -/
theorem Forest.pair {f : Lk} {tm : Nat → Timer} {out l : List (Nat × BT)} {a b : Nat × BT} (h : Forest f tm (out ++ a :: b :: l)) :
    Forest (meldL tm f a.1 b.1) tm (out ++ [meldT tm a b] ++ l) ∧ (fids (out ++ [meldT tm a b] ++ l)).Perm (fids (out ++ a :: b :: l)) ∧ ∀ i, i ∉ fids (out ++ a :: b :: l) → f.Eq (meldL tm f a.1 b.1) i := by
  have p1 : (out ++ a :: b :: l).Perm (a :: b :: (out ++ l)) := (List.perm_middle (a := a)).trans (List.Perm.cons _ List.perm_middle)
  have p2 : (meldT tm a b :: (out ++ l)).Perm (out ++ [meldT tm a b] ++ l) := by
    rw [List.append_assoc]
    exact (List.perm_middle (a := meldT tm a b) (l₁ := out) (l₂ := l)).symm
  obtain ⟨h1, h2, h3⟩ := (h.perm p1).meld
  exact ⟨h1.perm p2, (fids_perm p2).symm.trans (h2.trans (fids_perm p1).symm), fun i hi => h3 i fun e => hi ((fids_perm p1).mem_iff.2 e)⟩
theorem meldL_O (tm : Nat → Timer) (f : Lk) (a b : Nat × BT) : meldO tm f (some a.1) (some b.1) = (meldL tm f a.1 b.1, some (meldT tm a b).1) := by
  unfold meldO
  rw [meldT_fst]
/-- The last part: from the last one back into the first place. -/
theorem Forest.fold {f : Lk} {tm : Nat → Timer} {top l : List (Nat × BT)} {x : Nat × BT} (h : Forest f tm (top ++ (l ++ [x]))) (ht : top.length ≤ 1) :
    ∃ D, D.length ≤ 1 ∧ Forest (Go.Proofs.Ytpbepmipfjcjbaa.meldO tm f (rootL top) (some x.1)).1 tm (D ++ l) ∧ rootL D = (Go.Proofs.Ytpbepmipfjcjbaa.meldO tm f (rootL top) (some x.1)).2 ∧ (fids (D ++ l)).Perm (fids (top ++ (l ++ [x]))) ∧ ∀ i, i ∉ fids (top ++ (l ++ [x])) → f.Eq (Go.Proofs.Ytpbepmipfjcjbaa.meldO tm f (rootL top) (some x.1)).1 i := by
  have p1 : (top ++ (l ++ [x])).Perm (top ++ [x] ++ l) := by
    rw [List.append_assoc]
    exact List.perm_append_comm.append_left top
  obtain ⟨D, h1, h2, h3, h4, h5⟩ := Forest.meldO (B := [x]) (h.perm p1) ht (by simp)
  refine ⟨D, h1, h2, h3, ?_, fun i hi => h5 i fun e => hi ((fids_perm p1).mem_iff.2 ?_)⟩
  · rw [fids_append]
    refine (h4.append_right _).trans ?_
    rw [← fids_append, ← fids_append]
    exact (fids_perm p1).symm
  · rw [fids_append, fids_append]
    exact List.mem_append_left _ e
/-- Taking one out: what stood below it is free and put together, and melded with the rest. -/
theorem PF.take {P : Nat} {on : Nat → Bool} {tm : Nat → Timer} {f g : Lk} {x : Nat} {s : BT} {C M : List (Nat × BT)} (h : PF P on tm f ((x, s) :: C)) (hC : C.length ≤ 1) (hM : Forest g tm M) (hM1 : M.length ≤ 1) (hp : (fids M).Perm s.ids) (he : ∀ i, i ∉ s.ids → f.Eq g i) :
    ∃ D, D.length ≤ 1 ∧ PF P (updB on x false) tm { (Go.Proofs.Ytpbepmipfjcjbaa.meldO tm g (rootL C) (rootL M)).1 with bl := updO (Go.Proofs.Ytpbepmipfjcjbaa.meldO tm g (rootL C) (rootL M)).1.bl x none } D ∧ rootL D = (Go.Proofs.Ytpbepmipfjcjbaa.meldO tm g (rootL C) (rootL M)).2 ∧
      (Go.Proofs.Ytpbepmipfjcjbaa.meldO tm g (rootL C) (rootL M)).1.bs x = none ∧ (Go.Proofs.Ytpbepmipfjcjbaa.meldO tm g (rootL C) (rootL M)).1.bk x = none := by
  obtain ⟨h1, h2, h3⟩ := h.out hM hp he
  obtain ⟨D, d1, d2, d3, d4⟩ := h1.meldO hC hM1
  have e := d4 x fun y => by have := y.2; rw [updB_at] at this; cases this
  exact ⟨D, d1, d2.bare, d3, e.2.1.trans h2, e.2.2.trans h3⟩
/-- The tree of the one that is taken out stands first. -/
theorem PF.first {P : Nat} {on : Nat → Bool} {tm : Nat → Timer} {f : Lk} {L : List (Nat × BT)} {x : Nat} (h : PF P on tm f L) (hL : L.length ≤ 1) (hx : x < P) (ho : on x = true) (hr : rootL L = some x) : ∃ s, L = [(x, s)] := by
  match L with
  | [] => cases hr
  | [p] =>
    have : p.1 = x := by simpa [rootL] using hr
    subst this
    exact ⟨p.2, rfl⟩
  | _ :: _ :: _ => simp at hL
theorem PF.second {P : Nat} {on : Nat → Bool} {tm : Nat → Timer} {f : Lk} {L : List (Nat × BT)} {x : Nat} (h : PF P on tm f L) (hL : L.length ≤ 1) (hx : x < P) (ho : on x = true) (hr : rootL L ≠ some x) :
    ∃ r s, L = [(r, s)] ∧ r ≠ x ∧ PF P on tm (cutF f x) [(x, s.sub x), (r, s.cut x)] ∧ (∃ p, p < P ∧ on p = true ∧ f.bk x = some p) ∧ (∀ y, f.bs x = some y → y < P ∧ on y = true) := by
  match L with
  | [] => have := h.none_ hx; rw [ho] at this; cases this
  | [p] =>
    have hne : p.1 ≠ x := fun e => hr (by simp [rootL, e])
    obtain ⟨c1, c2, c3⟩ := PF.cut (r := p.1) (s := p.2) h hx ho hne
    exact ⟨p.1, p.2, rfl, hne, c1.perm (List.Perm.swap _ _ _), c2, c3⟩
  | _ :: _ :: _ => simp at hL
theorem Rep.beside_ne {f : Lk} {i c : Nat} : ∀ {t : BT} {b r : Option Nat}, Rep f b t r → t.ids.Nodup → i ∈ t.ids → f.bs i = some c → c ≠ i
  | .nil, _, _, _, _, h, _ => by cases h
  | .node j l s, b, r, ⟨_, _, hl, hs⟩, hn, h, e => by
    simp only [BT.ids, List.nodup_cons, List.mem_append, not_or] at hn
    obtain ⟨⟨_, js⟩, h3⟩ := hn
    rw [List.nodup_append] at h3
    simp only [BT.ids, List.mem_cons, List.mem_append] at h
    rcases h with rfl | h | h
    · rw [e] at hs
      exact fun x => js (x ▸ hs.in_)
    · exact hl.beside_ne h3.1 h e
    · exact hs.beside_ne h3.2.1 h e
theorem Rep.back_ne {f : Lk} {i p : Nat} : ∀ {t : BT} {b r : Option Nat}, Rep f b t r → t.ids.Nodup → i ∈ t.ids → r ≠ some i → f.bk i = some p → p ≠ i
  | .nil, _, _, _, _, h, _, _ => by cases h
  | .node j l s, b, r, ⟨hr, _, hl, hs⟩, hn, h, hne, e => by
    simp only [BT.ids, List.nodup_cons, List.mem_append, not_or] at hn
    obtain ⟨⟨jl, js⟩, h3⟩ := hn
    rw [List.nodup_append] at h3
    simp only [BT.ids, List.mem_cons, List.mem_append] at h
    have one : ∀ {u : BT} {q : Option Nat}, Rep f (some j) u q → i ∈ u.ids → j ∉ u.ids → (q ≠ some i → p ≠ i) → p ≠ i := fun {u q} hu hiu hju hrec => by
      by_cases hq : q = some i
      · cases u with
        | nil => cases hiu
        | node k l1 s1 =>
          obtain ⟨e1, e2, _⟩ := hu
          rw [hq] at e1
          injection e1 with e1
          subst e1
          rw [e] at e2
          injection e2 with e2
          intro x
          exact hju (by rw [← e2, x]; exact hiu)
      · exact hrec hq
    rcases h with rfl | h | h
    · exact absurd hr hne
    · exact one hl h jl fun hq => hl.back_ne h3.1 h hq e
    · exact one hs h js fun hq => hs.back_ne h3.2.1 h hq e
/-- Where the ways of a node that is no top lead: never to itself. -/
theorem PF.ne_self {P : Nat} {on : Nat → Bool} {tm : Nat → Timer} {f : Lk} {r x : Nat} {s : BT} (h : PF P on tm f [(r, s)]) (hx : x < P) (ho : on x = true) (hr : r ≠ x) : (∀ p, f.bk x = some p → p ≠ x) ∧ ∀ y, f.bs x = some y → y ≠ x := by
  have hm := h.in_ hx ho
  have hR := h.fr.rep (r, s) (by simp)
  have hn : (BT.node r s .nil).ids.Nodup := by
    have := h.fr.nd
    simpa [fids, BT.ids] using this
  have hi : x ∈ (BT.node r s .nil).ids := by simpa [fids, BT.ids] using hm
  exact ⟨fun p e => hR.back_ne hn hi (fun e2 => hr (by injection e2)) e, fun y e => hR.beside_ne hn hi e⟩
end Go.Proofs.Ytpbepmipfjcjbaa
