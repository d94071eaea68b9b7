/- Part 4: the texts RefK RefM RefD RefO RefP, laid end to end by a program. -/
import Derived.Deep.RegionHeld3
import Derived.Test.YtpbepmipfjcjbaaPk3
namespace Go.Proofs.Ytpbepmipfjcjbaa
open Go.RowKit





def canC (P : Int) (l : List Timer) (p : Int) : Int := if p < 0 ∨ P ≤ p then 1 else if (getL l p).isSome then 0 else 5
def canL (P : Int) (l : List Timer) (p : Int) : List Timer := if canC P l p = 0 then withoutL l p else l
def canT (P : Int) (l : List Timer) (p : Int) : Timer := if canC P l p = 0 then (getL l p).getD Timer.zero else Timer.zero
def qTE (P : Int) (v : Value) (t : Timer) (c : Int) : Value := .tuple #[qV P v, t.val, .int .i64 c]
structure SK (P : Int) (A : Option Addr) (l : List Timer) (c : Nat) (x : Timer) (w : World) (g : Nat) (w' : World) : Prop where
  p1 : Blk w' w.heap.size 30 #[.int .i64 P, .slice A l.length c]
  p4 : Blk w' g 35 #[.int .u64 x.at_, .int .u64 x.seq, .int .i64 x.place]
  at_ : TmAt w' w.heap.size A l
  size : g + 1 ≤ w'.heap.size
  below : Below w.heap.size w w'
theorem SK.all {P : Int} {A : Option Addr} {l : List Timer} {c : Nat} {x : Timer} {w : World} {g : Nat} {a : World} (h : SK P A l c x w g a) : (∀ i, a.cell? ⟨w.heap.size, i, none⟩ = (#[.int .i64 P, .slice A l.length c] : Array Value)[i]?) ∧ (∀ i, a.cell? ⟨g, i, none⟩ = (#[.int .u64 x.at_, .int .u64 x.seq, .int .i64 x.place] : Array Value)[i]?) ∧ SK P A l c x w g a := ⟨h.p1.cell, h.p4.cell, h⟩
theorem SK.kept {P : Int} {A : Option Addr} {l : List Timer} {c : Nat} {x : Timer} {w : World} {g : Nat} {a b : World} (h : SK P A l c x w g a) (k : Below a.heap.size a b) : SK P A l c x w g b :=
  ⟨h.p1.below k h.p1.lt, h.p4.below k h.p4.lt, h.at_.below k (by have := h.p1.lt; omega), Nat.le_trans h.size k.size, h.below.trans (Below.mono k h.below.size)⟩
theorem SK.far {P : Int} {A : Option Addr} {l : List Timer} {c : Nat} {x : Timer} {w : World} {g : Nat} {a : World} (h : SK P A l c x w g a) (p : Addr) (u : Value) (h1 : w.heap.size < p.block) (h2 : p.block < g) : SK P A l c x w g (a.setCell p u) :=
  ⟨h.p1.far (by omega) u, h.p4.far (by omega) u, h.at_.below ((Below.refl w.heap.size a).setCell (by omega) u) (Nat.le_refl _), by simpa [World.setCell] using h.size, h.below.setCell (by omega) u⟩
theorem SK.far2 {P : Int} {A : Option Addr} {l : List Timer} {c : Nat} {x : Timer} {w : World} {g : Nat} {a : World} (h : SK P A l c x w g a) (b : Nat) (u0 u1 : Value) (h1 : w.heap.size < b) (h2 : b < g) : (∀ i, ((a.setCell ⟨b, 0, none⟩ u0).setCell ⟨b, 1, none⟩ u1).cell? ⟨w.heap.size, i, none⟩ = (#[.int .i64 P, .slice A l.length c] : Array Value)[i]?) ∧ (∀ i, ((a.setCell ⟨b, 0, none⟩ u0).setCell ⟨b, 1, none⟩ u1).cell? ⟨g, i, none⟩ = (#[.int .u64 x.at_, .int .u64 x.seq, .int .i64 x.place] : Array Value)[i]?) ∧ SK P A l c x w g ((a.setCell ⟨b, 0, none⟩ u0).setCell ⟨b, 1, none⟩ u1) := ((h.far ⟨b, 0, none⟩ u0 h1 h2).far ⟨b, 1, none⟩ u1 h1 h2).all
theorem SK.far3 {P : Int} {A : Option Addr} {l : List Timer} {c : Nat} {x : Timer} {w : World} {g : Nat} {a : World} (h : SK P A l c x w g a) (b : Nat) (u0 u1 u2 : Value) (h1 : w.heap.size < b) (h2 : b < g) : (∀ i, (((a.setCell ⟨b, 0, none⟩ u0).setCell ⟨b, 1, none⟩ u1).setCell ⟨b, 2, none⟩ u2).cell? ⟨w.heap.size, i, none⟩ = (#[.int .i64 P, .slice A l.length c] : Array Value)[i]?) ∧ (∀ i, (((a.setCell ⟨b, 0, none⟩ u0).setCell ⟨b, 1, none⟩ u1).setCell ⟨b, 2, none⟩ u2).cell? ⟨g, i, none⟩ = (#[.int .u64 x.at_, .int .u64 x.seq, .int .i64 x.place] : Array Value)[i]?) ∧ SK P A l c x w g (((a.setCell ⟨b, 0, none⟩ u0).setCell ⟨b, 1, none⟩ u1).setCell ⟨b, 2, none⟩ u2) := (((h.far ⟨b, 0, none⟩ u0 h1 h2).far ⟨b, 1, none⟩ u1 h1 h2).far ⟨b, 2, none⟩ u2 h1 h2).all
set_option maxRecDepth 100000 in
set_option maxHeartbeats 2000000 in
theorem rcan_bad (P : Int) (v : Value) (l : List Timer) (p : Int) (w : World) (h : LAt w v l) (hp : p < 0 ∨ (¬ p < 0 ∧ P ≤ p)) :
    Calls Try.prog 31 #[qV P v, .int .i64 p] w fun e w' => e = .returned (qTE P v Timer.zero 1) ∧ Below w.heap.size w w' := by
  obtain ⟨A, c, rfl, hT, hc, hm, _⟩ := h
  have HB := Lib.hid (three_new w)
  unfold qV
  rcases hp with hp | ⟨hp1, hp2⟩
  · go_enter Try.func31, Try.ntmps31
    go_wp2
    refine bodyPost_ret (v := qTE P (.slice A l.length c) Timer.zero 1) (by simp [results, Try.results31, go_sem, qTE, qV, Timer.val, Timer.zero]) rfl ⟨rfl, ?_⟩
    exact HB.out _ _ _
  · go_enter Try.func31, Try.ntmps31
    go_wp2
    refine bodyPost_ret (v := qTE P (.slice A l.length c) Timer.zero 1) (by simp [results, Try.results31, go_sem, qTE, qV, Timer.val, Timer.zero]) rfl ⟨rfl, ?_⟩
    exact HB.out _ _ _
attribute [local irreducible] Calls
set_option maxRecDepth 100000 in
set_option maxHeartbeats 4000000 in
theorem rcan_go (P : Int) (v : Value) (l : List Timer) (p : Int) (w : World) (h : LAt w v l) (hl : l.length ≤ 100000) (hp : ¬ p < 0 ∧ ¬ P ≤ p) :
    Calls Try.prog 31 #[qV P v, .int .i64 p] w fun e w' => ∃ v', e = .returned (qTE P v' (canT P l p) (canC P l p)) ∧ LAt w' v' (canL P l p) ∧ Below w.heap.size w w' ∧ FreshV w v v' := by
  obtain ⟨hp1, hp2⟩ := hp
  have hC := Lib.hid (show canC P l p = if (getL l p).isSome then 0 else 5 by simp [canC, hp1, hp2])
  have hL := Lib.hid (show canL P l p = if (getL l p).isSome then withoutL l p else l by
    unfold canL
    rw [hC.out]
    cases (getL l p).isSome <;> simp)
  have hTt := Lib.hid (show canT P l p = if (getL l p).isSome then (getL l p).getD Timer.zero else Timer.zero by
    unfold canT
    rw [hC.out]
    cases (getL l p).isSome <;> simp)
  have hb0 := three_new w (.cells #[.int .i64 P, v] 30) (.cells #[.int .i64 0, .slice none 0 0] 30) (.cells #[.int .u64 0, .int .u64 0, .int .i64 0] 35)
  have q1 : Blk (((w.alloc (.cells #[.int .i64 P, v] 30)).alloc (.cells #[.int .i64 0, .slice none 0 0] 30)).alloc (.cells #[.int .u64 0, .int .u64 0, .int .i64 0] 35)) w.heap.size 30 #[.int .i64 P, v] := ((Blk.new _ _ _).alloc _).alloc _
  have q2 : Blk (((w.alloc (.cells #[.int .i64 P, v] 30)).alloc (.cells #[.int .i64 0, .slice none 0 0] 30)).alloc (.cells #[.int .u64 0, .int .u64 0, .int .i64 0] 35)) (w.heap.size + 1) 30 #[.int .i64 0, .slice none 0 0] := (alloc2_at _ _ _ _).alloc _
  have q3 : Blk (((w.alloc (.cells #[.int .i64 P, v] 30)).alloc (.cells #[.int .i64 0, .slice none 0 0] 30)).alloc (.cells #[.int .u64 0, .int .u64 0, .int .i64 0] 35)) (w.heap.size + 1 + 1) 35 #[.int .u64 0, .int .u64 0, .int .i64 0] := alloc3_at _ _ _ _ _
  have h3 := h.on hb0
  have h0 := h
  obtain ⟨A, c, rfl, hT, hc, hm, hA, hAl⟩ := h
  unfold qV
  go_enter Try.func31, Try.ntmps31
  go_wp2_with fail
  have hget := rget_any P _ l p _ h3 hl
  unfold qV at hget
  refine hget.mono ?_
  rintro e w1 ⟨rfl, hx⟩
  have hb1 := hb0.trans (Below.mono hx hb0.size)
  have q1 := q1.below hx q1.lt
  have q2 := q2.below hx q2.lt
  have q3 := q3.below hx q3.lt
  clear hx hget h3 hb0
  have d1 := q1.cell
  have d2 := q2.cell
  have d3 := q3.cell
  have f2 := q2.frozen
  have f3 := q3.frozen
  have l1 := q1.lt
  have l2 := q2.lt
  have l3 := q3.lt
  unfold pairT Timer.val
  have hW1 : w.heap.size ≤ w.heap.size + 1 := by omega
  have hW2 : w.heap.size ≤ w.heap.size + 1 + 1 := by omega
  have HW1 := Lib.hid hW1
  have HW2 := Lib.hid hW2
  clear hW1 hW2
  cases hg : getL l p with
  | none =>
    rw [hg] at hC hL hTt
    simp only [Option.isSome_none, Bool.false_eq_true, if_false] at hC hL hTt
    clear hg
    simp only [Option.getD_none, Option.isSome_none, Timer.zero]
    go_wp2_with fail
    have n12 : w.heap.size + 1 ≠ w.heap.size + 1 + 1 := by omega
    have n21 : w.heap.size + 1 + 1 ≠ w.heap.size + 1 := by omega
    have r2 := fun o => ((((((q2.put 0 (.int .i64 P)).put 1 (.slice A l.length c)).far (p := ⟨w.heap.size + 1 + 1, 0, none⟩) n12 (.int .u64 0)).far (p := ⟨w.heap.size + 1 + 1, 1, none⟩) n12 (.int .u64 0)).far (p := ⟨w.heap.size + 1 + 1, 2, none⟩) n12 (.int .i64 0)).alloc o).cell
    have r3 := fun o => ((((((q3.far (p := ⟨w.heap.size + 1, 0, none⟩) n21 (.int .i64 P)).far (p := ⟨w.heap.size + 1, 1, none⟩) n21 (.slice A l.length c)).put 0 (.int .u64 0)).put 1 (.int .u64 0)).put 2 (.int .i64 0)).alloc o).cell
    have hbF := ((((((hb1.setCell (p := ⟨w.heap.size + 1, 0, none⟩) HW1.out (.int .i64 P)).setCell (p := ⟨w.heap.size + 1, 1, none⟩) HW1.out (.slice A l.length c)).setCell (p := ⟨w.heap.size + 1 + 1, 0, none⟩) HW2.out (.int .u64 0)).setCell (p := ⟨w.heap.size + 1 + 1, 1, none⟩) HW2.out (.int .u64 0)).setCell (p := ⟨w.heap.size + 1 + 1, 2, none⟩) HW2.out (.int .i64 0))).alloc (by simpa using hb1.size) (.cells #[.int .u64 0, .int .u64 0, .int .i64 0] 35)
    refine bodyPost_ret (v := qTE P (.slice A l.length c) Timer.zero 5) ?_ rfl ⟨.slice A l.length c, by rw [hC.out, hTt.out], ?_, hbF, FreshV.same _ _⟩
    · simp [results, Try.results31, go_sem, qTE, qV, Timer.val, Timer.zero, r2, r3]
    · rw [hL.out]
      exact h0.on hbF
  | some x =>
    rw [hg] at hC hL hTt
    simp only [Option.isSome_some, if_true, Option.getD_some] at hC hL hTt
    clear hg
    simp only [Option.getD_some, Option.isSome_some]
    go_wp2_with fail
    have hb2 := hb1.alloc hb1.size (.cells #[.int .u64 x.at_, .int .u64 x.seq, .int .i64 x.place] 35)
    have k0 : SK P A l c x w w1.heap.size (w1.alloc (.cells #[.int .u64 x.at_, .int .u64 x.seq, .int .i64 x.place] 35)).drew := ⟨(q1.alloc _).drew, (Blk.new _ _ _).drew, (hT.below hb2 (Nat.le_refl _)).drew, by simp, hb2.drew⟩
    have z2 := (q2.alloc (.cells #[.int .u64 x.at_, .int .u64 x.seq, .int .i64 x.place] 35)).drew
    have z3 := (q3.alloc (.cells #[.int .u64 x.at_, .int .u64 x.seq, .int .i64 x.place] 35)).drew
    have hgl := l3
    clear q1 q2 q3 d1 d2 d3 f2 f3 hb1 hT hb2 l1 l2 l3
    generalize w1.alloc (.cells #[.int .u64 x.at_, .int .u64 x.seq, .int .i64 x.place] 35) = w2 at *
    generalize w1.heap.size = g at *
    go_region_held3 (fun w' => (∀ i, w'.cell? ⟨w.heap.size, i, none⟩ = (#[.int .i64 P, .slice A l.length c] : Array Value)[i]?) ∧ (∀ i, w'.cell? ⟨g, i, none⟩ = (#[.int .u64 x.at_, .int .u64 x.seq, .int .i64 x.place] : Array Value)[i]?) ∧ SK P A l c x w g w')
      (first | with_reducible exact k0.all | with_reducible exact k3.all | with_reducible exact k4 | with_reducible exact k5)
      (first
        | (go_at_call 50; have hput := rwithout_any P (.slice A l.length c) l p w2.drew (h0.on k0.below) hl; unfold qV at hput; refine hput.mono ?_; rintro e w3 ⟨v', rfl, hown, hk⟩; obtain ⟨A3, c3, hv5, _⟩ := OwnT.at hown; generalize (withoutL l p).length = n3 at hv5; subst hv5; have r2 := z2.below hk z2.lt; have r3 := z3.below hk z3.lt; have e2 := r2.cell; have e3 := r3.cell; have e4 := r2.frozen; have e5 := r3.frozen; have hb3 := (k0.kept hk).below; have hn3 := (k0.kept hk).size; have hown' := hown.mono (k0.size); have k3 := k0.kept hk; have k4 := k3.far2 (w.heap.size + 1) (.int .i64 P) (.slice A3 n3 c3) (by omega) (by omega); have k5 := k4.2.2.far3 (w.heap.size + 1 + 1) (.int .u64 x.at_) (.int .u64 x.seq) (.int .i64 x.place) (by omega) (by omega)))
    clear k4 k3
    go_wp2_with fail
    have n12 : w.heap.size + 1 ≠ w.heap.size + 1 + 1 := by omega
    have n21 : w.heap.size + 1 + 1 ≠ w.heap.size + 1 := by omega
    have s2 := (((((r2.put 0 (.int .i64 P)).put 1 (.slice A3 n3 c3)).far (p := ⟨w.heap.size + 1 + 1, 0, none⟩) n12 (.int .u64 x.at_)).far (p := ⟨w.heap.size + 1 + 1, 1, none⟩) n12 (.int .u64 x.seq)).far (p := ⟨w.heap.size + 1 + 1, 2, none⟩) n12 (.int .i64 x.place)).cell
    have s3 := (((((r3.far (p := ⟨w.heap.size + 1, 0, none⟩) n21 (.int .i64 P)).far (p := ⟨w.heap.size + 1, 1, none⟩) n21 (.slice A3 n3 c3)).put 0 (.int .u64 x.at_)).put 1 (.int .u64 x.seq)).put 2 (.int .i64 x.place)).cell
    have hbF := k5.2.2.below
    clear k5 e2 e3 e4 e5
    refine bodyPost_ret (v := qTE P (.slice A3 n3 c3) x 0) ?_ rfl ⟨.slice A3 n3 c3, by rw [hC.out, hTt.out], ?_, hbF, FreshV.own hown' (by omega) _⟩
    · simp [results, Try.results31, go_sem, qTE, qV, Timer.val, s2, s3]
    · rw [hL.out]
      refine OwnT.lat (ownsRow_keep hown' ?_)
      intro k hk hgo
      have hge := own_base hown' k hgo
      rw [Below.heap_setCell _ _ _ _ (by simp; omega), Below.heap_setCell _ _ _ _ (by simp; omega), Below.heap_setCell _ _ _ _ (by simp; omega), Below.heap_setCell _ _ _ _ (by simp; omega), Below.heap_setCell _ _ _ _ (by simp; omega)]
end Go.Proofs.Ytpbepmipfjcjbaa
namespace Go.Proofs.Ytpbepmipfjcjbaa
open Go.RowKit
theorem rins_any (P : Int) (v : Value) (l : List Timer) (t : Timer) (w : World) (h : LAt w v l) (hl : l.length ≤ 100000) :
    Calls Try.prog 30 #[qV P v, t.val] w fun e w' => ∃ v', e = .returned (qE P v' (insC P l t)) ∧ LAt w' v' (insL P l t) ∧ Below w.heap.size w w' ∧ FreshV w v v' := by
  by_cases hp : t.place < 0 ∨ P ≤ t.place
  · refine (rins_bad P v l t w h (by omega)).mono ?_
    rintro e w' ⟨rfl, hb⟩
    have hC : insC P l t = 1 := by unfold insC; rw [if_pos hp]
    exact ⟨v, by rw [hC], by unfold insL; rw [hC]; exact h.on hb, hb, FreshV.same _ _⟩
  · exact rins_go P v l t w h hl (by omega)
theorem rcan_any (P : Int) (v : Value) (l : List Timer) (p : Int) (w : World) (h : LAt w v l) (hl : l.length ≤ 100000) :
    Calls Try.prog 31 #[qV P v, .int .i64 p] w fun e w' => ∃ v', e = .returned (qTE P v' (canT P l p) (canC P l p)) ∧ LAt w' v' (canL P l p) ∧ Below w.heap.size w w' ∧ FreshV w v v' := by
  by_cases hp : p < 0 ∨ P ≤ p
  · refine (rcan_bad P v l p w h (by omega)).mono ?_
    rintro e w' ⟨rfl, hb⟩
    have hC : canC P l p = 1 := by unfold canC; rw [if_pos hp]
    exact ⟨v, by unfold canT; rw [hC]; rfl, by unfold canL; rw [hC]; exact h.on hb, hb, FreshV.same _ _⟩
  · exact rcan_go P v l p w h hl (by omega)
def movC (P : Int) (l : List Timer) (t : Timer) : Int := if canC P l t.place = 0 then insC P (withoutL l t.place) t else canC P l t.place
def movL (P : Int) (l : List Timer) (t : Timer) : List Timer := if canC P l t.place = 0 then insL P (withoutL l t.place) t else l
theorem LAt.far {w w' : World} {v : Value} {l : List Timer} (h : LAt w v l) (hs : w.heap.size ≤ w'.heap.size) (k : ∀ g, blkOf v = some g → w'.heap[g]? = w.heap[g]?) : LAt w' v l := by
  obtain ⟨A, c, rfl, h1, h2, h3, h4, h5⟩ := h
  have hk : ∀ b, A.map (·.block) = some b → w'.heap[b]? = w.heap[b]? := by
    intro b hA
    refine k b ?_
    cases A with
    | none => simp at hA
    | some a => simpa [blkOf] using hA
  exact ⟨A, c, rfl, (h1.keep fun b _ hA => hk b hA).mono hs, h2, h3, h4, fun g hg => (h5 g hg).keep hs (hk g hg)⟩
attribute [local irreducible] Calls
set_option maxRecDepth 100000 in
set_option maxHeartbeats 4000000 in
theorem rmove_any (P : Int) (v : Value) (l : List Timer) (t : Timer) (w : World) (h : LAt w v l) (hl : l.length ≤ 100000) :
    Calls Try.prog 32 #[qV P v, t.val] w fun e w' => ∃ v', e = .returned (qE P v' (movC P l t)) ∧ LAt w' v' (movL P l t) ∧ Below w.heap.size w w' ∧ FreshV w v v' := by
  have hb0 := three_new w (.cells #[.int .i64 P, v] 30) (.cells #[.int .u64 t.at_, .int .u64 t.seq, .int .i64 t.place] 35) (.cells #[.int .i64 0, .slice none 0 0] 30)
  have q1 : Blk (((w.alloc (.cells #[.int .i64 P, v] 30)).alloc (.cells #[.int .u64 t.at_, .int .u64 t.seq, .int .i64 t.place] 35)).alloc (.cells #[.int .i64 0, .slice none 0 0] 30)) w.heap.size 30 #[.int .i64 P, v] := ((Blk.new _ _ _).alloc _).alloc _
  have q2 : Blk (((w.alloc (.cells #[.int .i64 P, v] 30)).alloc (.cells #[.int .u64 t.at_, .int .u64 t.seq, .int .i64 t.place] 35)).alloc (.cells #[.int .i64 0, .slice none 0 0] 30)) (w.heap.size + 1) 35 #[.int .u64 t.at_, .int .u64 t.seq, .int .i64 t.place] := (alloc2_at _ _ _ _).alloc _
  have q3 : Blk (((w.alloc (.cells #[.int .i64 P, v] 30)).alloc (.cells #[.int .u64 t.at_, .int .u64 t.seq, .int .i64 t.place] 35)).alloc (.cells #[.int .i64 0, .slice none 0 0] 30)) (w.heap.size + 1 + 1) 30 #[.int .i64 0, .slice none 0 0] := alloc3_at _ _ _ _ _
  have h3 := h.on hb0
  have hcan := rcan_any P v l t.place _ h3 hl
  obtain ⟨A, c, rfl, hrest⟩ := h
  have h0 : LAt w (.slice A l.length c) l := ⟨A, c, rfl, hrest⟩
  clear hrest
  unfold qV at hcan ⊢
  unfold Timer.val
  go_enter Try.func32, Try.ntmps32
  go_wp2_with fail
  refine hcan.mono ?_
  rintro e w1 ⟨v1, rfl, hv1, hx, hfr⟩
  have hb1 := hb0.trans (Below.mono hx hb0.size)
  have q1 := q1.below hx q1.lt
  have q2 := q2.below hx q2.lt
  have q3 := q3.below hx q3.lt
  obtain ⟨A1, c1, rfl, hrest1⟩ := hv1
  have hv1 : LAt w1 (.slice A1 (canL P l t.place).length c1) (canL P l t.place) := ⟨A1, c1, rfl, hrest1⟩
  clear hrest1 hx hcan h3 hb0
  have hW2 : Hid (w.heap.size ≤ w.heap.size + 1 + 1) := Lib.hid (by omega)
  by_cases hz : canC P l t.place = 0
  · have hMC := Lib.hid (show movC P l t = insC P (withoutL l t.place) t by unfold movC; rw [if_pos hz])
    have hML := Lib.hid (show movL P l t = insL P (withoutL l t.place) t by unfold movL; rw [if_pos hz])
    have hCL : canL P l t.place = withoutL l t.place := by unfold canL; rw [if_pos hz]
    rw [hCL] at hv1 hfr
    rw [hCL]
    have hwl : (withoutL l t.place).length ≤ 100000 := Nat.le_trans (List.length_filter_le _ _) hl
    have hins := fun w' (k : LAt w' (.slice A1 (withoutL l t.place).length c1) (withoutL l t.place)) => rins_any P _ _ t w' k hwl
    unfold qTE qV Timer.val
    unfold qV Timer.val at hins
    rw [hz]
    clear hCL
    generalize canT P l t.place = y at *
    generalize withoutL l t.place = m at *
    have hZ := Lib.hid hz
    clear hz
    have d1 := q1.cell
    have d2 := q2.cell
    have l2 := q2.lt
    have l1 := q1.lt
    have l3 := q3.lt
    have l2' : w.heap.size + 1 < w1.heap.size + 1 := by omega
    have l3' : w.heap.size + 1 + 1 < w1.heap.size + 1 := by omega
    go_wp2_with fail
    have hi1 := hins _ (hv1.on (((Below.refl _ _).alloc (Nat.le_refl _) (.cells #[.int .i64 P, .slice A1 m.length c1] 30)).alloc (by simp) (.cells #[.int .u64 y.at_, .int .u64 y.seq, .int .i64 y.place] 35)))
    refine hi1.mono ?_
    rintro e w2 ⟨v2, rfl, hv2, hx, hfr2⟩
    have hb2 := ((hb1.alloc hb1.size (.cells #[.int .i64 P, .slice A1 m.length c1] 30)).alloc (by have := hb1.size; simp; omega) (.cells #[.int .u64 y.at_, .int .u64 y.seq, .int .i64 y.place] 35)).trans (Below.mono hx (by have := hb1.size; simp; omega))
    have r3 := (((q3.alloc (.cells #[.int .i64 P, .slice A1 m.length c1] 30)).alloc (.cells #[.int .u64 y.at_, .int .u64 y.seq, .int .i64 y.place] 35)).below hx (by simp; omega))
    have e3 := r3.cell
    have f3 := r3.frozen
    have hlv := hv2
    obtain ⟨A2, c2, rfl, _⟩ := hv2
    unfold qE qV
    generalize hn2 : (insL P m t).length = n2 at *
    have hbl : ∀ g, blkOf (.slice A2 n2 c2) = some g → (blkOf (.slice A l.length c) = some g ∧ g < w.heap.size) ∨ w.heap.size + 1 + 1 + 1 ≤ g := by
      intro g hg
      have hsz := h0
      rcases hfr2 g hg with h | h
      · rcases hfr g h with h | h
        · refine .inl ⟨h, ?_⟩
          obtain ⟨A', c', e, _, _, _, _, h5⟩ := h0
          injection e with e1 e2 e3
          subst e1
          refine (h5 g ?_).lt
          cases A with
          | none => simp [blkOf] at h
          | some a => simpa [blkOf] using h
        · right
          simpa using h
      · right
        have hs : ((w1.alloc (.cells #[.int .i64 P, .slice A1 m.length c1] 30)).alloc (.cells #[.int .u64 y.at_, .int .u64 y.seq, .int .i64 y.place] 35)).heap.size = w1.heap.size + 1 + 1 := by simp
        omega
    have hBL := Lib.hid hbl
    have hln := Lib.hid hn2
    have hM2 := Lib.hid hlv
    clear hx hi1 hins hfr hfr2 hbl hn2 hlv
    go_wp2_with fail
    have hcR2 := ((r3.put 0 (.int .i64 P)).put 1 (.slice A2 n2 c2)).cell
    have hbF := (hb2.setCell (p := ⟨w.heap.size + 1 + 1, 0, none⟩) hW2.out (.int .i64 P)).setCell (p := ⟨w.heap.size + 1 + 1, 1, none⟩) hW2.out (.slice A2 n2 c2)
    refine bodyPost_ret (v := qE P (.slice A2 n2 c2) (insC P m t)) ?_ rfl ⟨.slice A2 n2 c2, by rw [hMC.out], ?_, hbF, ?_⟩
    · simp [results, Try.results32, go_sem, qE, qV, hcR2]
    · rw [hML.out]
      refine hM2.out.far (by simp [World.setCell]) ?_
      intro g hg
      have := hBL.out g hg
      rw [Below.heap_setCell _ _ _ _ (by simp; omega), Below.heap_setCell _ _ _ _ (by simp; omega)]
    · intro g hg
      rcases hBL.out g hg with h | h
      · exact .inl h.1
      · exact .inr (by omega)
  · have hMC := Lib.hid (show movC P l t = canC P l t.place by unfold movC; rw [if_neg hz])
    have hML := Lib.hid (show movL P l t = l by unfold movL; rw [if_neg hz])
    have hz' : (canC P l t.place != 0) = true := by simp [hz]
    unfold qTE qV Timer.val
    generalize canT P l t.place = y at *
    generalize canC P l t.place = k at *
    generalize (canL P l t.place).length = n1 at *
    have hZ := Lib.hid hz
    clear hz hv1
    have d1 := q1.cell
    have d3 := q3.cell
    have f3 := q3.frozen
    have l1 := q1.lt
    have l3 := q3.lt
    have l3' : w.heap.size + 1 + 1 < w1.heap.size + 1 := by omega
    have l1' : w.heap.size < w1.heap.size + 1 := by omega
    go_wp2_with fail
    have hcR := fun o o' => (((q3.put 0 (.int .i64 P)).put 1 (.slice A l.length c)).alloc o).alloc o'
    have hcR2 := fun o o' => (hcR o o').cell
    have hbF := fun o o' => (((hb1.setCell (p := ⟨w.heap.size + 1 + 1, 0, none⟩) hW2.out (.int .i64 P)).setCell (p := ⟨w.heap.size + 1 + 1, 1, none⟩) hW2.out (.slice A l.length c)).alloc (by simpa [World.setCell] using hb1.size) o).alloc (by have := hb1.size; simp [World.setCell]; omega) o'
    refine bodyPost_ret (v := qE P (.slice A l.length c) k) ?_ rfl ⟨.slice A l.length c, by rw [hMC.out], ?_, hbF _ _, FreshV.same _ _⟩
    · simp [results, Try.results32, go_sem, qE, qV, hcR2]
    · rw [hML.out]
      exact h0.on (hbF _ _)
end Go.Proofs.Ytpbepmipfjcjbaa
namespace Go.Proofs.Ytpbepmipfjcjbaa
open Go.RowKit





def qL (P : Int) (v u : Value) : Value := .tuple #[qV P v, u]
def FD (P : Int) (A : Option Addr) (l : List Timer) (c : Nat) (now : Int) (g1 m : Nat) : Nat → Value → World → Prop := fun k v w => match k with
  | 0 => v = .pointer (some ⟨g1, 0, none⟩)
  | 1 => v = .int .i64 P
  | 2 => v = .pointer (some ⟨g1, 1, none⟩)
  | 3 => v = .slice A l.length c
  | 4 => v = .int .u64 now
  | 5 => OwnT w m v (dueL l now false)
  | 6 => ∃ A' n' c', v = .agg #[.int .i64 P, .slice A' n' c'] ∧ OwnT w m (.slice A' n' c') (dueL l now false)
  | 7 => v = .pointer (some ⟨g1, 1, none⟩)
  | 8 => v = .slice A l.length c
  | 9 => v = .int .u64 now
  | _ => OwnT w m v (dueL l now true)
theorem FD.keep (P : Int) (A : Option Addr) (l : List Timer) (c : Nat) (now : Int) (g1 m k : Nat) (v : Value) (w w' : World) (h : FD P A l c now g1 m k v w) (r : Below w.heap.size w w') : FD P A l c now g1 m k v w' := by
  unfold FD at h ⊢
  split at h
  · exact h
  · exact h
  · exact h
  · exact h
  · exact h
  · exact h.below r (Nat.le_refl _)
  · obtain ⟨A', n', c', h1, h2⟩ := h
    exact ⟨A', n', c', h1, h2.below r (Nat.le_refl _)⟩
  · exact h
  · exact h
  · exact h
  · exact h.below r (Nat.le_refl _)
structure SD (P : Int) (A : Option Addr) (l : List Timer) (c : Nat) (w : World) (w' : World) : Prop where
  p1 : Blk w' w.heap.size 30 #[.int .i64 P, .slice A l.length c]
  p3 : Blk w' (w.heap.size + 1) 30 #[.int .i64 0, .slice none 0 0]
  at_ : TmAt w' w.heap.size A l
  size : w.heap.size + 2 ≤ w'.heap.size
  below : Below w.heap.size w w'
theorem SD.kept {P : Int} {A : Option Addr} {l : List Timer} {c : Nat} {w : World} {x y : World} (h : SD P A l c w x) (k : Below x.heap.size x y) : SD P A l c w y :=
  ⟨h.p1.below k h.p1.lt, h.p3.below k h.p3.lt, h.at_.below k (by have := h.p1.lt; omega), Nat.le_trans h.size k.size, h.below.trans (Below.mono k h.below.size)⟩
attribute [local irreducible] Calls
set_option linter.unusedSimpArgs false in
set_option maxRecDepth 100000 in
set_option maxHeartbeats 4000000 in
theorem rdue_any (P : Int) (v : Value) (l : List Timer) (now : Int) (w : World) (h : LAt w v l) (hl : l.length ≤ 100000) :
    Calls Try.prog 33 #[qV P v, .int .u64 now] w fun e w' => ∃ v' u, e = .returned (qL P v' u) ∧ LAt w' v' (dueL l now false) ∧ LAt w' u (dueL l now true) ∧ Below w.heap.size w w' ∧ FreshV w v v' ∧ FreshV w (.slice none 0 0) u := by
  obtain ⟨A, c, rfl, hT, hc, hm, hA, hAl⟩ := h
  have hb0 : Below w.heap.size w ((w.alloc (.cells #[.int .i64 P, .slice A l.length c] 30)).alloc (.cells #[.int .i64 0, .slice none 0 0] 30)) := ((Below.refl _ _).alloc (Nat.le_refl _) _).alloc (by simp) _
  have k0 : SD P A l c w ((w.alloc (.cells #[.int .i64 P, .slice A l.length c] 30)).alloc (.cells #[.int .i64 0, .slice none 0 0] 30)).drew := ⟨((Blk.new _ _ _).alloc _).drew, (alloc2_at _ _ _ _).drew, (hT.below hb0 (Nat.le_refl _)).drew, by simp, hb0.drew⟩
  clear hb0
  unfold qV
  go_enter Try.func33, Try.ntmps33
  go_upto_region 1 with fail
  generalize (w.alloc (.cells #[.int .i64 P, .slice A l.length c] 30)).alloc (.cells #[.int .i64 0, .slice none 0 0] 30) = w1 at *
  refine region_facts_tail 11 (fun _ => false) (FD P A l c now w.heap.size (w.heap.size + 2)) (SD P A l c w) (fun x y => Below x.heap.size x y) (List.range' 6 11 ++ []) (by kernel_rfl) (by kernel_rfl) (by kernel_rfl) (by decide) (by kernel_rfl) (by kernel_rfl) (FD.keep P A l c now w.heap.size (w.heap.size + 2)) (fun _ _ h k => h.kept k) (fun _ _ h => h.size) k0 ?_ ?_
  · intro fr hfr
    have f1 : fr.getD 1 undef = .int .u64 now := by rw [hfr]; rfl
    have f2 : fr.getD 2 undef = .pointer (some ⟨w.heap.size, 0, none⟩) := by rw [hfr]; rfl
    clear hfr
    iterate 6
      refine ⟨⟨by first | exact trivial | exact ⟨rfl, fun _ _ h => h⟩, ?_⟩, ?_⟩
      · intro ρ w' hρ hd hS
        refine ⟨?_, fun h => absurd h (by decide)⟩
        simp only [DepF, Region.binds, dat, Nat.reduceLT, Nat.reduceAdd, FD, forall_const, and_true, true_and] at hd
        have hcon := hρ.con
        have e1 := (hρ.slot 1 (by kernel_rfl)).trans f1
        have e2 := (hρ.slot 2 (by kernel_rfl)).trans f2
        have hc1 := hS.p1.cell
        (try rw [execOp_call_fn _ _ _ _ _ _ _ _ _ (hρ.fn _)])
        go_simp
        (try simp only [Nat.reduceAdd, Good, FD])
        first
          | exact ⟨trivial, Below.refl _ _⟩
          | exact ⟨rfl, Below.refl _ _⟩
              | (go_at_call 51; refine (due_any A l c now false w' (hS.at_.mono (by have := hS.below.size; omega)) (by omega)).mono ?_; rintro e w'' ⟨v', rfl, hown, hk⟩; exact ⟨v', rfl, hown.mono hS.size, hk⟩)
    refine ⟨⟨trivial, ?_⟩, ?_⟩
    · intro ρ w' hρ hd hS
      refine ⟨?_, fun h => absurd h (by decide)⟩
      simp only [DepF, Region.binds, dat, Nat.reduceLT, Nat.reduceAdd, FD, forall_const, and_true, true_and] at hd
      obtain ⟨hd1, hd2⟩ := hd
      obtain ⟨A5, c5, hv5, _⟩ := OwnT.at hd2
      rw [hv5] at hd2
      go_simp
      simp only [Nat.reduceAdd, Good, FD]
      exact ⟨⟨A5, _, c5, rfl, hd2⟩, Below.refl _ _⟩
    iterate 4
      refine ⟨⟨by first | exact trivial | exact ⟨rfl, fun _ _ h => h⟩, ?_⟩, ?_⟩
      · intro ρ w' hρ hd hS
        refine ⟨?_, fun h => absurd h (by decide)⟩
        simp only [DepF, Region.binds, dat, Nat.reduceLT, Nat.reduceAdd, FD, forall_const, and_true, true_and] at hd
        have hcon := hρ.con
        have e1 := (hρ.slot 1 (by kernel_rfl)).trans f1
        have e2 := (hρ.slot 2 (by kernel_rfl)).trans f2
        have hc1 := hS.p1.cell
        (try rw [execOp_call_fn _ _ _ _ _ _ _ _ _ (hρ.fn _)])
        go_simp
        (try simp only [Nat.reduceAdd, Good, FD])
        first
          | exact ⟨trivial, Below.refl _ _⟩
          | exact ⟨rfl, Below.refl _ _⟩
              | (go_at_call 51; refine (due_any A l c now true w' (hS.at_.mono (by have := hS.below.size; omega)) (by omega)).mono ?_; rintro e w'' ⟨v', rfl, hown, hk⟩; exact ⟨v', rfl, hown.mono hS.size, hk⟩)
    trivial
  · intro vs w3 hs hF _
    obtain ⟨A3, n3, c3, h6, hown⟩ : ∃ A' n' c', vs 6 = .agg #[.int .i64 P, .slice A' n' c'] ∧ OwnT w3 (w.heap.size + 2) (.slice A' n' c') (dueL l now false) := hF 6 (by decide)
    have hown2 : OwnT w3 (w.heap.size + 2) (vs 10) (dueL l now true) := hF 10 (by decide)
    obtain ⟨A4, c4, h10, _⟩ := hown2.at
    generalize (dueL l now true).length = n4 at h10
    rw [h10] at hown2
    clear hF
    simp only [List.range'_succ, List.range'_zero, List.cons_append, List.nil_append, List.append_nil, setAll, List.setIfInBounds_toArray, List.set_cons_zero, List.set_cons_succ, Nat.reduceAdd]
    rw [h6, h10]
    clear h6 h10 k0
    have r3 := hs.p3
    have hb3 := hs.below
    have e3 := r3.cell
    have e4 := r3.frozen
    simp only [List.drop_succ_cons, List.drop_zero]
    go_wp2_with fail
    have hcR := ((r3.put 0 (.int .i64 P)).put 1 (.slice A3 n3 c3)).cell
    have hkeep : ∀ {A' : Option Addr} {n' c' : Nat} {m : List Timer}, OwnT w3 (w.heap.size + 2) (.slice A' n' c') m → ∀ g, g < w3.heap.size → (Value.slice A' n' c').ownBlock = some g → ((w3.setCell ⟨w.heap.size + 1, 0, none⟩ (.int .i64 P)).setCell ⟨w.heap.size + 1, 1, none⟩ (.slice A3 n3 c3)).heap[g]? = w3.heap[g]? := by
      intro A' n' c' m ho g hg hgo
      have hge := own_base ho g hgo
      rw [Below.heap_setCell _ _ _ _ (by simp; omega), Below.heap_setCell _ _ _ _ (by simp; omega)]
    refine bodyPost_ret (v := qL P (.slice A3 n3 c3) (.slice A4 n4 c4)) ?_ rfl ⟨.slice A3 n3 c3, .slice A4 n4 c4, rfl, OwnT.lat (ownsRow_keep hown (hkeep hown)), OwnT.lat (ownsRow_keep hown2 (hkeep hown2)), (hb3.setCell (Nat.le_succ _) _).setCell (Nat.le_succ _) _, FreshV.own hown (by omega) _, FreshV.own hown2 (by omega) _⟩
    simp [results, Try.results33, go_sem, qL, qV, hcR]
set_option maxRecDepth 100000 in
theorem rnew_bad (P : Int) (w : World) (h : P < 0 ∨ (¬ P < 0 ∧ 1024 < P)) :
    Calls Try.prog 10 #[.int .i64 P] w fun e w' => e = .returned (qE 0 (.slice none 0 0) 1) ∧ Below w.heap.size w w' := by
  have HB := Lib.hid (show ∀ o, Below w.heap.size w (w.alloc o) from fun o => alloc_kept' w o)
  rcases h with h | ⟨h1, h2⟩
  · go_enter Try.func10, Try.ntmps10
    go_wp2
    refine bodyPost_ret (v := qE 0 (.slice none 0 0) 1) (by simp [results, Try.results10, go_sem, qE, qV]) rfl ⟨rfl, HB.out _⟩
  · go_enter Try.func10, Try.ntmps10
    go_wp2
    refine bodyPost_ret (v := qE 0 (.slice none 0 0) 1) (by simp [results, Try.results10, go_sem, qE, qV]) rfl ⟨rfl, HB.out _⟩
set_option maxRecDepth 100000 in
theorem rnew_ok (P : Int) (w : World) (h : ¬ P < 0 ∧ ¬ 1024 < P) :
    Calls Try.prog 10 #[.int .i64 P] w fun e w' => e = .returned (qE P (.slice none 0 0) 0) ∧ Below w.heap.size w w' := by
  have HB := Lib.hid (show ∀ o, Below w.heap.size w (w.alloc o) from fun o => alloc_kept' w o)
  obtain ⟨h1, h2⟩ := h
  go_enter Try.func10, Try.ntmps10
  go_wp2
  refine bodyPost_ret (v := qE P (.slice none 0 0) 0) (by simp [results, Try.results10, go_sem, qE, qV]) rfl ⟨rfl, HB.out _⟩
end Go.Proofs.Ytpbepmipfjcjbaa
namespace Go.Proofs.Ytpbepmipfjcjbaa
open Go.RowKit





structure Act where
  kind : Int
  t : Timer
  now : Int
def Act.val (a : Act) : Value := .agg #[.int .i64 a.kind, .int .u64 a.t.at_, .int .u64 a.t.seq, .int .i64 a.t.place, .int .u64 a.now]
def tV (e : Int) (t : Timer) (d : Value) : Value := .agg #[.int .i64 e, .int .u64 t.at_, .int .u64 t.seq, .int .i64 t.place, d]
def doV (P : Int) (v : Value) (e : Int) (t : Timer) (d : Value) : Value := .tuple #[qV P v, tV e t d]
/-- What an act makes of the list. -/
def doL (P : Int) (l : List Timer) (a : Act) : List Timer := if a.kind = 0 then insL P l a.t else if a.kind = 1 then canL P l a.t.place else if a.kind = 2 then movL P l a.t else if a.kind = 3 then dueL l a.now false else l
def doE (P : Int) (l : List Timer) (a : Act) : Int := if a.kind = 0 then insC P l a.t else if a.kind = 1 then canC P l a.t.place else if a.kind = 2 then movC P l a.t else 0
def doT (P : Int) (l : List Timer) (a : Act) : Timer := if a.kind = 1 then canT P l a.t.place else Timer.zero
def doD (l : List Timer) (a : Act) : List Timer := if a.kind = 3 then dueL l a.now true else []
theorem four_new (w : World) (a b c d : Obj) : Below w.heap.size w ((((w.alloc a).alloc b).alloc c).alloc d) := ((((Below.refl _ _).alloc (Nat.le_refl _) _).alloc (by simp) _).alloc (by simp; omega) _).alloc (by simp; omega) _
theorem alloc4_at (w : World) (a b c : Obj) (t : TypeId) (cs : Array Value) : Blk ((((w.alloc a).alloc b).alloc c).alloc (.cells cs t)) (w.heap.size + 1 + 1 + 1) t cs := by simpa using Blk.new (((w.alloc a).alloc b).alloc c) t cs
/-- The four boxes of Do. -/
structure Box4 (P : Int) (v : Value) (a : Act) (w : World) (w' : World) : Prop where
  b0 : Blk w' w.heap.size 30 #[.int .i64 P, v]
  b1 : Blk w' (w.heap.size + 1) 41 #[.int .i64 a.kind, .int .u64 a.t.at_, .int .u64 a.t.seq, .int .i64 a.t.place, .int .u64 a.now]
  b2 : Blk w' (w.heap.size + 1 + 1) 30 #[.int .i64 0, .slice none 0 0]
  b3 : Blk w' (w.heap.size + 1 + 1 + 1) 37 #[.int .i64 0, .int .u64 0, .int .u64 0, .int .i64 0, .slice none 0 0]
  below : Below w.heap.size w w'
theorem Box4.new (P : Int) (v : Value) (a : Act) (w : World) : Box4 P v a w ((((w.alloc (.cells #[.int .i64 P, v] 30)).alloc (.cells #[.int .i64 a.kind, .int .u64 a.t.at_, .int .u64 a.t.seq, .int .i64 a.t.place, .int .u64 a.now] 41)).alloc (.cells #[.int .i64 0, .slice none 0 0] 30)).alloc (.cells #[.int .i64 0, .int .u64 0, .int .u64 0, .int .i64 0, .slice none 0 0] 37)) :=
  ⟨(((Blk.new _ _ _).alloc _).alloc _).alloc _, ((alloc2_at _ _ _ _).alloc _).alloc _, (alloc3_at _ _ _ _ _).alloc _, alloc4_at _ _ _ _ _ _, four_new _ _ _ _ _⟩
theorem Box4.kept {P : Int} {v : Value} {a : Act} {w x y : World} (h : Box4 P v a w x) (k : Below x.heap.size x y) : Box4 P v a w y :=
  ⟨h.b0.below k h.b0.lt, h.b1.below k h.b1.lt, h.b2.below k h.b2.lt, h.b3.below k h.b3.lt, h.below.trans (Below.mono k h.below.size)⟩
theorem Box4.alloc {P : Int} {v : Value} {a : Act} {w x : World} (h : Box4 P v a w x) (o : Obj) : Box4 P v a w (x.alloc o) := h.kept (alloc_kept' x o)
/-- Cells of blocks that only this call knows may be written. -/
theorem LAt.setCell {w : World} {v : Value} {l : List Timer} (h : LAt w v l) (p : Addr) (u : Value) (hp : ∀ g, blkOf v = some g → g ≠ p.block) : LAt (w.setCell p u) v l :=
  h.far (by simp [World.setCell]) fun g hg => Below.heap_setCell _ _ _ _ (hp g hg)
theorem LAt.lies {w : World} {v : Value} {l : List Timer} (h : LAt w v l) : ∀ g, blkOf v = some g → Lies w g := by
  obtain ⟨A, c, rfl, _, _, _, _, h5⟩ := h
  intro g hg
  refine h5 g ?_
  cases A with
  | none => simp [blkOf] at hg
  | some a => simpa [blkOf] using hg
theorem LAt.blk {w : World} {v : Value} {l : List Timer} (h : LAt w v l) : ∀ g, blkOf v = some g → g < w.heap.size := fun g hg => (h.lies g hg).lt
/-- Two boxes are filled. -/
structure Fin7 (w x W : World) (g2 g3 : Nat) (tq tt : TypeId) (y0 y1 z0 z1 z2 z3 z4 : Value) : Prop where
  b2 : Blk W g2 tq #[y0, y1]
  b3 : Blk W g3 tt #[z0, z1, z2, z3, z4]
  below : Below w.heap.size w W
  keep : ∀ v l, LAt x v l → (∀ g, blkOf v = some g → g ≠ g2 ∧ g ≠ g3) → LAt W v l
theorem fin7 {w x : World} {g2 g3 : Nat} {tq tt : TypeId} {o0 o1 p0 p1 p2 p3 p4 : Value} (y0 y1 z0 z1 z2 z3 z4 : Value) (h2 : Blk x g2 tq #[o0, o1]) (h3 : Blk x g3 tt #[p0, p1, p2, p3, p4]) (hb : Below w.heap.size w x) (hne : g2 ≠ g3) (l2 : w.heap.size ≤ g2) (l3 : w.heap.size ≤ g3) :
    Fin7 w x (((((((x.setCell ⟨g2, 0, none⟩ y0).setCell ⟨g2, 1, none⟩ y1).setCell ⟨g3, 0, none⟩ z0).setCell ⟨g3, 1, none⟩ z1).setCell ⟨g3, 2, none⟩ z2).setCell ⟨g3, 3, none⟩ z3).setCell ⟨g3, 4, none⟩ z4) g2 g3 tq tt y0 y1 z0 z1 z2 z3 z4 := by
  refine ⟨?_, ?_, ?_, ?_⟩
  · have := (((((((h2.put 0 y0).put 1 y1).far (p := ⟨g3, 0, none⟩) hne z0).far (p := ⟨g3, 1, none⟩) hne z1).far (p := ⟨g3, 2, none⟩) hne z2).far (p := ⟨g3, 3, none⟩) hne z3).far (p := ⟨g3, 4, none⟩) hne z4)
    simpa using this
  · have := (((((((h3.far (p := ⟨g2, 0, none⟩) hne.symm y0).far (p := ⟨g2, 1, none⟩) hne.symm y1).put 0 z0).put 1 z1).put 2 z2).put 3 z3).put 4 z4)
    simpa using this
  · exact ((((((hb.setCell (p := ⟨g2, 0, none⟩) l2 y0).setCell (p := ⟨g2, 1, none⟩) l2 y1).setCell (p := ⟨g3, 0, none⟩) l3 z0).setCell (p := ⟨g3, 1, none⟩) l3 z1).setCell (p := ⟨g3, 2, none⟩) l3 z2).setCell (p := ⟨g3, 3, none⟩) l3 z3).setCell (p := ⟨g3, 4, none⟩) l3 z4
  · intro v l h hg
    exact ((((((h.setCell ⟨g2, 0, none⟩ y0 fun g hv => (hg g hv).1).setCell ⟨g2, 1, none⟩ y1 fun g hv => (hg g hv).1).setCell ⟨g3, 0, none⟩ z0 fun g hv => (hg g hv).2).setCell ⟨g3, 1, none⟩ z1 fun g hv => (hg g hv).2).setCell ⟨g3, 2, none⟩ z2 fun g hv => (hg g hv).2).setCell ⟨g3, 3, none⟩ z3 fun g hv => (hg g hv).2).setCell ⟨g3, 4, none⟩ z4 fun g hv => (hg g hv).2
theorem Fin7.alloc {w x W : World} {g2 g3 : Nat} {tq tt : TypeId} {y0 y1 z0 z1 z2 z3 z4 : Value} (h : Fin7 w x W g2 g3 tq tt y0 y1 z0 z1 z2 z3 z4) (o : Obj) : Fin7 w x (W.alloc o) g2 g3 tq tt y0 y1 z0 z1 z2 z3 z4 :=
  ⟨h.b2.alloc o, h.b3.alloc o, h.below.alloc h.below.size o, fun v l a b => (h.keep v l a b).on (alloc_kept' _ o)⟩
attribute [local irreducible] Calls
set_option maxRecDepth 100000 in
set_option maxHeartbeats 4000000 in
theorem rdo_ins (P : Int) (v : Value) (l : List Timer) (a : Act) (w : World) (h : LAt w v l) (hl : l.length ≤ 100000) (hk : a.kind = 0) :
    Calls Try.prog 11 #[qV P v, a.val] w fun e w' => ∃ v', e = .returned (doV P v' (insC P l a.t) Timer.zero (.slice none 0 0)) ∧ LAt w' v' (insL P l a.t) ∧ Below w.heap.size w w' ∧ FreshV w v v' := by
  have k0 := Box4.new P v a w
  obtain ⟨A, c, rfl, hrest⟩ := h
  have h0 : LAt w (.slice A l.length c) l := ⟨A, c, rfl, hrest⟩
  have hV := h0.blk
  have h4 := h0.on k0.below
  clear hrest
  unfold qV Act.val
  have hins := rins_any P _ l a.t _ h4 hl
  unfold qV Timer.val at hins
  have hk' : (a.kind == 0) = true := by simp [hk]
  rw [hk] at k0 hins ⊢
  clear hk hk'
  go_enter Try.func11, Try.ntmps11
  go_wp2_with fail
  refine hins.mono ?_
  rintro e w1 ⟨v1, rfl, hv1, hx, hfr⟩
  have k1 := k0.kept hx
  obtain ⟨A1, c1, rfl, hrest1⟩ := hv1
  have hv1 : LAt w1 (.slice A1 (insL P l a.t).length c1) (insL P l a.t) := ⟨A1, c1, rfl, hrest1⟩
  clear hrest1 hx hins h4 k0
  have hbl : Hid (∀ g, blkOf (.slice A1 (insL P l a.t).length c1) = some g → (blkOf (.slice A l.length c) = some g ∧ g < w.heap.size) ∨ w.heap.size + 1 + 1 + 1 + 1 ≤ g) := Lib.hid (by
    intro g hg
    rcases hfr g hg with h | h
    · exact .inl ⟨h, hV g h⟩
    · right
      simpa using h)
  have hM := Lib.hid hv1
  unfold qE qV
  generalize (insL P l a.t).length = n1 at *
  clear hfr hv1 hV
  have d1 := k1.b1.cell
  have d2 := k1.b2.cell
  have d3 := k1.b3.cell
  have f2 := k1.b2.frozen
  have f3 := k1.b3.frozen
  have l1 := k1.b1.lt
  have l2 := k1.b2.lt
  have l3 := k1.b3.lt
  go_wp2_with fail
  have hF := fin7 (w := w) (.int .i64 P) (.slice A1 n1 c1) (.int .i64 (insC P l a.t)) (.int .u64 0) (.int .u64 0) (.int .i64 0) (.slice none 0 0) k1.b2 k1.b3 k1.below (by omega) (by omega) (by omega)
  have s2 := fun o => (hF.alloc o).b2.cell
  have s3 := fun o => (hF.alloc o).b3.cell
  refine bodyPost_ret (v := doV P (.slice A1 n1 c1) (insC P l a.t) Timer.zero (.slice none 0 0)) ?_ rfl ⟨.slice A1 n1 c1, rfl, ?_, (hF.alloc _).below, ?_⟩
  · simp [results, Try.results11, go_sem, doV, tV, qV, Timer.zero, s2, s3]
  · exact (hF.alloc _).keep _ _ hM.out (fun g hg => by have := hbl.out g hg; omega)
  · intro g hg
    rcases hbl.out g hg with h | h
    · exact .inl h.1
    · exact .inr (by omega)
set_option maxRecDepth 100000 in
set_option maxHeartbeats 4000000 in
theorem rdo_mov (P : Int) (v : Value) (l : List Timer) (a : Act) (w : World) (h : LAt w v l) (hl : l.length ≤ 100000) (hk : a.kind = 2) :
    Calls Try.prog 11 #[qV P v, a.val] w fun e w' => ∃ v', e = .returned (doV P v' (movC P l a.t) Timer.zero (.slice none 0 0)) ∧ LAt w' v' (movL P l a.t) ∧ Below w.heap.size w w' ∧ FreshV w v v' := by
  have k0 := Box4.new P v a w
  obtain ⟨A, c, rfl, hrest⟩ := h
  have h0 : LAt w (.slice A l.length c) l := ⟨A, c, rfl, hrest⟩
  have hV := h0.blk
  have h4 := h0.on k0.below
  clear hrest
  unfold qV Act.val
  have hins := rmove_any P _ l a.t _ h4 hl
  unfold qV Timer.val at hins
  have hk' : (a.kind == 2) = true := by simp [hk]
  rw [hk] at k0 hins ⊢
  clear hk hk'
  go_enter Try.func11, Try.ntmps11
  go_wp2_with fail
  refine hins.mono ?_
  rintro e w1 ⟨v1, rfl, hv1, hx, hfr⟩
  have k1 := k0.kept hx
  obtain ⟨A1, c1, rfl, hrest1⟩ := hv1
  have hv1 : LAt w1 (.slice A1 (movL P l a.t).length c1) (movL P l a.t) := ⟨A1, c1, rfl, hrest1⟩
  clear hrest1 hx hins h4 k0
  have hbl : Hid (∀ g, blkOf (.slice A1 (movL P l a.t).length c1) = some g → (blkOf (.slice A l.length c) = some g ∧ g < w.heap.size) ∨ w.heap.size + 1 + 1 + 1 + 1 ≤ g) := Lib.hid (by
    intro g hg
    rcases hfr g hg with h | h
    · exact .inl ⟨h, hV g h⟩
    · right
      simpa using h)
  have hM := Lib.hid hv1
  unfold qE qV
  generalize (movL P l a.t).length = n1 at *
  clear hfr hv1 hV
  have d1 := k1.b1.cell
  have d2 := k1.b2.cell
  have d3 := k1.b3.cell
  have f2 := k1.b2.frozen
  have f3 := k1.b3.frozen
  have l1 := k1.b1.lt
  have l2 := k1.b2.lt
  have l3 := k1.b3.lt
  go_wp2_with fail
  have hF := fin7 (w := w) (.int .i64 P) (.slice A1 n1 c1) (.int .i64 (movC P l a.t)) (.int .u64 0) (.int .u64 0) (.int .i64 0) (.slice none 0 0) k1.b2 k1.b3 k1.below (by omega) (by omega) (by omega)
  have s2 := fun o => (hF.alloc o).b2.cell
  have s3 := fun o => (hF.alloc o).b3.cell
  refine bodyPost_ret (v := doV P (.slice A1 n1 c1) (movC P l a.t) Timer.zero (.slice none 0 0)) ?_ rfl ⟨.slice A1 n1 c1, rfl, ?_, (hF.alloc _).below, ?_⟩
  · simp [results, Try.results11, go_sem, doV, tV, qV, Timer.zero, s2, s3]
  · exact (hF.alloc _).keep _ _ hM.out (fun g hg => by have := hbl.out g hg; omega)
  · intro g hg
    rcases hbl.out g hg with h | h
    · exact .inl h.1
    · exact .inr (by omega)
set_option maxRecDepth 100000 in
set_option maxHeartbeats 4000000 in
theorem rdo_due (P : Int) (v : Value) (l : List Timer) (a : Act) (w : World) (h : LAt w v l) (hl : l.length ≤ 100000) (hk : a.kind = 3) :
    Calls Try.prog 11 #[qV P v, a.val] w fun e w' => ∃ v' u, e = .returned (doV P v' 0 Timer.zero u) ∧ LAt w' v' (dueL l a.now false) ∧ LAt w' u (dueL l a.now true) ∧ Below w.heap.size w w' ∧ FreshV w v v' ∧ FreshV w (.slice none 0 0) u := by
  have k0 := Box4.new P v a w
  obtain ⟨A, c, rfl, hrest⟩ := h
  have h0 : LAt w (.slice A l.length c) l := ⟨A, c, rfl, hrest⟩
  have hV := h0.blk
  have h4 := h0.on k0.below
  clear hrest
  unfold qV Act.val
  have hins := rdue_any P _ l a.now _ h4 hl
  unfold qV at hins
  rw [hk] at k0 hins ⊢
  clear hk
  go_enter Try.func11, Try.ntmps11
  go_wp2_with fail
  refine hins.mono ?_
  rintro e w1 ⟨v1, u1, rfl, hv1, hu1, hx, hfr, hfu⟩
  have k1 := k0.kept hx
  obtain ⟨A1, c1, rfl, hrest1⟩ := hv1
  have hv1 : LAt w1 (.slice A1 (dueL l a.now false).length c1) (dueL l a.now false) := ⟨A1, c1, rfl, hrest1⟩
  obtain ⟨A2, c2, rfl, hrest2⟩ := hu1
  have hu1 : LAt w1 (.slice A2 (dueL l a.now true).length c2) (dueL l a.now true) := ⟨A2, c2, rfl, hrest2⟩
  clear hrest1 hrest2 hx hins h4 k0
  have hbl : Hid (∀ g, blkOf (.slice A1 (dueL l a.now false).length c1) = some g → (blkOf (.slice A l.length c) = some g ∧ g < w.heap.size) ∨ w.heap.size + 1 + 1 + 1 + 1 ≤ g) := Lib.hid (by
    intro g hg
    rcases hfr g hg with h | h
    · exact .inl ⟨h, hV g h⟩
    · right
      simpa using h)
  have hbu : Hid (∀ g, blkOf (.slice A2 (dueL l a.now true).length c2) = some g → w.heap.size + 1 + 1 + 1 + 1 ≤ g) := Lib.hid (by
    intro g hg
    rcases hfu g hg with h | h
    · cases h
    · simpa using h)
  have hM := Lib.hid hv1
  have hN := Lib.hid hu1
  unfold qL qV
  generalize (dueL l a.now false).length = n1 at *
  generalize (dueL l a.now true).length = n2 at *
  clear hfr hfu hv1 hu1 hV
  have d1 := k1.b1.cell
  have d2 := k1.b2.cell
  have d3 := k1.b3.cell
  have f2 := k1.b2.frozen
  have f3 := k1.b3.frozen
  have l1 := k1.b1.lt
  have l2 := k1.b2.lt
  have l3 := k1.b3.lt
  go_wp2_with fail
  have hF := fin7 (w := w) (.int .i64 P) (.slice A1 n1 c1) (.int .i64 0) (.int .u64 0) (.int .u64 0) (.int .i64 0) (.slice A2 n2 c2) k1.b2 k1.b3 k1.below (by omega) (by omega) (by omega)
  have s2 := fun o => (hF.alloc o).b2.cell
  have s3 := fun o => (hF.alloc o).b3.cell
  refine bodyPost_ret (v := doV P (.slice A1 n1 c1) 0 Timer.zero (.slice A2 n2 c2)) ?_ rfl ⟨.slice A1 n1 c1, .slice A2 n2 c2, rfl, ?_, ?_, (hF.alloc _).below, ?_, ?_⟩
  · simp [results, Try.results11, go_sem, doV, tV, qV, Timer.zero, s2, s3]
  · exact (hF.alloc _).keep _ _ hM.out (fun g hg => by have := hbl.out g hg; omega)
  · exact (hF.alloc _).keep _ _ hN.out (fun g hg => by have := hbu.out g hg; omega)
  · intro g hg
    rcases hbl.out g hg with h | h
    · exact .inl h.1
    · exact .inr (by omega)
  · intro g hg
    exact .inr (by have := hbu.out g hg; omega)
set_option maxRecDepth 100000 in
set_option maxHeartbeats 4000000 in
theorem rdo_none (P : Int) (v : Value) (l : List Timer) (a : Act) (w : World) (h : LAt w v l) (hk0 : (a.kind == 0) = false) (hk1 : (a.kind == 1) = false) (hk2 : (a.kind == 2) = false) (hk3 : (a.kind == 3) = false) :
    Calls Try.prog 11 #[qV P v, a.val] w fun e w' => e = .returned (doV P v 0 Timer.zero (.slice none 0 0)) ∧ Below w.heap.size w w' := by
  have k0 := Box4.new P v a w
  obtain ⟨A, c, rfl, hrest⟩ := h
  have h0 : LAt w (.slice A l.length c) l := ⟨A, c, rfl, hrest⟩
  have hV := h0.blk
  have h4 := h0.on k0.below
  clear hrest
  unfold qV Act.val
  clear h4 hV
  have HB := Lib.hid (four_new w)
  clear k0
  go_enter Try.func11, Try.ntmps11
  go_wp2_with fail
  refine bodyPost_ret (v := doV P (.slice A l.length c) 0 Timer.zero (.slice none 0 0)) ?_ rfl ⟨rfl, ?_⟩
  · simp [results, Try.results11, go_sem, doV, tV, qV, Timer.zero]
  · exact HB.out _ _ _ _
end Go.Proofs.Ytpbepmipfjcjbaa
namespace Go.Proofs.Ytpbepmipfjcjbaa
open Go.RowKit
structure SC (P : Int) (v : Value) (x : Timer) (g8 : Nat) (w' : World) : Prop where
  b8 : Blk w' g8 30 #[.int .i64 P, v]
  b9 : Blk w' (g8 + 1) 35 #[.int .u64 x.at_, .int .u64 x.seq, .int .i64 x.place]
theorem SC.all {P : Int} {v : Value} {x : Timer} {g8 : Nat} {w' : World} (h : SC P v x g8 w') : (∀ i, w'.cell? ⟨g8, i, none⟩ = (#[.int .i64 P, v] : Array Value)[i]?) ∧ (∀ i, w'.cell? ⟨g8 + 1, i, none⟩ = (#[.int .u64 x.at_, .int .u64 x.seq, .int .i64 x.place] : Array Value)[i]?) ∧ SC P v x g8 w' := ⟨h.b8.cell, h.b9.cell, h⟩
theorem SC.far {P : Int} {v : Value} {x : Timer} {g8 : Nat} {w' : World} (h : SC P v x g8 w') (p : Addr) (u : Value) (hp : p.block < g8) : SC P v x g8 (w'.setCell p u) := ⟨h.b8.far (by omega) u, h.b9.far (by omega) u⟩
theorem SC.drew {P : Int} {v : Value} {x : Timer} {g8 : Nat} {w' : World} (h : SC P v x g8 w') : SC P v x g8 w'.drew := ⟨h.b8.drew, h.b9.drew⟩
theorem Fin7.drew {w x W : World} {g2 g3 : Nat} {tq tt : TypeId} {y0 y1 z0 z1 z2 z3 z4 : Value} (h : Fin7 w x W g2 g3 tq tt y0 y1 z0 z1 z2 z3 z4) : Fin7 w x W.drew g2 g3 tq tt y0 y1 z0 z1 z2 z3 z4 := ⟨h.b2.drew, h.b3.drew, h.below.drew, fun v l a b => h.keep v l a b⟩
attribute [local irreducible] Calls
set_option maxRecDepth 100000 in
set_option maxHeartbeats 4000000 in
theorem rdo_can (P : Int) (v : Value) (l : List Timer) (a : Act) (w : World) (h : LAt w v l) (hl : l.length ≤ 100000) (hk : a.kind = 1) :
    Calls Try.prog 11 #[qV P v, a.val] w fun e w' => ∃ v', e = .returned (doV P v' (canC P l a.t.place) (canT P l a.t.place) (.slice none 0 0)) ∧ LAt w' v' (canL P l a.t.place) ∧ Below w.heap.size w w' ∧ FreshV w v v' := by
  have k0 := Box4.new P v a w
  obtain ⟨A, c, rfl, hrest⟩ := h
  have h0 : LAt w (.slice A l.length c) l := ⟨A, c, rfl, hrest⟩
  have hV := h0.blk
  have h4 := h0.on k0.below
  clear hrest
  unfold qV Act.val
  have hins := rcan_any P _ l a.t.place _ h4 hl
  unfold qV at hins
  rw [hk] at k0 hins ⊢
  clear hk
  go_enter Try.func11, Try.ntmps11
  go_wp2_with fail
  refine hins.mono ?_
  rintro e w1 ⟨v1, rfl, hv1, hx, hfr⟩
  have k1 := k0.kept hx
  obtain ⟨A1, c1, rfl, hrest1⟩ := hv1
  have hv1 : LAt w1 (.slice A1 (canL P l a.t.place).length c1) (canL P l a.t.place) := ⟨A1, c1, rfl, hrest1⟩
  clear hrest1 hx hins h4 k0
  have hbl : Hid (∀ g, blkOf (.slice A1 (canL P l a.t.place).length c1) = some g → (blkOf (.slice A l.length c) = some g ∧ g < w.heap.size) ∨ w.heap.size + 1 + 1 + 1 + 1 ≤ g) := Lib.hid (by
    intro g hg
    rcases hfr g hg with h | h
    · exact .inl ⟨h, hV g h⟩
    · right
      simpa using h)
  have hM := Lib.hid hv1
  unfold qTE qV Timer.val
  generalize (canL P l a.t.place).length = n1 at *
  generalize hx : canT P l a.t.place = x at *
  clear hfr hv1 hV
  have d1 := k1.b1.cell
  have l1 := k1.b1.lt
  have l2 := k1.b2.lt
  have l3 := k1.b3.lt
  have HX := Lib.hid hx
  clear hx
  go_upto_region 6 with fail
  have z2 := (k1.b2.alloc (.cells #[.int .i64 P, .slice A1 n1 c1] 30)).alloc (.cells #[.int .u64 x.at_, .int .u64 x.seq, .int .i64 x.place] 35)
  have z3 := (k1.b3.alloc (.cells #[.int .i64 P, .slice A1 n1 c1] 30)).alloc (.cells #[.int .u64 x.at_, .int .u64 x.seq, .int .i64 x.place] 35)
  have zb := (k1.below.alloc k1.below.size (.cells #[.int .i64 P, .slice A1 n1 c1] 30)).alloc (by have := k1.below.size; simp; omega) (.cells #[.int .u64 x.at_, .int .u64 x.seq, .int .i64 x.place] 35)
  have hM2 : Hid (LAt ((w1.alloc (.cells #[.int .i64 P, .slice A1 n1 c1] 30)).alloc (.cells #[.int .u64 x.at_, .int .u64 x.seq, .int .i64 x.place] 35)) (.slice A1 n1 c1) (canL P l a.t.place)) := Lib.hid (hM.out.on (((Below.refl _ _).alloc (Nat.le_refl _) _).alloc (by simp) _))
  have q0 : SC P (.slice A1 n1 c1) x w1.heap.size ((w1.alloc (.cells #[.int .i64 P, .slice A1 n1 c1] 30)).alloc (.cells #[.int .u64 x.at_, .int .u64 x.seq, .int .i64 x.place] 35)) := ⟨(Blk.new _ _ _).alloc _, alloc2_at _ _ _ _⟩
  clear k1 d1 hM l1
  generalize (w1.alloc (.cells #[.int .i64 P, .slice A1 n1 c1] 30)).alloc (.cells #[.int .u64 x.at_, .int .u64 x.seq, .int .i64 x.place] 35) = w2 at *
  generalize w1.heap.size = g8 at *
  have y2 := z2
  have y3 := z3
  have e2 := y2.cell
  have e3 := y3.cell
  have e4 := y2.frozen
  have e5 := y3.frozen
  have qa := q0.drew.all
  have qb := ((q0.far ⟨w.heap.size + 1 + 1, 0, none⟩ (.int .i64 P) l2).far ⟨w.heap.size + 1 + 1, 1, none⟩ (.slice A1 n1 c1) l2).drew.all
  have qc := (((((((q0.far ⟨w.heap.size + 1 + 1, 0, none⟩ (.int .i64 P) l2).far ⟨w.heap.size + 1 + 1, 1, none⟩ (.slice A1 n1 c1) l2).far ⟨w.heap.size + 1 + 1 + 1, 0, none⟩ (.int .i64 (canC P l a.t.place)) l3).far ⟨w.heap.size + 1 + 1 + 1, 1, none⟩ (.int .u64 x.at_) l3).far ⟨w.heap.size + 1 + 1 + 1, 2, none⟩ (.int .u64 x.seq) l3).far ⟨w.heap.size + 1 + 1 + 1, 3, none⟩ (.int .i64 x.place) l3).far ⟨w.heap.size + 1 + 1 + 1, 4, none⟩ (.slice none 0 0) l3).drew.all
  go_region_held3 (fun w' => (∀ i, w'.cell? ⟨g8, i, none⟩ = (#[.int .i64 P, .slice A1 n1 c1] : Array Value)[i]?) ∧ (∀ i, w'.cell? ⟨g8 + 1, i, none⟩ = (#[.int .u64 x.at_, .int .u64 x.seq, .int .i64 x.place] : Array Value)[i]?) ∧ SC P (.slice A1 n1 c1) x g8 w')
    (first | with_reducible exact qa | with_reducible exact qb | with_reducible exact qc)
    (fail)
  clear qa qb qc e2 e3 e4 e5
  go_wp2_with fail
  have hF := fin7 (w := w) (.int .i64 P) (.slice A1 n1 c1) (.int .i64 (canC P l a.t.place)) (.int .u64 x.at_) (.int .u64 x.seq) (.int .i64 x.place) (.slice none 0 0) z2 z3 zb (by omega) (by omega) (by omega) |>.drew
  have s2 := hF.b2.cell
  have s3 := hF.b3.cell
  refine bodyPost_ret (v := doV P (.slice A1 n1 c1) (canC P l a.t.place) x (.slice none 0 0)) ?_ rfl ⟨.slice A1 n1 c1, by rw [HX.out], ?_, hF.below, ?_⟩
  · simp [results, Try.results11, go_sem, doV, tV, qV, s2, s3]
  · exact hF.keep _ _ hM2.out (fun g hg => by have := hbl.out g hg; omega)
  · intro g hg
    rcases hbl.out g hg with h | h
    · exact .inl h.1
    · exact .inr (by omega)
theorem rdo_any (P : Int) (v : Value) (l : List Timer) (a : Act) (w : World) (h : LAt w v l) (hl : l.length ≤ 100000) :
    Calls Try.prog 11 #[qV P v, a.val] w fun e w' => ∃ v' u, e = .returned (doV P v' (doE P l a) (doT P l a) u) ∧ LAt w' v' (doL P l a) ∧ LAt w' u (doD l a) ∧ Below w.heap.size w w' ∧ FreshV w v v' ∧ FreshV w (.slice none 0 0) u := by
  by_cases h0 : a.kind = 0
  · have e1 : doE P l a = insC P l a.t := by simp [doE, h0]
    have e2 : doT P l a = Timer.zero := by simp [doT, h0]
    have e3 : doL P l a = insL P l a.t := by simp [doL, h0]
    have e4 : doD l a = [] := by simp [doD, h0]
    rw [e1, e2, e3, e4]
    refine (rdo_ins P v l a w h hl h0).mono ?_
    rintro e w' ⟨v', rfl, hv, hb, hf⟩
    exact ⟨v', _, rfl, hv, LAt.nil _, hb, hf, FreshV.same _ _⟩
  by_cases h1 : a.kind = 1
  · have e1 : doE P l a = canC P l a.t.place := by simp [doE, h1]
    have e2 : doT P l a = canT P l a.t.place := by simp [doT, h1]
    have e3 : doL P l a = canL P l a.t.place := by simp [doL, h1]
    have e4 : doD l a = [] := by simp [doD, h1]
    rw [e1, e2, e3, e4]
    refine (rdo_can P v l a w h hl h1).mono ?_
    rintro e w' ⟨v', rfl, hv, hb, hf⟩
    exact ⟨v', _, rfl, hv, LAt.nil _, hb, hf, FreshV.same _ _⟩
  by_cases h2 : a.kind = 2
  · have e1 : doE P l a = movC P l a.t := by simp [doE, h2]
    have e2 : doT P l a = Timer.zero := by simp [doT, h2]
    have e3 : doL P l a = movL P l a.t := by simp [doL, h2]
    have e4 : doD l a = [] := by simp [doD, h2]
    rw [e1, e2, e3, e4]
    refine (rdo_mov P v l a w h hl h2).mono ?_
    rintro e w' ⟨v', rfl, hv, hb, hf⟩
    exact ⟨v', _, rfl, hv, LAt.nil _, hb, hf, FreshV.same _ _⟩
  by_cases h3 : a.kind = 3
  · have e1 : doE P l a = 0 := by simp [doE, h3]
    have e2 : doT P l a = Timer.zero := by simp [doT, h3]
    have e3 : doL P l a = dueL l a.now false := by simp [doL, h3]
    have e4 : doD l a = dueL l a.now true := by simp [doD, h3]
    rw [e1, e2, e3, e4]
    refine (rdo_due P v l a w h hl h3).mono ?_
    rintro e w' ⟨v', u, rfl, hv, hu, hb, hf, hg⟩
    exact ⟨v', u, rfl, hv, hu, hb, hf, hg⟩
  · have e1 : doE P l a = 0 := by simp [doE, h0, h1, h2]
    have e2 : doT P l a = Timer.zero := by simp [doT, h1]
    have e3 : doL P l a = l := by simp [doL, h0, h1, h2, h3]
    have e4 : doD l a = [] := by simp [doD, h3]
    rw [e1, e2, e3, e4]
    refine (rdo_none P v l a w h (by simp [h0]) (by simp [h1]) (by simp [h2]) (by simp [h3])).mono ?_
    rintro e w' ⟨rfl, hb⟩
    exact ⟨v, _, rfl, h.on hb, LAt.nil _, hb, FreshV.same _ _, FreshV.same _ _⟩
end Go.Proofs.Ytpbepmipfjcjbaa
