/- The law: the texts LawRP, laid end to end by a program. -/
import Derived.Test.YtckkfbepclogcaaGreatDoorPk19
import Derived.Test.YtckkfbepclogcaaGreatDoorPcFactsV
import Derived.Test.YtckkfbepclogcaaGreatDoorPk24
import Derived.Test.YtckkfbepclogcaaGreatDoorPcRefF
import Derived.Test.YtckkfbepclogcaaGreatDoorPcRefG
namespace Go.Proofs.YtckkfbepclogcaaGreatDoor
open Go.RowKit

theorem doL_u64 {P : Int} {m : List Timer} {a : Act} (h : ∀ x ∈ m, U64 x.at_) (ha : U64 a.t.at_) : ∀ x ∈ doL P m a, U64 x.at_ := by
  have hput : ∀ l : List Timer, (∀ x ∈ l, U64 x.at_) → ∀ x ∈ putL l a.t, U64 x.at_ := by
    intro l hl x hx
    rcases List.mem_cons.1 ((putL_perm l a.t).mem_iff.1 hx) with rfl | hx
    · exact ha
    · exact hl x hx
  have hins : ∀ l : List Timer, (∀ x ∈ l, U64 x.at_) → ∀ x ∈ insL P l a.t, U64 x.at_ := by
    intro l hl
    unfold insL
    split
    · exact hput l hl
    · exact hl
  have hwo : ∀ p, ∀ x ∈ withoutL m p, U64 x.at_ := fun p x hx => h x (List.mem_filter.1 hx).1
  unfold doL
  split
  · exact hins m h
  split
  · unfold canL
    split
    · exact hwo _
    · exact h
  split
  · unfold movL
    split
    · exact hins _ (hwo _)
    · exact h
  split
  · intro x hx
    exact h x (rest_mem hx).1
  · exact h
theorem behind_u64 (P : Int) : ∀ (l : List Act) (m : List Timer), (∀ x ∈ m, U64 x.at_) → AcOk l → ∀ x ∈ l.foldl (doL P) m, U64 x.at_ := by
  intro l
  induction l with
  | nil => intro m h _; exact h
  | cons a l ih =>
    intro m h ha
    exact ih _ (doL_u64 h (ha a (by simp)).1) fun x hx => ha x (by simp [hx])
/-- What the rounds keep: the wheel, the document's wheel in its box at g, its list apart from the wheel. -/
structure HP (w0 : World) (g q tb c nb P bb S : Nat) (bits base lk : Int) (m : List Timer) (v : Value) (w : World) : Prop where
  wheel : RQ w q tb c nb P bb S base lk m
  box : Blk w g 33 #[.int .i64 P, v, .int .i64 bits, .int .u64 base, .int .i64 lk]
  lat : LAt w v m
  apart : ∀ k, blkOf v = some k → ¬ HS q tb nb k ∧ k ≠ g
  below : Below w0.heap.size w0 w
/-- Where the document's new list may lie. -/
def NW (B : Nat) (v0 v' : Value) : Prop := ∀ k, blkOf v' = some k → blkOf v0 = some k ∨ B ≤ k
/-- The document's new wheel. -/
def WAt (B : Nat) (v0 : Value) (P bits b' lk' : Int) (m' : List Timer) (v : Value) (w : World) : Prop := ∃ v', v = wV P v' bits b' lk' ∧ LAt w v' m' ∧ NW B v0 v'
/-- No list's block is turned. -/
def RT (w w' : World) : Prop := w.heap.size ≤ w'.heap.size ∧ ∀ k, Lies w k → w'.heap[k]? = w.heap[k]?
theorem LAt.rt {w w' : World} {v : Value} {l : List Timer} (h : LAt w v l) (r : RT w w') : LAt w' v l := h.far r.1 fun g hg => r.2 g (h.lies g hg)
theorem WAt.rt {B : Nat} {v0 v : Value} {P bits b' lk' : Int} {m' : List Timer} {w w' : World} (h : WAt B v0 P bits b' lk' m' v w) (r : RT w w') : WAt B v0 P bits b' lk' m' v w' := by
  obtain ⟨v', e, h1, h2⟩ := h
  exact ⟨v', e, h1.rt r, h2⟩
theorem ToldAt.rt {B : Nat} {e : Int} {t : Timer} {l : List Timer} {v : Value} {w w' : World} (h : ToldAt B e t l v w) (r : RT w w') : ToldAt B e t l v w' := by
  obtain ⟨u, rfl, h⟩ := h
  exact ⟨u, rfl, h.at_.rt r, h.ge⟩
theorem RT.below {w w' : World} (r : Below w.heap.size w w') : RT w w' := ⟨r.size, fun k h => r.block k h.lt⟩
theorem heap_put5 (w : World) (x k : Nat) (h : k ≠ x) (v0 v1 v2 v3 v4 : Value) : (((((w.setCell ⟨x, 0, none⟩ v0).setCell ⟨x, 1, none⟩ v1).setCell ⟨x, 2, none⟩ v2).setCell ⟨x, 3, none⟩ v3).setCell ⟨x, 4, none⟩ v4).heap[k]? = w.heap[k]? := by
  rw [Below.heap_setCell _ _ _ _ h, Below.heap_setCell _ _ _ _ h, Below.heap_setCell _ _ _ _ h, Below.heap_setCell _ _ _ _ h, Below.heap_setCell _ _ _ _ h]
theorem RT.put5 {w : World} {x : Nat} {t : TypeId} {cs : Array Value} (h : Blk w x t cs) (ht : t ≠ 37) (v0 v1 v2 v3 v4 : Value) :
    RT w (((((w.setCell ⟨x, 0, none⟩ v0).setCell ⟨x, 1, none⟩ v1).setCell ⟨x, 2, none⟩ v2).setCell ⟨x, 3, none⟩ v3).setCell ⟨x, 4, none⟩ v4) := by
  refine ⟨by simp [World.setCell], fun k hk => heap_put5 w x k ?_ _ _ _ _ _⟩
  rintro rfl
  obtain ⟨c, hc⟩ := hk
  exact ht (h.same hc).2
/-- What each operation of the document's step yields. -/
def FDo (B : Nat) (P bits b lk b' lk' : Int) (v0 : Value) (m' : List Timer) (sl : Value) (k : Nat) (q : Addr) (a : Act) (e : Int) (t : Timer) (d : List Timer) (j : Nat) (v : Value) (w : World) : Prop := match j with
  | 0 => v = wV P v0 bits b lk
  | 1 => v = sl
  | 2 => v = .int .i64 k
  | 3 => v = .pointer (some q)
  | 4 => v = a.val
  | 5 => ∃ x y, v = .tuple #[x, y] ∧ WAt B v0 P bits b' lk' m' x w ∧ ToldAt B e t d y w
  | 6 => ∃ x y, v = .tuple #[x, y] ∧ WAt B v0 P bits b' lk' m' x w ∧ ToldAt B e t d y w
  | 7 => WAt B v0 P bits b' lk' m' v w
  | 8 => ToldAt B e t d v w
  | _ => True
theorem FDo.keep {B : Nat} {P bits b lk b' lk' : Int} {v0 : Value} {m' : List Timer} {sl : Value} {k : Nat} {q : Addr} {a : Act} {e : Int} {t : Timer} {d : List Timer} (i j : Nat) (v : Value) (w w' : World) (_ : j ≠ i) (h : FDo B P bits b lk b' lk' v0 m' sl k q a e t d j v w) (r : RT w w') : FDo B P bits b lk b' lk' v0 m' sl k q a e t d j v w' := by
  unfold FDo at h ⊢
  split at h <;> first | exact h | exact h.rt r | (obtain ⟨x, y, e, h1, h2⟩ := h; exact ⟨x, y, e, h1.rt r, h2.rt r⟩)
/-- What holds of the memory in the document's step. -/
structure SDo (B g q tb c nb P bb S : Nat) (bits b lk : Int) (m : List Timer) (v0 : Value) (b' lk' : Int) (m' : List Timer) (e : Int) (t : Timer) (d : List Timer) (w0 : World) (ab ao k : Nat) (a : Act) (p : Nat → Bool) (vs : Nat → Value) (w : World) : Prop where
  wheel : RQ w q tb c nb P bb S b lk m
  box : Blk w g 33 #[.int .i64 P, v0, .int .i64 bits, .int .u64 b, .int .i64 lk]
  lat : LAt w v0 m
  act : w.cell? ⟨ab, ao + k * 5, none⟩ = some (.int .i64 a.kind) ∧ w.cell? ⟨ab, ao + k * 5 + 1, none⟩ = some (.int .u64 a.t.at_) ∧ w.cell? ⟨ab, ao + k * 5 + 2, none⟩ = some (.int .u64 a.t.seq) ∧ w.cell? ⟨ab, ao + k * 5 + 3, none⟩ = some (.int .i64 a.t.place) ∧ w.cell? ⟨ab, ao + k * 5 + 4, none⟩ = some (.int .u64 a.now)
  size : B ≤ w.heap.size
  below : Below w0.heap.size w0 w
  c9 : p 11 = true → p 9 = true
  c10 : p 12 = true → p 10 = true
  b17 : p 9 = true → ∃ x c0 c1 c2 c3 c4, vs 9 = .pointer (some ⟨x, 0, none⟩) ∧ B ≤ x ∧ Blk w x 33 #[c0, c1, c2, c3, c4] ∧ (p 11 = true → WAt B v0 P bits b' lk' m' (.agg #[c0, c1, c2, c3, c4]) w)
  b18 : p 10 = true → ∃ x c0 c1 c2 c3 c4, vs 10 = .pointer (some ⟨x, 0, none⟩) ∧ B ≤ x ∧ Blk w x 39 #[c0, c1, c2, c3, c4] ∧ (p 12 = true → ToldAt B e t d (.agg #[c0, c1, c2, c3, c4]) w)
section
variable {B g q tb c nb P bb S : Nat} {bits b lk : Int} {m : List Timer} {v0 : Value} {b' lk' : Int} {m' : List Timer} {e : Int} {t : Timer} {d : List Timer} {w0 : World} {ab ao k : Nat} {a : Act} {p : Nat → Bool} {vs : Nat → Value} {w w' : World}
theorem SDo.calm (h : SDo B g q tb c nb P bb S bits b lk m v0 b' lk' m' e t d w0 ab ao k a p vs w) (hab : ab < B) (r : Below w.heap.size w w') (i : Nat) (h9 : i ≠ 9) (h10 : i ≠ 10) (h11 : i ≠ 11) (h12 : i ≠ 12) (v : Value) : SDo B g q tb c nb P bb S bits b lk m v0 b' lk' m' e t d w0 ab ao k a (also p i) (updV vs i v) w' := by
  have e9 : also p i 9 = p 9 := also_ne p (fun e => h9 e.symm)
  have e10 : also p i 10 = p 10 := also_ne p (fun e => h10 e.symm)
  have e11 : also p i 11 = p 11 := also_ne p (fun e => h11 e.symm)
  have e12 : also p i 12 = p 12 := also_ne p (fun e => h12 e.symm)
  refine ⟨h.wheel.below r, h.box.below r h.box.lt, h.lat.on r, act_on h.act (r.block ab (Nat.lt_of_lt_of_le hab h.size)), Nat.le_trans h.size r.size, h.below.trans (Below.mono r h.below.size), by rw [e9, e11]; exact h.c9, by rw [e10, e12]; exact h.c10, fun y => ?_, fun y => ?_⟩
  · rw [e9] at y
    obtain ⟨x, c0, c1, c2, c3, c4, y1, y2, y3, y4⟩ := h.b17 y
    exact ⟨x, c0, c1, c2, c3, c4, by rw [updV_ne vs v (fun e => h9 e.symm), y1], y2, y3.below r y3.lt, fun z => (y4 (e11 ▸ z)).rt (RT.below r)⟩
  · rw [e10] at y
    obtain ⟨x, c0, c1, c2, c3, c4, y1, y2, y3, y4⟩ := h.b18 y
    exact ⟨x, c0, c1, c2, c3, c4, by rw [updV_ne vs v (fun e => h10 e.symm), y1], y2, y3.below r y3.lt, fun z => (y4 (e12 ▸ z)).rt (RT.below r)⟩
theorem SDo.new17 (h : SDo B g q tb c nb P bb S bits b lk m v0 b' lk' m' e t d w0 ab ao k a p vs w) (hab : ab < B) (hp : p 9 = false) (c0 c1 c2 c3 c4 : Value) : SDo B g q tb c nb P bb S bits b lk m v0 b' lk' m' e t d w0 ab ao k a (also p 9) (updV vs 9 (.pointer (some ⟨w.heap.size, 0, none⟩))) (w.alloc (.cells #[c0, c1, c2, c3, c4] 33)) := by
  have r := alloc_kept' w (.cells #[c0, c1, c2, c3, c4] 33)
  have e10 : also p 9 10 = p 10 := also_ne p (by decide)
  have e11 : also p 9 11 = p 11 := also_ne p (by decide)
  have e12 : also p 9 12 = p 12 := also_ne p (by decide)
  refine ⟨h.wheel.below r, h.box.below r h.box.lt, h.lat.on r, act_on h.act (r.block ab (Nat.lt_of_lt_of_le hab h.size)), Nat.le_trans h.size r.size, h.below.trans (Below.mono r h.below.size), fun _ => also_at p 9, by rw [e10, e12]; exact h.c10, fun _ => ⟨_, c0, c1, c2, c3, c4, updV_at _ _ _, h.size, Blk.new _ _ _, fun z => ?_⟩, fun y => ?_⟩
  · rw [e11] at z
    have := h.c9 z
    rw [hp] at this
    cases this
  · rw [e10] at y
    obtain ⟨x, d0, d1, d2, d3, d4, y1, y2, y3, y4⟩ := h.b18 y
    exact ⟨x, d0, d1, d2, d3, d4, by rw [updV_ne vs _ (by decide), y1], y2, y3.below r y3.lt, fun z => (y4 (e12 ▸ z)).rt (RT.below r)⟩
theorem SDo.new18 (h : SDo B g q tb c nb P bb S bits b lk m v0 b' lk' m' e t d w0 ab ao k a p vs w) (hab : ab < B) (hp : p 10 = false) (c0 c1 c2 c3 c4 : Value) : SDo B g q tb c nb P bb S bits b lk m v0 b' lk' m' e t d w0 ab ao k a (also p 10) (updV vs 10 (.pointer (some ⟨w.heap.size, 0, none⟩))) (w.alloc (.cells #[c0, c1, c2, c3, c4] 39)) := by
  have r := alloc_kept' w (.cells #[c0, c1, c2, c3, c4] 39)
  have e9 : also p 10 9 = p 9 := also_ne p (by decide)
  have e11 : also p 10 11 = p 11 := also_ne p (by decide)
  have e12 : also p 10 12 = p 12 := also_ne p (by decide)
  refine ⟨h.wheel.below r, h.box.below r h.box.lt, h.lat.on r, act_on h.act (r.block ab (Nat.lt_of_lt_of_le hab h.size)), Nat.le_trans h.size r.size, h.below.trans (Below.mono r h.below.size), by rw [e9, e11]; exact h.c9, fun _ => also_at p 10, fun y => ?_, fun _ => ⟨_, c0, c1, c2, c3, c4, updV_at _ _ _, h.size, Blk.new _ _ _, fun z => ?_⟩⟩
  · rw [e9] at y
    obtain ⟨x, d0, d1, d2, d3, d4, y1, y2, y3, y4⟩ := h.b17 y
    exact ⟨x, d0, d1, d2, d3, d4, by rw [updV_ne vs _ (by decide), y1], y2, y3.below r y3.lt, fun z => (y4 (e11 ▸ z)).rt (RT.below r)⟩
  · rw [e12] at z
    have := h.c10 z
    rw [hp] at this
    cases this
theorem SDo.far (h : SDo B g q tb c nb P bb S bits b lk m v0 b' lk' m' e t d w0 ab ao k a p vs w) (hq : q < B ∧ tb < B ∧ c < B ∧ nb < B) (hg : g < B) (hab : ab < B) (h0 : w0.heap.size ≤ B) {x : Nat} (hx : B ≤ x) (r : RT w w') (hk : Chg (fun k => k = x) w w') :
    RQ w' q tb c nb P bb S b lk m ∧ Blk w' g 33 #[.int .i64 P, v0, .int .i64 bits, .int .u64 b, .int .i64 lk] ∧ LAt w' v0 m ∧ (w'.cell? ⟨ab, ao + k * 5, none⟩ = some (.int .i64 a.kind) ∧ w'.cell? ⟨ab, ao + k * 5 + 1, none⟩ = some (.int .u64 a.t.at_) ∧ w'.cell? ⟨ab, ao + k * 5 + 2, none⟩ = some (.int .u64 a.t.seq) ∧ w'.cell? ⟨ab, ao + k * 5 + 3, none⟩ = some (.int .i64 a.t.place) ∧ w'.cell? ⟨ab, ao + k * 5 + 4, none⟩ = some (.int .u64 a.now)) ∧ B ≤ w'.heap.size ∧ Below w0.heap.size w0 w' :=
  ⟨h.wheel.chg hk (show ¬ q = x by omega) (show ¬ tb = x by omega) (show ¬ c = x by omega) (show ¬ nb = x by omega), h.box.chg hk (show ¬ g = x by omega), h.lat.rt r, act_on h.act (hk.block ab (Nat.lt_of_lt_of_le hab h.size) (show ¬ ab = x by omega)), Nat.le_trans h.size r.1, below_chg h.below (Nat.le_refl _) hk fun i e => by have e' : i = x := e; omega⟩
theorem chg_put5' (w : World) (x : Nat) (v0 v1 v2 v3 v4 : Value) : Chg (fun k => k = x) w (((((w.setCell ⟨x, 0, none⟩ v0).setCell ⟨x, 1, none⟩ v1).setCell ⟨x, 2, none⟩ v2).setCell ⟨x, 3, none⟩ v3).setCell ⟨x, 4, none⟩ v4) := chg_put5 (T := fun k => k = x) (Chg.refl _ _) (fun _ => rfl) _ _ _ _ _
theorem SDo.put17 (h : SDo B g q tb c nb P bb S bits b lk m v0 b' lk' m' e t d w0 ab ao k a p vs w) (hq : q < B ∧ tb < B ∧ c < B ∧ nb < B) (hg : g < B) (hab : ab < B) (h0 : w0.heap.size ≤ B) (hp : p 9 = true) {x : Nat} {d0 d1 d2 d3 d4 : Value} (hv : vs 9 = .pointer (some ⟨x, 0, none⟩)) (hx : B ≤ x) (hbx : Blk w x 33 #[d0, d1, d2, d3, d4])
    (c0 c1 c2 c3 c4 : Value) (hW : WAt B v0 P bits b' lk' m' (.agg #[c0, c1, c2, c3, c4]) w) (v : Value) :
    RT w (((((w.setCell ⟨x, 0, none⟩ c0).setCell ⟨x, 1, none⟩ c1).setCell ⟨x, 2, none⟩ c2).setCell ⟨x, 3, none⟩ c3).setCell ⟨x, 4, none⟩ c4) ∧ SDo B g q tb c nb P bb S bits b lk m v0 b' lk' m' e t d w0 ab ao k a (also p 11) (updV vs 11 v) (((((w.setCell ⟨x, 0, none⟩ c0).setCell ⟨x, 1, none⟩ c1).setCell ⟨x, 2, none⟩ c2).setCell ⟨x, 3, none⟩ c3).setCell ⟨x, 4, none⟩ c4) := by
  have r := RT.put5 hbx (by decide) c0 c1 c2 c3 c4
  have hk := chg_put5' w x c0 c1 c2 c3 c4
  have e9 : also p 11 9 = p 9 := also_ne p (by decide)
  have e10 : also p 11 10 = p 10 := also_ne p (by decide)
  have e12 : also p 11 12 = p 12 := also_ne p (by decide)
  obtain ⟨h1, h2, h3, h4, h5, h6⟩ := h.far hq hg hab h0 hx r hk
  refine ⟨r, h1, h2, h3, h4, h5, h6, fun _ => by rw [e9]; exact hp, by rw [e10, e12]; exact h.c10, fun _ => ⟨x, c0, c1, c2, c3, c4, by rw [updV_ne vs v (by decide), hv], hx, hbx.put5 c0 c1 c2 c3 c4, fun _ => hW.rt r⟩, fun y => ?_⟩
  rw [e10] at y
  obtain ⟨x2, f0, f1, f2, f3, f4, y1, y2, y3, y4⟩ := h.b18 y
  have hne : x2 ≠ x := by
    rintro rfl
    exact absurd (y3.same hbx).2 (by decide)
  exact ⟨x2, f0, f1, f2, f3, f4, by rw [updV_ne vs v (by decide), y1], y2, y3.far5 hne c0 c1 c2 c3 c4, fun z => (y4 (e12 ▸ z)).rt r⟩
theorem SDo.put18 (h : SDo B g q tb c nb P bb S bits b lk m v0 b' lk' m' e t d w0 ab ao k a p vs w) (hq : q < B ∧ tb < B ∧ c < B ∧ nb < B) (hg : g < B) (hab : ab < B) (h0 : w0.heap.size ≤ B) (hp : p 10 = true) {x : Nat} {d0 d1 d2 d3 d4 : Value} (hv : vs 10 = .pointer (some ⟨x, 0, none⟩)) (hx : B ≤ x) (hbx : Blk w x 39 #[d0, d1, d2, d3, d4])
    (c0 c1 c2 c3 c4 : Value) (hW : ToldAt B e t d (.agg #[c0, c1, c2, c3, c4]) w) (v : Value) :
    RT w (((((w.setCell ⟨x, 0, none⟩ c0).setCell ⟨x, 1, none⟩ c1).setCell ⟨x, 2, none⟩ c2).setCell ⟨x, 3, none⟩ c3).setCell ⟨x, 4, none⟩ c4) ∧ SDo B g q tb c nb P bb S bits b lk m v0 b' lk' m' e t d w0 ab ao k a (also p 12) (updV vs 12 v) (((((w.setCell ⟨x, 0, none⟩ c0).setCell ⟨x, 1, none⟩ c1).setCell ⟨x, 2, none⟩ c2).setCell ⟨x, 3, none⟩ c3).setCell ⟨x, 4, none⟩ c4) := by
  have r := RT.put5 hbx (by decide) c0 c1 c2 c3 c4
  have hk := chg_put5' w x c0 c1 c2 c3 c4
  have e9 : also p 12 9 = p 9 := also_ne p (by decide)
  have e10 : also p 12 10 = p 10 := also_ne p (by decide)
  have e11 : also p 12 11 = p 11 := also_ne p (by decide)
  obtain ⟨h1, h2, h3, h4, h5, h6⟩ := h.far hq hg hab h0 hx r hk
  refine ⟨r, h1, h2, h3, h4, h5, h6, by rw [e9, e11]; exact h.c9, fun _ => by rw [e10]; exact hp, fun y => ?_, fun _ => ⟨x, c0, c1, c2, c3, c4, by rw [updV_ne vs v (by decide), hv], hx, hbx.put5 c0 c1 c2 c3 c4, fun _ => hW.rt r⟩⟩
  rw [e9] at y
  obtain ⟨x2, f0, f1, f2, f3, f4, y1, y2, y3, y4⟩ := h.b17 y
  have hne : x2 ≠ x := by
    rintro rfl
    exact absurd (y3.same hbx).2 (by decide)
  exact ⟨x2, f0, f1, f2, f3, f4, by rw [updV_ne vs v (by decide), y1], y2, y3.far5 hne c0 c1 c2 c3 c4, fun z => (y4 (e11 ▸ z)).rt r⟩
end
/-- The document's step, as an operation of the region. -/
theorem SDo.step {B g q tb c nb P bb S PP : Nat} {b lk : Int} {m : List Timer} {n : Nat} {v0 : Value} {w0 : World} {ab ao k : Nat} {a : Act} {p : Nat → Bool} {vs : Nat → Value} {w : World} (h : SDo B g q tb c nb P bb S n b lk m v0 (baseN b a) (casN m S b lk a) (doL P m a) (doE P m a) (doT P m a) (doD m a) w0 ab ao k a p vs w) (hab : ab < B)
    (hl : m.length ≤ 100000) (z : RSz PP n S) (hlk : 0 ≤ lk ∧ lk ≤ 1000000000) (hb : U64 b) (hw : U64 a.now) (hf : ∀ x ∈ m, U64 x.at_) (T : Prop) (hT : ¬ T) (T2 : Value → World → World → Prop) (hT2 : ∀ v x y, T2 v x y) :
    Calls Tryz.prog 8 #[wV P v0 n b lk, a.val] w fun e w' => ∃ v, e = .returned v ∧ (T → v = undef) ∧ (∃ x y, v = .tuple #[x, y] ∧ WAt B v0 P n (baseN b a) (casN m S b lk a) (doL P m a) x w' ∧ ToldAt B (doE P m a) (doT P m a) (doD m a) y w') ∧ RT w w' ∧ T2 v w w' ∧ SDo B g q tb c nb P bb S n b lk m v0 (baseN b a) (casN m S b lk a) (doL P m a) (doE P m a) (doT P m a) (doD m a) w0 ab ao k a (also p 5) (updV vs 5 v) w' := by
  refine (vwdo_any P v0 m n S PP z b lk a w h.lat hl hb hw hf hlk).mono ?_
  rintro e w' ⟨v', u, rfl, h1, h2, hx, f1, f2⟩
  have hs := h.size
  refine ⟨_, rfl, fun t => absurd t hT, ⟨_, _, rfl, ⟨v', rfl, h1, fun k hk => (f1 k hk).imp id fun y => by omega⟩, ⟨u, rfl, h2, fun k hk => ?_⟩⟩, RT.below hx, hT2 _ _ _, h.calm hab hx 5 (by decide) (by decide) (by decide) (by decide) _⟩
  rcases f2 k hk with y | y
  · simp [blkOf] at y
  · omega
/-! The wheel's step. -/
def FEw (B q : Nat) (sl : Value) (k : Nat) (p : Addr) (a : Act) (e : Int) (t : Timer) (d : List Timer) (j : Nat) (v : Value) (w : World) : Prop := match j with
  | 0 => v = .pointer (some ⟨q, 0, none⟩)
  | 1 => v = sl
  | 2 => v = .int .i64 k
  | 3 => v = .pointer (some p)
  | 4 => v = a.val
  | 5 => ToldAt B e t d v w
  | _ => ToldAt B e t d v w
theorem FEw.keep {B q tb nb : Nat} {sl : Value} {k : Nat} {p : Addr} {a : Act} {e : Int} {t : Timer} {d : List Timer} (hT : ∀ i, HS q tb nb i → i < B) (i j : Nat) (v : Value) (w w' : World) (_ : j ≠ i) (h : FEw B q sl k p a e t d j v w) (r : Chg (HS q tb nb) w w') : FEw B q sl k p a e t d j v w' := by
  unfold FEw at h ⊢
  split at h <;> first | exact h | exact h.chg r hT
structure SEw (B g x y q tb c nb P bb S : Nat) (b1 k1 : Int) (m : List Timer) (d1 j1 : Int) (m' : List Timer) (gc xc yc : Array Value) (v' : Value) (e : Int) (t : Timer) (d : List Timer) (w0 : World) (ab ao k : Nat) (a : Act) (p : Nat → Bool) (w : World) : Prop where
  q0 : p 5 = false → RQ w q tb c nb P bb S b1 k1 m
  q1 : p 5 = true → RQ w q tb c nb P bb S d1 j1 m'
  bg : Blk w g 33 gc
  bx : Blk w x 33 xc
  bby : Blk w y 39 yc
  lat : LAt w v' m'
  told : ToldAt B e t d (.agg yc) w
  act : w.cell? ⟨ab, ao + k * 5, none⟩ = some (.int .i64 a.kind) ∧ w.cell? ⟨ab, ao + k * 5 + 1, none⟩ = some (.int .u64 a.t.at_) ∧ w.cell? ⟨ab, ao + k * 5 + 2, none⟩ = some (.int .u64 a.t.seq) ∧ w.cell? ⟨ab, ao + k * 5 + 3, none⟩ = some (.int .i64 a.t.place) ∧ w.cell? ⟨ab, ao + k * 5 + 4, none⟩ = some (.int .u64 a.now)
  size : B ≤ w.heap.size
  below : Below w0.heap.size w0 w
  tab : TabAt w
/-- What lies apart from the wheel's blocks. -/
structure AEw (B g x y q tb nb ab gt n : Nat) (v' : Value) : Prop where
  lt : q < B ∧ tb < B ∧ nb < B
  ge : n ≤ q ∧ n ≤ tb ∧ n ≤ nb
  hg : ¬ HS q tb nb g
  hx : B ≤ x
  hy : B ≤ y
  hab : ab < n
  hgt : gt < n
  hv : ∀ k, blkOf v' = some k → ¬ HS q tb nb k
theorem AEw.not {B g x y q tb nb ab gt n : Nat} {v' : Value} (A : AEw B g x y q tb nb ab gt n v') : ¬ HS q tb nb x ∧ ¬ HS q tb nb y ∧ ¬ HS q tb nb ab ∧ ¬ HS q tb nb gt ∧ (∀ i, HS q tb nb i → i < B) ∧ ∀ i, HS q tb nb i → n ≤ i := by
  have := A.lt; have := A.ge; have := A.hx; have := A.hy; have := A.hab; have := A.hgt
  unfold HS
  refine ⟨by omega, by omega, by omega, by omega, fun i h => by omega, fun i h => by omega⟩
theorem SEw.turn {B g x y q tb c nb P bb S : Nat} {b1 k1 : Int} {m : List Timer} {d1 j1 : Int} {m' : List Timer} {gc xc yc : Array Value} {v' : Value} {e : Int} {t : Timer} {d : List Timer} {w0 : World} {ab ao k : Nat} {a : Act} {p p' : Nat → Bool} {w w' : World} (h : SEw B g x y q tb c nb P bb S b1 k1 m d1 j1 m' gc xc yc v' e t d w0 ab ao k a p w) (A : AEw B g x y q tb nb ab 0 w0.heap.size v') (r : Chg (HS q tb nb) w w')
    (q0 : p' 5 = false → RQ w' q tb c nb P bb S b1 k1 m) (q1 : p' 5 = true → RQ w' q tb c nb P bb S d1 j1 m') : SEw B g x y q tb c nb P bb S b1 k1 m d1 j1 m' gc xc yc v' e t d w0 ab ao k a p' w' := by
  obtain ⟨n1, n2, n3, n4, n5, n6⟩ := A.not
  have := h.size; have := A.hab; have := A.lt; have := A.ge
  refine ⟨q0, q1, h.bg.chg r A.hg, h.bx.chg r n1, h.bby.chg r n2, h.lat.far r.size fun k hk => r.block k (h.lat.blk k hk) (A.hv k hk), h.told.chg r n5, act_on h.act (r.block ab (by omega) n3), Nat.le_trans h.size r.size, below_chg h.below (Nat.le_refl _) r n6, h.tab.chg r n4⟩
theorem SEw.quiet {B g x y q tb c nb P bb S : Nat} {b1 k1 : Int} {m : List Timer} {d1 j1 : Int} {m' : List Timer} {gc xc yc : Array Value} {v' : Value} {e : Int} {t : Timer} {d : List Timer} {w0 : World} {ab ao k : Nat} {a : Act} {p : Nat → Bool} {w : World} (h : SEw B g x y q tb c nb P bb S b1 k1 m d1 j1 m' gc xc yc v' e t d w0 ab ao k a p w) (i : Nat) (h5 : i ≠ 5) : SEw B g x y q tb c nb P bb S b1 k1 m d1 j1 m' gc xc yc v' e t d w0 ab ao k a (also p i) w := by
  have e5 : also p i 5 = p 5 := also_ne p (fun e => h5 e.symm)
  exact ⟨fun y => h.q0 (e5 ▸ y), fun y => h.q1 (e5 ▸ y), h.bg, h.bx, h.bby, h.lat, h.told, h.act, h.size, h.below, h.tab⟩
theorem SEw.step {B g x y q tb c nb P bb S : Nat} {b1 k1 : Int} {m : List Timer} {gc xc yc : Array Value} {v' : Value} {w0 : World} {ab ao k : Nat} {a : Act} {p : Nat → Bool} {w : World} (h : SEw B g x y q tb c nb P bb S b1 k1 m (baseN b1 a) (casN m S b1 k1 a) (doL P m a) gc xc yc v' (doE P m a) (doT P m a) (doD m a) w0 ab ao k a p w) (A : AEw B g x y q tb nb ab 0 w0.heap.size v')
    (z : RSz P bb S) (hp : p 5 = false) (ub : U64 b1) (ua : U64 a.t.at_) (un : U64 a.now) (hm : ∀ x ∈ m, U64 x.at_) (hlk : 0 ≤ k1 ∧ k1 ≤ 1000000000) :
    Calls Tryz.prog 10 #[.pointer (some ⟨q, 0, none⟩), a.val] w fun f w' => ∃ v, f = .returned v ∧ ToldAt B (doE P m a) (doT P m a) (doD m a) v w' ∧ Chg (HS q tb nb) w w' ∧ (false = true → Frsh v w w') ∧ SEw B g x y q tb c nb P bb S b1 k1 m (baseN b1 a) (casN m S b1 k1 a) (doL P m a) gc xc yc v' (doE P m a) (doT P m a) (doD m a) w0 ab ao k a (also p 5) w' := by
  refine (vdo_any q tb c nb P bb S b1 k1 m a w (h.q0 hp) z h.tab ub ua un hm hlk).mono ?_
  rintro f w' ⟨u, rfl, ho, hq, hk⟩
  refine ⟨_, rfl, ⟨u, rfl, ho.lf.mono h.size⟩, hk, (fun h => by cases h), h.turn A hk (fun y => ?_) fun _ => hq⟩
  rw [also_at] at y
  cases y
/-! The end: both lists. -/
def FGw (B q g : Nat) (m : List Timer) (v0 : Value) (j : Nat) (v : Value) (w : World) : Prop := match j with
  | 0 => v = .pointer (some ⟨q, 0, none⟩)
  | 1 => LF B w v m
  | 2 => v = .pointer (some ⟨g, 0, none⟩)
  | 3 => v = .pointer (some ⟨g, 1, none⟩)
  | _ => v = v0
theorem FGw.keep {B q g : Nat} {m : List Timer} {v0 : Value} (i j : Nat) (v : Value) (w w' : World) (_ : j ≠ i) (h : FGw B q g m v0 j v w) (r : Below w.heap.size w w') : FGw B q g m v0 j v w' := by
  unfold FGw at h ⊢
  split at h <;> first | exact h | exact h.chg (Chg.of_same r (fun _ => False)) (fun _ e => e.elim)
structure SGw (B g q tb c nb P bb S : Nat) (b1 k1 : Int) (m : List Timer) (v0 : Value) (gc : Array Value) (w0 : World) (x20 x22 x24 x26 : Nat) (xc yc : Array Value) (_p : Nat → Bool) (w : World) : Prop where
  q : RQ w q tb c nb P bb S b1 k1 m
  bg : Blk w g 33 gc
  lat : LAt w v0 m
  size : B ≤ w.heap.size
  below : Below w0.heap.size w0 w
  b20 : Blk w x20 37 xc
  b22 : Blk w x22 37 xc
  b24 : Blk w x24 37 yc
  b26 : Blk w x26 37 yc
theorem SGw.keep {B g q tb c nb P bb S : Nat} {b1 k1 : Int} {m : List Timer} {v0 : Value} {gc : Array Value} {w0 w w' : World} {x20 x22 x24 x26 : Nat} {xc yc : Array Value} {p p' : Nat → Bool} (h : SGw B g q tb c nb P bb S b1 k1 m v0 gc w0 x20 x22 x24 x26 xc yc p w) (r : Below w.heap.size w w') : SGw B g q tb c nb P bb S b1 k1 m v0 gc w0 x20 x22 x24 x26 xc yc p' w' :=
  ⟨h.q.below r, h.bg.below r h.bg.lt, h.lat.on r, Nat.le_trans h.size r.size, h.below.trans (Below.mono r h.below.size), h.b20.below r h.b20.lt, h.b22.below r h.b22.lt, h.b24.below r h.b24.lt, h.b26.below r h.b26.lt⟩
theorem HP.kept {w0 : World} {g q tb c nb P bb S : Nat} {bits base lk : Int} {m : List Timer} {v : Value} {w w' : World} (h : HP w0 g q tb c nb P bb S bits base lk m v w) (r : Below w.heap.size w w') : HP w0 g q tb c nb P bb S bits base lk m v w' :=
  ⟨h.wheel.below r, h.box.below r h.box.lt, h.lat.on r, h.apart, h.below.trans (Below.mono r h.below.size)⟩
attribute [local irreducible] Calls
set_option linter.unusedSimpArgs false in
set_option maxRecDepth 100000 in
set_option maxHeartbeats 4000000 in
theorem rplays (P bits base place : Int) (A : Option Addr) (l : List Act) (c : Nat) (w : World) (hT : TabAt w) (hA : AcAt w w.heap.size A l) (ha : AcOk l) (hlen : l.length ≤ 2 ^ 63 - 1) (ub : U64 base) :
    Calls Tryz.prog 3 #[.int .i64 P, .int .i64 bits, .int .u64 base, .slice A l.length c, .int .i64 place] w fun e w' => e = .returned (.bool true) ∧ Below w.heap.size w w' := by
  have hw := vworks w hT
  go_enter Tryz.func3, Tryz.ntmps3
  go_wp2_with fail
  refine hw.mono ?_
  rintro e w1 ⟨rfl, hb⟩
  have hT1 := hT.below hb (glob_lt hT)
  clear hw
  by_cases hl : 60 < l.length
  · have hl2 : (60 : Int) < l.length := by omega
    have HB := Lib.hid hb
    clear hA hb
    go_wp2_with fail
    go_ret
    exact ⟨rfl, HB.out⟩
  · have hl2 : ¬ (60 : Int) < l.length := by omega
    by_cases hok : NewOk P bits
    · have hn := vnew_ok P bits base w1 hok
      have hn2 := fun w2 => wnew_ok P bits base w2 hok
      have z := sideN_ok hok
      obtain ⟨Pn, rfl⟩ := Int.eq_ofNat_of_zero_le (show 0 ≤ P by have := hok.1; omega)
      obtain ⟨bn, rfl⟩ := Int.eq_ofNat_of_zero_le (show 0 ≤ bits by have := hok.2.2.1; omega)
      rw [Int.toNat_natCast] at hn z
      rw [Int.toNat_natCast] at hn z
      generalize sideN bn = S at *
      have hB0 := z.pos
      have HF0 : Hid (FewI S base 0 [] 0 0) := Lib.hid ⟨Int.le_refl _, by simp [potS], Nat.le_refl _, by simp⟩
      clear hok
      go_wp2_with fail
      refine hn.mono ?_
      rintro e w2 ⟨q, tb, c1, nb, rfl, hq, hx, g1, g2, g3, g4⟩
      have hb2 := hb.trans (Below.mono hx hb.size)
      have hs1 := hb.size
      clear hn hx hb
      go_wp2_with fail
      refine (hn2 _).mono ?_
      rintro e w3 ⟨rfl, hx⟩
      have hq3 := hq.below hx
      have hb3 := hb2.trans (Below.mono hx hb2.size)
      obtain ⟨y1, y2, y3, y4⟩ := hq3.lts
      have gge := hb3.size
      unfold wE wV
      clear hn2 hx hb2 hq
      go_wp2_with fail
      have hp0 : HP w w3.heap.size q tb c1 nb Pn bn S bn base 0 [] (.slice none 0 0) (w3.alloc (.cells #[.int .i64 Pn, .slice none 0 0, .int .i64 bn, .int .u64 base, .int .i64 0] 33)) :=
        ⟨hq3.below (alloc_kept' _ _), Blk.new _ _ _, LAt.nil _, fun k hk => by simp [blkOf] at hk, hb3.alloc hb3.size _⟩
      generalize w3.alloc (.cells #[.int .i64 Pn, .slice none 0 0, .int .i64 bn, .int .u64 base, .int .i64 0] 33) = w4 at *
      generalize w3.heap.size = g at *
      clear hq3 hb3
      go_loopw [16] (fun i wr => ∃ (k : Nat) (lk : Int) (v : Value) (inn : Nat), k ≤ l.length ∧ i = .int .i64 k ∧ HP w g q tb c1 nb Pn bn S bn (baseA base (l.take k)) lk (behindL Pn (l.take k)) v wr ∧ Hid (FewI S (baseA base (l.take k)) lk (behindL Pn (l.take k)) inn k)) (fun i _ => l.length - (intOf i).toNat)
      case atStart => exact ⟨0, 0, .slice none 0 0, 0, Nat.zero_le _, rfl, hp0, HF0⟩
      case round =>
        clear hp0 HF0
        obtain ⟨k, lk, v, inn, hk, rfl, hp, HFI⟩ := hrel
        by_cases hlt : k < l.length
        · obtain ⟨ab, ao, rfl, hbb, c0, c1', c2', c3, c4⟩ := (hA.below hp.below (Nat.le_refl _)) k hlt
          have HSx := Lib.hid (show behindL Pn (l.take (k + 1)) = doL Pn (behindL Pn (l.take k)) l[k] from by rw [take_snoc l k hlt, behindL_snoc])
          have HB1 := Lib.hid (show baseA base (l.take (k + 1)) = baseN (baseA base (l.take k)) l[k] from by rw [take_snoc l k hlt, baseA_snoc])
          have u1 := baseA_u64 ub _ (ha.take k)
          have ua := (ha _ (List.getElem_mem hlt)).1
          have un := (ha _ (List.getElem_mem hlt)).2
          have hmU : ∀ x ∈ behindL Pn (l.take k), U64 x.at_ := behind_u64 Pn (l.take k) [] (by simp) (ha.take k)
          have hT1 := hT.below hp.below (glob_lt hT)
          have hlk : 0 ≤ lk ∧ lk ≤ 1000000000 := by
            have h1 := HFI.out.ge
            have h2 := HFI.out.le
            have h3 := HFI.out.in_
            omega
          have HFN := Lib.hid (HFI.out.step hB0 Pn l[k] ua)
          clear HFI
          generalize l[k] = a at *
          generalize behindL Pn (l.take k) = m at *
          generalize baseA base (l.take k) = b1 at *
          have hv0 : ∃ A1 cc1, v = .slice A1 m.length cc1 := by
            obtain ⟨A1, cc1, e, _⟩ := hp.lat
            exact ⟨A1, cc1, e⟩
          obtain ⟨A1, cc1, rfl⟩ := hv0
          have hml := hp.wheel.len
          have hmP : m.length ≤ 100000 := by have := z.hP; omega
          obtain ⟨l1, l2, l3, l4⟩ := hp.wheel.lts
          have lg := hp.box.lt
          have hsz := hp.below.size
          have hap := hp.apart
          have e0 := hp.box.cell
          have hs0 : ∀ vs, SDo wr.heap.size g q tb c1 nb Pn bn S bn b1 lk m (.slice A1 m.length cc1) (baseN b1 a) (casN m S b1 lk a) (doL Pn m a) (doE Pn m a) (doT Pn m a) (doD m a) w ab ao k a (fun _ => false) vs wr.drew :=
            fun vs => ⟨hp.wheel.drew, hp.box.drew, hp.lat.on (Below.refl _ _).drew, ⟨c0, c1', c2', c3, c4⟩, Nat.le_refl _, hp.below.drew, (fun h => by cases h), (fun h => by cases h), (fun h => by cases h), (fun h => by cases h)⟩
          go_upto_region 13 with fail
          clear hp e0 c0 c1' c2' c3 c4
          generalize hB : wr.heap.size = B at *
          have HB := Lib.hid hB
          clear hB
          refine region_facts_val 13 (fun _ => false) (FDo B Pn bn b1 lk (baseN b1 a) (casN m S b1 lk a) (.slice A1 m.length cc1) (doL Pn m a) (.slice (some ⟨ab, ao, none⟩) l.length c) k ⟨ab, ao + k * 5, none⟩ a (doE Pn m a) (doT Pn m a) (doD m a)) (SDo B g q tb c1 nb Pn bn S bn b1 lk m (.slice A1 m.length cc1) (baseN b1 a) (casN m S b1 lk a) (doL Pn m a) (doE Pn m a) (doT Pn m a) (doD m a) w ab ao k a) (fun _ x y => RT x y) [84, 85, 86, 87, 88, 89, 83, 90, 91, 17, 18, 1000, 1001] (by kernel_rfl) (by kernel_rfl) (by kernel_rfl) (by decide) (by kernel_rfl) FDo.keep (fun _ _ _ h => h.1) hs0 ?_ ?_
          · intro fr hfr
            have f14 : fr.getD 14 undef = .pointer (some ⟨g, 0, none⟩) := by rw [hfr]; rfl
            have f3 : fr.getD 3 undef = .slice (some ⟨ab, ao, none⟩) l.length c := by rw [hfr]; rfl
            have f16 : fr.getD 16 undef = .int .i64 k := by rw [hfr]; rfl
            clear hfr
            have hab : ab < B := by omega
            iterate 5
              refine ⟨⟨trivial, ?_⟩, ?_⟩
              · intro ρ w' p vs hp hdq hρ hd hV hSt
                simp only [DepF, Region.binds, List.getD_cons_zero, List.getD_cons_succ, FDo, forall_const, and_true, true_and] at hd
                have hcon := hρ.con
                have e14 := (hρ.slot 14 (by kernel_rfl)).trans f14
                have e3 := (hρ.slot 3 (by kernel_rfl)).trans f3
                have e16 := (hρ.slot 16 (by kernel_rfl)).trans f16
                have eb := hSt.box.cell
                obtain ⟨ca, cb, cc, cd, ce⟩ := hSt.act
                clear hdq hV
                go_simp
                (try simp only [GoodV, FDo])
                first
                  | exact ⟨fun h => absurd h (by decide), rfl, RT.below (Below.refl _ _), fun h => absurd h (by decide), hSt.calm hab (Below.refl _ _) _ (by decide) (by decide) (by decide) (by decide) _⟩
                  | exact ⟨fun h => absurd h (by decide), trivial, RT.below (Below.refl _ _), fun h => absurd h (by decide), hSt.calm hab (Below.refl _ _) _ (by decide) (by decide) (by decide) (by decide) _⟩
            refine ⟨⟨trivial, ?_⟩, ?_⟩
            · intro ρ w' p vs hp hdq hρ hd hV hSt
              simp only [DepF, Region.binds, List.getD_cons_zero, List.getD_cons_succ, FDo, forall_const, and_true, true_and] at hd
              obtain ⟨d0, d4⟩ := hd
              rw [execOp_call_fn _ _ _ _ _ _ _ _ _ (hρ.fn _)]
              clear hdq hV
              go_simp
              simp only [GoodV, FDo]
              exact hSt.step hab hmP z hlk u1 un hmU (false = true) (by decide) (fun v x y => false = true → Frsh v x y) (fun _ _ _ h => absurd h (by decide))
            refine ⟨⟨trivial, ?_⟩, ?_⟩
            · intro ρ w' p vs hp hdq hρ hd hV hSt
              simp only [DepF, Region.binds, List.getD_cons_zero, List.getD_cons_succ, FDo, forall_const, and_true, true_and] at hd
              clear hdq hV
              go_simp
              simp only [GoodV, FDo]
              exact ⟨fun h => absurd h (by decide), hd, RT.below (Below.refl _ _), fun h => absurd h (by decide), hSt.calm hab (Below.refl _ _) _ (by decide) (by decide) (by decide) (by decide) _⟩
            refine ⟨⟨trivial, ?_⟩, ?_⟩
            · intro ρ w' p vs hp hdq hρ hd hV hSt
              simp only [DepF, Region.binds, List.getD_cons_zero, List.getD_cons_succ, FDo, forall_const, and_true, true_and] at hd
              obtain ⟨x, y, exy, hx, hy⟩ := hd
              clear hdq hV
              go_simp
              simp only [GoodV, FDo]
              exact ⟨fun h => absurd h (by decide), hx, RT.below (Below.refl _ _), fun h => absurd h (by decide), hSt.calm hab (Below.refl _ _) _ (by decide) (by decide) (by decide) (by decide) _⟩
            refine ⟨⟨trivial, ?_⟩, ?_⟩
            · intro ρ w' p vs hp hdq hρ hd hV hSt
              simp only [DepF, Region.binds, List.getD_cons_zero, List.getD_cons_succ, FDo, forall_const, and_true, true_and] at hd
              have hd1 : ∃ x y, ρ (.tmp 83) = .tuple #[x, y] ∧ WAt B (.slice A1 m.length cc1) Pn bn (baseN b1 a) (casN m S b1 lk a) (doL Pn m a) x w' ∧ ToldAt B (doE Pn m a) (doT Pn m a) (doD m a) y w' := by
                first | exact hd | exact hd.1
              obtain ⟨x, y, exy, hx, hy⟩ := hd1
              clear hdq hV hd
              go_simp
              simp only [GoodV, FDo]
              exact ⟨fun h => absurd h (by decide), hy, RT.below (Below.refl _ _), fun h => absurd h (by decide), hSt.calm hab (Below.refl _ _) _ (by decide) (by decide) (by decide) (by decide) _⟩
            refine ⟨⟨trivial, ?_⟩, ?_⟩
            · intro ρ w' p vs hp hdq hρ hd hV hSt
              clear hdq hV hd
              go_simp
              simp only [GoodV, FDo]
              exact ⟨fun h => absurd h (by decide), trivial, RT.below (alloc_kept' _ _), fun h => absurd h (by decide), hSt.new17 hab hp _ _ _ _ _⟩
            refine ⟨⟨trivial, ?_⟩, ?_⟩
            · intro ρ w' p vs hp hdq hρ hd hV hSt
              clear hdq hV hd
              go_simp
              simp only [GoodV, FDo]
              exact ⟨fun h => absurd h (by decide), trivial, RT.below (alloc_kept' _ _), fun h => absurd h (by decide), hSt.new18 hab hp _ _ _ _ _⟩
            refine ⟨⟨trivial, ?_⟩, ?_⟩
            · intro ρ w' p vs hp hdq hρ hd hV hSt
              simp only [DepF, Region.binds, List.getD_cons_zero, List.getD_cons_succ, FDo, forall_const, and_true, true_and] at hd
              simp only [DepQ, Region.binds, forall_const] at hdq
              have hp9 := hdq.1
              obtain ⟨⟨v', e84, hL, hN⟩, _⟩ := hd
              have hLf := hL
              obtain ⟨A2, cc2, rfl, _⟩ := hLf
              obtain ⟨x, y0, y1, y2, y3, y4, hv, hx, hbx, _⟩ := hSt.b17 hp9
              have e17 : ρ (.tmp 17) = _ := (hV 9 hp9).trans hv
              have ex := hbx.cell
              have ef := hbx.frozen
              have el := hbx.lt
              unfold wV at e84
              clear hdq hV
              go_simp
              simp only [GoodV, FDo]
              have hput := hSt.put17 ⟨l1, l2, l3, l4⟩ lg hab hsz hp9 hv hx hbx _ _ _ _ _ ⟨_, rfl, hL, hN⟩ undef
              exact ⟨trivial, hput.1, fun h => absurd h (by decide), hput.2⟩
            refine ⟨⟨trivial, ?_⟩, ?_⟩
            · intro ρ w' p vs hp hdq hρ hd hV hSt
              simp only [DepF, Region.binds, List.getD_cons_zero, List.getD_cons_succ, FDo, forall_const, and_true, true_and] at hd
              simp only [DepQ, Region.binds, forall_const] at hdq
              have hp10 := hdq.1
              obtain ⟨⟨u, e85, hL⟩, _⟩ := hd
              have hLf := hL.at_
              obtain ⟨A2, cc2, rfl, _⟩ := hLf
              obtain ⟨x, y0, y1, y2, y3, y4, hv, hx, hbx, _⟩ := hSt.b18 hp10
              have e18 : ρ (.tmp 18) = _ := (hV 10 hp10).trans hv
              have ex := hbx.cell
              have ef := hbx.frozen
              have el := hbx.lt
              unfold tV at e85
              clear hdq hV
              go_simp
              simp only [GoodV, FDo]
              have hput := hSt.put18 ⟨l1, l2, l3, l4⟩ lg hab hsz hp10 hv hx hbx _ _ _ _ _ ⟨_, rfl, hL⟩ undef
              exact ⟨trivial, hput.1, fun h => absurd h (by decide), hput.2⟩
            trivial
          · intro vs w5 hSt hF _
            obtain ⟨x17, o0, o1, o2, o3, o4, z1, hx17, b17, hW⟩ := hSt.b17 (by decide)
            obtain ⟨x18, r0, r1, r2, r3, r4, z2, hx18, b18, hU⟩ := hSt.b18 (by decide)
            obtain ⟨v', ev, hL', hN'⟩ := hW (by decide)
            have hTo := hU (by decide)
            have e17 : vs 9 = .pointer (some ⟨x17, 0, none⟩) := z1
            have e18 : vs 10 = .pointer (some ⟨x18, 0, none⟩) := z2
            have q5 := hSt.wheel
            have bg5 := hSt.box
            have ac5 := hSt.act
            have s5 := hSt.size
            have k5 := hSt.below
            clear hSt hF hs0 hW hU z1 z2
            simp only [List.range'_succ, List.range'_zero, List.cons_append, List.nil_append, List.append_nil, setAll, List.setIfInBounds_toArray, List.set_cons_zero, List.set_cons_succ, List.set_nil, Nat.reduceAdd]
            rw [e17, e18]
            simp only [List.drop_succ_cons, List.drop_zero, List.drop_nil]
            clear e17 e18
            have hv' : ∃ A2 cc2, v' = .slice A2 (doL Pn m a).length cc2 := by
              obtain ⟨A2, cc2, e, _⟩ := hL'
              exact ⟨_, _, e⟩
            obtain ⟨A2, cc2, rfl⟩ := hv'
            have hxc : (#[o0, o1, o2, o3, o4] : Array Value) = #[.int .i64 Pn, .slice A2 (doL Pn m a).length cc2, .int .i64 bn, .int .u64 (baseN b1 a), .int .i64 (casN m S b1 lk a)] := congrArg (fun v : Value => match v with | .agg a => a | _ => #[]) ev
            rw [hxc] at b17
            clear hxc ev
            have AP : AEw B g x17 x18 q tb nb ab 0 w.heap.size (.slice A2 (doL Pn m a).length cc2) := ⟨⟨l1, l2, l4⟩, ⟨by omega, by omega, by omega⟩, by unfold HS; omega, hx17, hx18, hbb, glob_lt hT, fun k hk => (hN' k hk).elim (fun y => (hap k y).1) (fun y => by unfold HS; omega)⟩
            have hap' : ∀ k, blkOf (.slice A2 (doL Pn m a).length cc2) = some k → ¬ HS q tb nb k ∧ k ≠ g := fun k hk => (hN' k hk).elim (hap k) (fun y => by unfold HS; omega)
            go_upto_region 14 with fail
            have hs1 : SEw B g x17 x18 q tb c1 nb Pn bn S b1 lk m (baseN b1 a) (casN m S b1 lk a) (doL Pn m a) #[.int .i64 Pn, .slice A1 m.length cc1, .int .i64 bn, .int .u64 b1, .int .i64 lk] #[.int .i64 Pn, .slice A2 (doL Pn m a).length cc2, .int .i64 bn, .int .u64 (baseN b1 a), .int .i64 (casN m S b1 lk a)] #[r0, r1, r2, r3, r4] (.slice A2 (doL Pn m a).length cc2) (doE Pn m a) (doT Pn m a) (doD m a) w ab ao k a (fun _ => false) w5.drew :=
              ⟨fun _ => q5.drew, (fun h => by cases h), bg5.drew, b17.drew, b18.drew, hL'.on (Below.refl _ _).drew, hTo.rt (RT.below (Below.refl _ _).drew), ac5, s5, k5.drew, hT.below k5.drew (glob_lt hT)⟩
            clear q5 bg5 b17 b18 hL' hTo ac5 s5 k5 hN' hap
            refine region_facts_set 7 (fun _ => false) (FEw B q (.slice (some ⟨ab, ao, none⟩) l.length c) k ⟨ab, ao + k * 5, none⟩ a (doE Pn m a) (doT Pn m a) (doD m a)) (SEw B g x17 x18 q tb c1 nb Pn bn S b1 lk m (baseN b1 a) (casN m S b1 lk a) (doL Pn m a) #[.int .i64 Pn, .slice A1 m.length cc1, .int .i64 bn, .int .u64 b1, .int .i64 lk] #[.int .i64 Pn, .slice A2 (doL Pn m a).length cc2, .int .i64 bn, .int .u64 (baseN b1 a), .int .i64 (casN m S b1 lk a)] #[r0, r1, r2, r3, r4] (.slice A2 (doL Pn m a).length cc2) (doE Pn m a) (doT Pn m a) (doD m a) w ab ao k a) (fun _ x y => Chg (HS q tb nb) x y) [92, 93, 94, 95, 96, 97, 98] (by kernel_rfl) (by kernel_rfl) (by kernel_rfl) (by decide) (by kernel_rfl) (by kernel_rfl) (FEw.keep AP.not.2.2.2.2.1) (fun _ _ _ h => h.size) hs1 ?_ ?_
            · intro fr hfr
              have f12 : fr.getD 12 undef = .pointer (some ⟨q, 0, none⟩) := by rw [hfr]; rfl
              have f18 : fr.getD 18 undef = .pointer (some ⟨x18, 0, none⟩) := by rw [hfr]; rfl
              have f3 : fr.getD 3 undef = .slice (some ⟨ab, ao, none⟩) l.length c := by rw [hfr]; rfl
              have f16 : fr.getD 16 undef = .int .i64 k := by rw [hfr]; rfl
              clear hfr
              iterate 7
                refine ⟨⟨trivial, ?_⟩, ?_⟩
                · intro ρ w' p hp hdq hρ hd hSt
                  simp only [DepF, Region.binds, List.getD_cons_zero, List.getD_cons_succ, FEw, forall_const, and_true, true_and] at hd
                  have hcon := hρ.con
                  have e12 := (hρ.slot 12 (by kernel_rfl)).trans f12
                  have e18 := (hρ.slot 18 (by kernel_rfl)).trans f18
                  have e3 := (hρ.slot 3 (by kernel_rfl)).trans f3
                  have e16 := (hρ.slot 16 (by kernel_rfl)).trans f16
                  have ey := hSt.bby.cell
                  obtain ⟨ca, cb, cc, cd, ce⟩ := hSt.act
                  (try rw [execOp_call_fn _ _ _ _ _ _ _ _ _ (hρ.fn _)])
                  go_simp
                  (try simp only [GoodQ, FEw])
                  first
                    | exact ⟨rfl, Chg.refl _ _, fun h => absurd h (by decide), hSt.quiet _ (by decide)⟩
                    | exact ⟨trivial, Chg.refl _ _, fun h => absurd h (by decide), hSt.quiet _ (by decide)⟩
                    | exact ⟨hSt.told, Chg.refl _ _, fun h => absurd h (by decide), hSt.quiet _ (by decide)⟩
                    | exact hSt.step AP z hp u1 ua un hmU hlk
              trivial
            · intro vs w6 hSt hF _
              obtain ⟨ut1, e5, hu1⟩ : ToldAt B (doE Pn m a) (doT Pn m a) (doD m a) (vs 5) w6 := hF 5 (by decide)
              obtain ⟨ut2, e6, hu2⟩ : ToldAt B (doE Pn m a) (doT Pn m a) (doD m a) (vs 6) w6 := hF 6 (by decide)
              have hdl : (doD m a).length ≤ 100000 := by
                unfold doD
                split
                · have := due_lens m a.now; omega
                · simp
              have hsm := rsame_any (doE Pn m a) (doE Pn m a) (doT Pn m a) (doT Pn m a) ut1 ut2 (doD m a) (doD m a) w6 hu1.at_ hu2.at_ hdl hdl
              rw [decide_eq_true ⟨rfl, rfl, rfl⟩] at hsm
              unfold tV at hsm e5 e6
              clear hF hs1 hu1 hu2 hdl
              simp only [setAll, List.setIfInBounds_toArray, List.set_cons_zero, List.set_cons_succ, Nat.reduceAdd]
              rw [e5, e6]
              simp only [List.drop_succ_cons, List.drop_zero]
              clear e5 e6
              go_wp2_with fail
              refine hsm.mono ?_
              rintro e w7 ⟨rfl, hx⟩
              have s7 := hSt.turn (p' := fun _ => true) AP (Chg.of_same hx _) (fun h => by cases h) (fun _ => (hSt.q1 (by decide)).below hx)
              clear hsm hSt hx
              have ub2 : U64 (baseN b1 a) := baseN_u64 u1 un
              have hmU2 := doL_u64 (P := Pn) hmU ua
              have hmP2 : (doL Pn m a).length ≤ 100000 := by have := (s7.q1 rfl).len; have := z.hP; omega
              have hw1 := vq_where q tb c1 nb Pn bn S _ _ _ a.t.place w7 (s7.q1 rfl) z ub2 hmU2
              have hw2 := fun w (h : LAt w (.slice A2 (doL Pn m a).length cc2) (doL Pn m a)) => vwwhere_any Pn (.slice A2 (doL Pn m a).length cc2) (doL Pn m a) bn S Pn z (baseN b1 a) (casN m S b1 lk a) a.t.place w h hmP2 ub2 hmU2
              obtain ⟨L, S1, y0, hwv⟩ : ∃ L S1 y0, whV S (baseN b1 a) (getL (doL Pn m a) a.t.place) = .tuple #[.int .i64 L, .int .i64 S1, .bool y0] := by
                cases getL (doL Pn m a) a.t.place with
                | none => exact ⟨_, _, _, rfl⟩
                | some t => exact ⟨_, _, _, rfl⟩
              rw [hwv] at hw1
              have hw2' := fun w h => hwv ▸ hw2 w h
              clear hwv hw2 ub2 hmU2 hmP2
              obtain ⟨ca, cb, cc, cd, ce⟩ := s7.act
              clear ca cb cc ce
              go_wp2_with fail
              refine hw1.mono ?_
              rintro e w8 ⟨rfl, hx⟩
              have s8 := s7.turn (p' := fun _ => true) AP (Chg.of_same hx _) (fun h => by cases h) (fun _ => (s7.q1 rfl).below hx)
              clear hw1 s7 hx cd
              go_upto_region 16 with fail
              have hs0 : Below w8.heap.size w8 w8.drew := (Below.refl _ _).drew
              refine region_facts_set 15 (fun _ => false) (FV [.agg #[.int .i64 Pn, .slice A2 (doL Pn m a).length cc2, .int .i64 bn, .int .u64 (baseN b1 a), .int .i64 (casN m S b1 lk a)], .slice (some ⟨ab, ao, none⟩) l.length c, .int .i64 k, .pointer (some ⟨ab, ao + k * 5, none⟩), .pointer (some ⟨ab, ao + k * 5 + 1, none⟩), .pointer (some ⟨ab, ao + k * 5 + 3, none⟩), .int .i64 a.t.place, .tuple #[.int .i64 L, .int .i64 S1, .bool y0], .tuple #[.int .i64 L, .int .i64 S1, .bool y0], .int .i64 L, .int .i64 S1, .bool y0, .int .i64 L, .int .i64 S1, .bool y0]) (fun _ x => Below w8.heap.size w8 x) (fun _ x y => x.heap.size ≤ y.heap.size) [113, 114, 115, 116, 117, 118, 119, 120, 112, 121, 122, 123, 23, 24, 25] (by kernel_rfl) (by kernel_rfl) (by kernel_rfl) (by decide) (by kernel_rfl) (by kernel_rfl) (fun _ _ _ _ _ _ h _ => h) (fun _ _ _ h => h) hs0 ?_ ?_
              · intro fr hfr
                have f3 : fr.getD 3 undef = .slice (some ⟨ab, ao, none⟩) l.length c := by rw [hfr]; rfl
                have f16 : fr.getD 16 undef = .int .i64 k := by rw [hfr]; rfl
                have f17 : fr.getD 17 undef = .pointer (some ⟨x17, 0, none⟩) := by rw [hfr]; rfl
                clear hfr
                iterate 15
                  refine ⟨⟨by first | trivial | exact ⟨rfl, fun _ _ h => h⟩, ?_⟩, ?_⟩
                  · intro ρ w' p hp hdq hρ hd hSt
                    simp only [DepF, Region.binds, List.getD_cons_zero, List.getD_cons_succ, FV, forall_const, and_true, true_and] at hd
                    have hcon := hρ.con
                    (have e3 := (hρ.slot 3 (by kernel_rfl)).trans f3; have e16 := (hρ.slot 16 (by kernel_rfl)).trans f16; have e17 := (hρ.slot 17 (by kernel_rfl)).trans f17)
                    (have eb := (s8.bx.below hSt s8.bx.lt).cell; have hLa := s8.lat.on hSt; have ed := (World.cell?_of_block (hSt.block ab (by have := s8.size; omega))).trans s8.act.2.2.2.1)
                    (try rw [execOp_call_fn _ _ _ _ _ _ _ _ _ (hρ.fn _)])
                    go_simp
                    (try simp only [GoodQ, FV, List.getD_cons_zero, List.getD_cons_succ])
                    first
                      | exact ⟨rfl, Nat.le_refl _, fun h => absurd h (by decide), hSt⟩
                      | exact ⟨trivial, Nat.le_refl _, fun h => absurd h (by decide), hSt⟩
                      | (refine (hw2' w' hLa).mono ?_; rintro e w'' ⟨rfl, hx⟩; exact ⟨_, rfl, rfl, hx.size, fun h => absurd h (by decide), hSt.trans (Below.mono hx hSt.size)⟩)
                trivial
              · intro vs w9 hSt hF _
                have h12 : vs 12 = .int .i64 L := hF 12 (by decide)
                have h13 : vs 13 = .int .i64 S1 := hF 13 (by decide)
                have h14 : vs 14 = .bool y0 := hF 14 (by decide)
                have s9 := s8.turn (p' := fun _ => true) AP (Chg.of_same hSt _) (fun h => by cases h) (fun _ => (s8.q1 rfl).below hSt)
                simp only [setAll, List.setIfInBounds_toArray, List.set_cons_zero, List.set_cons_succ, Nat.reduceAdd]
                rw [h12, h13, h14]
                simp only [List.drop_succ_cons, List.drop_zero, List.drop_nil]
                clear h12 h13 h14 hF hs0 hSt s8 hw2'
                have q7 := (s9.q1 rfl).drew
                have ha := vq_base q tb c1 nb Pn bn S _ _ _ w9.drew q7
                have hlo := vq_cas q tb c1 nb Pn bn S _ _ _ w9.drew q7
                have hle := vq_len q tb c1 nb Pn bn S _ _ _ w9.drew q7
                have e17 := s9.bx.drew.cell
                have eg := s9.bg.drew.cell
                have ef := s9.bg.drew.frozen
                have el := s9.bg.drew.lt
                have hpn : HP w g q tb c1 nb Pn bn S bn (baseN b1 a) (casN m S b1 lk a) (doL Pn m a) (.slice A2 (doL Pn m a).length cc2) (((((w9.drew.setCell ⟨g, 0, none⟩ (.int .i64 Pn)).setCell ⟨g, 1, none⟩ (.slice A2 (doL Pn m a).length cc2)).setCell ⟨g, 2, none⟩ (.int .i64 bn)).setCell ⟨g, 3, none⟩ (.int .u64 (baseN b1 a))).setCell ⟨g, 4, none⟩ (.int .i64 (casN m S b1 lk a))) :=
                  ⟨q7.chg (chg_put5' _ _ _ _ _ _ _) (show ¬ q = g by omega) (show ¬ tb = g by omega) (show ¬ c1 = g by omega) (show ¬ nb = g by omega), s9.bg.drew.put5 _ _ _ _ _, (s9.lat.on (Below.refl _ _).drew).rt (RT.put5 s9.bg.drew (by decide) _ _ _ _ _), hap', below_put5 s9.below.drew gge _ _ _ _ _⟩
                clear s9 AP q7 hap'
                go_upto_region 17 with fail
                refine still_all (by kernel_rfl) (by kernel_rfl) ?_
                iterate 19 still_step
                still_call (flip ha)
                iterate 6 still_step
                still_call (flip hlo)
                iterate 6 still_step
                still_call (flip hle)
                repeat still_step
                refine wpStill_nil ?_
                clear ha hlo hle
                generalize w9.drew = w10 at *
                go_wp2_with fail
                go_roundw
                case rel => exact ⟨k + 1, _, _, _, by omega, by go_num, by rw [HSx.out, HB1.out]; exact hpn, by rw [HSx.out, HB1.out]; exact HFN⟩
                case measure => simp [intOf]; omega
        · have ht : l.take k = l := List.take_of_length_le (by omega)
          rw [ht] at hp
          clear HFI
          generalize behindL Pn l = m at *
          generalize baseA base l = b1 at *
          have hv0 : ∃ A1 cc1, v = .slice A1 m.length cc1 := by
            obtain ⟨A1, cc1, e, _⟩ := hp.lat
            exact ⟨A1, cc1, e⟩
          obtain ⟨A1, cc1, rfl⟩ := hv0
          have hml := hp.wheel.len
          have hmP : m.length ≤ 100000 := by have := z.hP; omega
          have hg1 := vq_get q tb c1 nb Pn bn S b1 lk m place wr hp.wheel z
          unfold pairT Timer.val at hg1
          generalize hx : (getL m place).getD Timer.zero = x at *
          generalize hy : (getL m place).isSome = y at *
          go_wp2_with fail
          refine hg1.mono ?_
          rintro e w5 ⟨rfl, hx5⟩
          have p5 := hp.kept hx5
          have hg2 := fun ob => rget_any Pn (.slice A1 m.length cc1) m place (w5.alloc ob) (p5.kept (alloc_kept' _ _)).lat hmP
          unfold pairT Timer.val qV at hg2
          rw [hx, hy] at hg2
          have e0 := p5.box.cell
          have l0 := p5.box.lt
          clear hg1 hp hx5 hx hy
          go_wp2_with fail
          refine (hg2 _).mono ?_
          rintro e w7 ⟨rfl, hx7⟩
          have b20 := (Blk.new w5 37 #[.int .u64 x.at_, .int .u64 x.seq, .int .i64 x.place]).below hx7 (by simp)
          have p7 := (p5.kept (alloc_kept' w5 (.cells #[.int .u64 x.at_, .int .u64 x.seq, .int .i64 x.place] 37))).kept hx7
          clear hg2 p5 hx7 e0 l0
          have hm1 := fun ob => vq_min q tb c1 nb Pn bn S b1 lk m (w7.alloc ob) (p7.kept (alloc_kept' _ _)).wheel z
          unfold pairT Timer.val at hm1
          generalize hx : m.head?.getD Timer.zero = x2 at *
          generalize hy : m.head?.isSome = y2 at *
          go_wp2_with fail
          refine (hm1 _).mono ?_
          rintro e w9 ⟨rfl, hx9⟩
          have b22 := (Blk.new w7 37 #[.int .u64 x.at_, .int .u64 x.seq, .int .i64 x.place]).below hx9 (by simp)
          have b20 := (b20.alloc (.cells #[.int .u64 x.at_, .int .u64 x.seq, .int .i64 x.place] 37)).below hx9 (by have := b20.lt; simp; omega)
          have p9 := (p7.kept (alloc_kept' w7 (.cells #[.int .u64 x.at_, .int .u64 x.seq, .int .i64 x.place] 37))).kept hx9
          clear hm1 p7 hx9
          have hm2 := fun ob => rmin_any Pn (.slice A1 m.length cc1) m (w9.alloc ob) (p9.kept (alloc_kept' _ _)).lat hmP
          unfold pairT Timer.val qV at hm2
          rw [hx, hy] at hm2
          have e0 := p9.box.cell
          have l0 := p9.box.lt
          clear hx hy
          go_wp2_with fail
          refine (hm2 _).mono ?_
          rintro e w11 ⟨rfl, hx11⟩
          have b24 := (Blk.new w9 37 #[.int .u64 x2.at_, .int .u64 x2.seq, .int .i64 x2.place]).below hx11 (by simp)
          have b22 := (b22.alloc (.cells #[.int .u64 x2.at_, .int .u64 x2.seq, .int .i64 x2.place] 37)).below hx11 (by have := b22.lt; simp; omega)
          have b20 := (b20.alloc (.cells #[.int .u64 x2.at_, .int .u64 x2.seq, .int .i64 x2.place] 37)).below hx11 (by have := b20.lt; simp; omega)
          have p11 := (p9.kept (alloc_kept' w9 (.cells #[.int .u64 x2.at_, .int .u64 x2.seq, .int .i64 x2.place] 37))).kept hx11
          clear hm2 p9 hx11 e0 l0
          go_upto_region 24 with fail
          have hs0 : SGw w11.heap.size g q tb c1 nb Pn bn S b1 lk m (.slice A1 m.length cc1) #[.int .i64 Pn, .slice A1 m.length cc1, .int .i64 bn, .int .u64 b1, .int .i64 lk] w w5.heap.size w7.heap.size w9.heap.size w11.heap.size #[.int .u64 x.at_, .int .u64 x.seq, .int .i64 x.place] #[.int .u64 x2.at_, .int .u64 x2.seq, .int .i64 x2.place] (fun _ => false) (w11.alloc (.cells #[.int .u64 x2.at_, .int .u64 x2.seq, .int .i64 x2.place] 37)).drew := by
            have p12 := p11.kept (alloc_kept' w11 (.cells #[.int .u64 x2.at_, .int .u64 x2.seq, .int .i64 x2.place] 37))
            exact ⟨p12.wheel.drew, p12.box.drew, p12.lat.on (Below.refl _ _).drew, by simp, p12.below.drew, (b20.alloc _).drew, (b22.alloc _).drew, (b24.alloc _).drew, (Blk.new _ _ _).drew⟩
          clear p11 b20 b22 b24
          generalize w11.alloc (.cells #[.int .u64 x2.at_, .int .u64 x2.seq, .int .i64 x2.place] 37) = w12 at *
          generalize w11.heap.size = x26 at *
          generalize w9.heap.size = x24 at *
          generalize w7.heap.size = x22 at *
          generalize w5.heap.size = x20 at *
          refine region_facts_set 5 (fun _ => false) (FGw x26 q g m (.slice A1 m.length cc1)) (SGw x26 g q tb c1 nb Pn bn S b1 lk m (.slice A1 m.length cc1) #[.int .i64 Pn, .slice A1 m.length cc1, .int .i64 bn, .int .u64 b1, .int .i64 lk] w x20 x22 x24 x26 #[.int .u64 x.at_, .int .u64 x.seq, .int .i64 x.place] #[.int .u64 x2.at_, .int .u64 x2.seq, .int .i64 x2.place]) (fun _ x y => Below x.heap.size x y) [189, 190, 191, 192, 193] (by kernel_rfl) (by kernel_rfl) (by kernel_rfl) (by decide) (by kernel_rfl) (by kernel_rfl) FGw.keep (fun _ _ _ h => h.size) hs0 ?_ ?_
          · intro fr hfr
            have f12 : fr.getD 12 undef = .pointer (some ⟨q, 0, none⟩) := by rw [hfr]; rfl
            have f14 : fr.getD 14 undef = .pointer (some ⟨g, 0, none⟩) := by rw [hfr]; rfl
            clear hfr
            iterate 5
              refine ⟨⟨trivial, ?_⟩, ?_⟩
              · intro ρ w' p hp hdq hρ hd hSt
                simp only [DepF, Region.binds, List.getD_cons_zero, List.getD_cons_succ, FGw, forall_const, and_true, true_and] at hd
                have hcon := hρ.con
                have e12 := (hρ.slot 12 (by kernel_rfl)).trans f12
                have e14 := (hρ.slot 14 (by kernel_rfl)).trans f14
                have eg := hSt.bg.cell
                (try rw [execOp_call_fn _ _ _ _ _ _ _ _ _ (hρ.fn _)])
                go_simp
                (try simp only [GoodQ, FGw])
                first
                  | exact ⟨rfl, Below.refl _ _, fun h => absurd h (by decide), hSt.keep (Below.refl _ _)⟩
                  | exact ⟨trivial, Below.refl _ _, fun h => absurd h (by decide), hSt.keep (Below.refl _ _)⟩
                  | (refine (vq_all q tb c1 nb Pn bn S b1 lk m w' hSt.q z).mono ?_; rintro e w'' ⟨v', rfl, hO, hk'⟩; exact ⟨v', rfl, hO.lf.mono hSt.size, hk', fun h => absurd h (by decide), hSt.keep hk'⟩)
            trivial
          · intro vs w13 hSt hF _
            have h3 : LF x26 w13 (vs 1) m := hF 1 (by decide)
            have h6 : vs 4 = .slice A1 m.length cc1 := hF 4 (by decide)
            have hsm := same_refl (vs 1) (.slice A1 m.length cc1) _ w13 h3.at_ hSt.lat (by omega)
            clear hF h3 hs0
            simp only [setAll, List.setIfInBounds_toArray, List.set_cons_zero, List.set_cons_succ, Nat.reduceAdd]
            rw [h6]
            simp only [List.drop_succ_cons, List.drop_zero]
            clear h6
            go_wp2_with fail
            refine hsm.mono ?_
            rintro e w14 ⟨rfl, hx⟩
            have s14 := hSt.keep (p' := fun _ => true) hx
            have z20 := s14.b20.cell
            have z22 := s14.b22.cell
            have z24 := s14.b24.cell
            have z26 := s14.b26.cell
            have HK := Lib.hid s14.below
            clear hsm hx hSt s14
            go_wp2_with fail
            go_ret
            exact ⟨rfl, HK.out⟩
    · have hn := vnew_bad P bits base w1 hok
      have hn2 := wnew_bad P bits base w1 hok
      clear hok hA
      go_wp2_with fail
      refine hn.mono ?_
      rintro e w2 ⟨rfl, rfl⟩
      unfold nilE
      go_wp2_with fail
      refine hn2.mono ?_
      rintro e w2 ⟨rfl, hx⟩
      have HB := Lib.hid ((hb.trans (Below.mono hx hb.size)).alloc (by have := hb.size; have := hx.size; omega) (.cells #[.int .i64 0, .slice none 0 0, .int .i64 0, .int .u64 0, .int .i64 0] 33))
      clear hn hn2 hx hb
      unfold wE wV
      go_wp2_with fail
      go_ret
      exact ⟨rfl, HB.out⟩
end Go.Proofs.YtckkfbepclogcaaGreatDoor
