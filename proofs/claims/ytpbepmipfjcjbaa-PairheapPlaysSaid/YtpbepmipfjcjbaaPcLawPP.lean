/- The law: the texts LawPP, laid end to end by a program. -/
import Derived.Test.YtpbepmipfjcjbaaPcPal
namespace Go.Proofs.Ytpbepmipfjcjbaa
open Go.RowKit
/-- The slice v, in a tuple of what is told. -/
def ToldP (B : Nat) (e : Int) (t : Timer) (l : List Timer) (v : Value) (w : World) : Prop := ∃ u, v = tV e t u ∧ LF B w u l
/-- The document's new queue; its list is the old one's or lies above B. -/
def QAt (B : Nat) (v0 : Value) (P : Int) (m' : List Timer) (v : Value) (w : World) : Prop := ∃ v', v = qV P v' ∧ LAt w v' m' ∧ ∀ k, blkOf v' = some k → blkOf v0 = some k ∨ B ≤ k
/-- No list's block is turned. -/
def RT (w w' : World) : Prop := w.heap.size ≤ w'.heap.size ∧ ∀ k, Lies w k → w'.heap[k]? = w.heap[k]?
theorem LAt.rt {w w' : World} {v : Value} {l : List Timer} (h : LAt w v l) (r : RT w w') : LAt w' v l := h.far r.1 fun g hg => r.2 g (h.lies g hg)
theorem QAt.rt {B : Nat} {v0 v : Value} {P : Int} {m' : List Timer} {w w' : World} (h : QAt B v0 P m' v w) (r : RT w w') : QAt B v0 P m' v w' := by
  obtain ⟨v', e, h1, h2⟩ := h
  exact ⟨v', e, h1.rt r, h2⟩
theorem ToldP.rt {B : Nat} {e : Int} {t : Timer} {l : List Timer} {v : Value} {w w' : World} (h : ToldP B e t l v w) (r : RT w w') : ToldP B e t l v w' := by
  obtain ⟨u, rfl, h⟩ := h
  exact ⟨u, rfl, h.at_.rt r, h.ge⟩
theorem ToldP.chg {B : Nat} {e : Int} {t : Timer} {l : List Timer} {v : Value} {w w' : World} {T : Nat → Prop} (h : ToldP B e t l v w) (k : Chg T w w') (hT : ∀ i, T i → i < B) : ToldP B e t l v w' := by
  obtain ⟨u, rfl, h⟩ := h
  exact ⟨u, rfl, h.chg k hT⟩
theorem RT.below {w w' : World} (r : Below w.heap.size w w') : RT w w' := ⟨r.size, fun k h => r.block k h.lt⟩
theorem RT.chg {w w' : World} {x : Nat} {t : TypeId} {cs : Array Value} (h : Blk w x t cs) (ht : t ≠ 35) (k : Chg (fun b => b = x) w w') : RT w w' :=
  ⟨k.size, fun b hb => k.block b hb.lt fun e => by
    subst e
    obtain ⟨c, hc⟩ := hb
    exact ht (blk_same h hc)⟩
/-- What each operation of the document's step yields. -/
def FDp (B : Nat) (P : Int) (v0 : Value) (m' : List Timer) (sl : Value) (k : Nat) (q : Addr) (a : Act) (e : Int) (t : Timer) (d : List Timer) (j : Nat) (v : Value) (w : World) : Prop := match j with
  | 0 => v = qV P v0
  | 1 => v = sl
  | 2 => v = .int .i64 k
  | 3 => v = .pointer (some q)
  | 4 => v = a.val
  | 5 => ∃ x y, v = .tuple #[x, y] ∧ QAt B v0 P m' x w ∧ ToldP B e t d y w
  | 6 => ∃ x y, v = .tuple #[x, y] ∧ QAt B v0 P m' x w ∧ ToldP B e t d y w
  | 7 => QAt B v0 P m' v w
  | 8 => ToldP B e t d v w
  | _ => True
theorem FDp.keep {B : Nat} {P : Int} {v0 : Value} {m' : List Timer} {sl : Value} {k : Nat} {q : Addr} {a : Act} {e : Int} {t : Timer} {d : List Timer} (i j : Nat) (v : Value) (w w' : World) (_ : j ≠ i) (h : FDp B P v0 m' sl k q a e t d j v w) (r : RT w w') : FDp B P v0 m' sl k q a e t d j v w' := by
  unfold FDp at h ⊢
  split at h <;> first | exact h | exact h.rt r | (obtain ⟨x, y, e, h1, h2⟩ := h; exact ⟨x, y, e, h1.rt r, h2.rt r⟩)
/-- What holds of the memory in the document's step. -/
structure SDp (B : Nat) (wr : World) (P : Int) (v0 : Value) (m' : List Timer) (e : Int) (t : Timer) (d : List Timer) (p : Nat → Bool) (vs : Nat → Value) (w : World) : Prop where
  bl : Below B wr w
  c9 : p 11 = true → p 9 = true
  c10 : p 12 = true → p 10 = true
  b9 : p 9 = true → ∃ x c0 c1, vs 9 = .pointer (some ⟨x, 0, none⟩) ∧ B ≤ x ∧ Blk w x 30 #[c0, c1] ∧ (p 11 = true → QAt B v0 P m' (.agg #[c0, c1]) w)
  b10 : p 10 = true → ∃ x c0 c1 c2 c3 c4, vs 10 = .pointer (some ⟨x, 0, none⟩) ∧ B ≤ x ∧ Blk w x 37 #[c0, c1, c2, c3, c4] ∧ (p 12 = true → ToldP B e t d (.agg #[c0, c1, c2, c3, c4]) w)
section
variable {B : Nat} {wr : World} {P : Int} {v0 : Value} {m' : List Timer} {e : Int} {t : Timer} {d : List Timer} {p : Nat → Bool} {vs : Nat → Value} {w w' : World}
theorem SDp.calm (h : SDp B wr P v0 m' e t d p vs w) (hB : B ≤ wr.heap.size) (r : Below w.heap.size w w') (i : Nat) (h9 : i ≠ 9) (h10 : i ≠ 10) (h11 : i ≠ 11) (h12 : i ≠ 12) (v : Value) : SDp B wr P v0 m' e t d (also p i) (updV vs i v) w' := by
  have e9 : also p i 9 = p 9 := also_ne p (fun e => h9 e.symm)
  have e10 : also p i 10 = p 10 := also_ne p (fun e => h10 e.symm)
  have e11 : also p i 11 = p 11 := also_ne p (fun e => h11 e.symm)
  have e12 : also p i 12 = p 12 := also_ne p (fun e => h12 e.symm)
  refine ⟨h.bl.trans (Below.mono r (Nat.le_trans hB h.bl.size)), by rw [e9, e11]; exact h.c9, by rw [e10, e12]; exact h.c10, fun y => ?_, fun y => ?_⟩
  · rw [e9] at y
    obtain ⟨x, c0, c1, y1, y2, y3, y4⟩ := h.b9 y
    exact ⟨x, c0, c1, by rw [updV_ne vs v (fun e => h9 e.symm), y1], y2, y3.below r y3.lt, fun z => (y4 (e11 ▸ z)).rt (RT.below r)⟩
  · rw [e10] at y
    obtain ⟨x, c0, c1, c2, c3, c4, y1, y2, y3, y4⟩ := h.b10 y
    exact ⟨x, c0, c1, c2, c3, c4, by rw [updV_ne vs v (fun e => h10 e.symm), y1], y2, y3.below r y3.lt, fun z => (y4 (e12 ▸ z)).rt (RT.below r)⟩
theorem SDp.new9 (h : SDp B wr P v0 m' e t d p vs w) (hB : B ≤ wr.heap.size) (hp : p 9 = false) (c0 c1 : Value) : SDp B wr P v0 m' e t d (also p 9) (updV vs 9 (.pointer (some ⟨w.heap.size, 0, none⟩))) (w.alloc (.cells #[c0, c1] 30)) := by
  have r := alloc_kept' w (.cells #[c0, c1] 30)
  have e10 : also p 9 10 = p 10 := also_ne p (by decide)
  have e11 : also p 9 11 = p 11 := also_ne p (by decide)
  have e12 : also p 9 12 = p 12 := also_ne p (by decide)
  have hs := Nat.le_trans hB h.bl.size
  refine ⟨h.bl.trans (Below.mono r hs), fun _ => also_at p 9, by rw [e10, e12]; exact h.c10, fun _ => ⟨_, c0, c1, updV_at _ _ _, hs, Blk.new _ _ _, fun z => ?_⟩, fun y => ?_⟩
  · rw [e11] at z
    have := h.c9 z
    rw [hp] at this
    cases this
  · rw [e10] at y
    obtain ⟨x, d0, d1, d2, d3, d4, y1, y2, y3, y4⟩ := h.b10 y
    exact ⟨x, d0, d1, d2, d3, d4, by rw [updV_ne vs _ (by decide), y1], y2, y3.below r y3.lt, fun z => (y4 (e12 ▸ z)).rt (RT.below r)⟩
theorem SDp.new10 (h : SDp B wr P v0 m' e t d p vs w) (hB : B ≤ wr.heap.size) (hp : p 10 = false) (c0 c1 c2 c3 c4 : Value) : SDp B wr P v0 m' e t d (also p 10) (updV vs 10 (.pointer (some ⟨w.heap.size, 0, none⟩))) (w.alloc (.cells #[c0, c1, c2, c3, c4] 37)) := by
  have r := alloc_kept' w (.cells #[c0, c1, c2, c3, c4] 37)
  have e9 : also p 10 9 = p 9 := also_ne p (by decide)
  have e11 : also p 10 11 = p 11 := also_ne p (by decide)
  have e12 : also p 10 12 = p 12 := also_ne p (by decide)
  have hs := Nat.le_trans hB h.bl.size
  refine ⟨h.bl.trans (Below.mono r hs), by rw [e9, e11]; exact h.c9, fun _ => also_at p 10, fun y => ?_, fun _ => ⟨_, c0, c1, c2, c3, c4, updV_at _ _ _, hs, Blk.new _ _ _, fun z => ?_⟩⟩
  · rw [e9] at y
    obtain ⟨x, d0, d1, y1, y2, y3, y4⟩ := h.b9 y
    exact ⟨x, d0, d1, by rw [updV_ne vs _ (by decide), y1], y2, y3.below r y3.lt, fun z => (y4 (e11 ▸ z)).rt (RT.below r)⟩
  · rw [e12] at z
    have := h.c10 z
    rw [hp] at this
    cases this
theorem SDp.put9 (h : SDp B wr P v0 m' e t d p vs w) (hp : p 9 = true) {x : Nat} {d0 d1 : Value} (hv : vs 9 = .pointer (some ⟨x, 0, none⟩)) (hx : B ≤ x) (hbx : Blk w x 30 #[d0, d1])
    (c0 c1 : Value) (hW : QAt B v0 P m' (.agg #[c0, c1]) w) (v : Value) :
    RT w ((w.setCell ⟨x, 0, none⟩ c0).setCell ⟨x, 1, none⟩ c1) ∧ SDp B wr P v0 m' e t d (also p 11) (updV vs 11 v) ((w.setCell ⟨x, 0, none⟩ c0).setCell ⟨x, 1, none⟩ c1) := by
  have hk : Chg (fun b => b = x) w ((w.setCell ⟨x, 0, none⟩ c0).setCell ⟨x, 1, none⟩ c1) := (chg_cell w x 0 _).trans (chg_cell _ x 1 _) fun _ _ e => e
  have r := RT.chg hbx (by decide) hk
  have hb2 : Blk ((w.setCell ⟨x, 0, none⟩ c0).setCell ⟨x, 1, none⟩ c1) x 30 #[c0, c1] := by
    have := (hbx.put 0 c0).put 1 c1
    simpa using this
  have e9 : also p 11 9 = p 9 := also_ne p (by decide)
  have e10 : also p 11 10 = p 10 := also_ne p (by decide)
  have e12 : also p 11 12 = p 12 := also_ne p (by decide)
  refine ⟨r, (h.bl.setCell (p := ⟨x, 0, none⟩) hx c0).setCell (p := ⟨x, 1, none⟩) hx c1, fun _ => by rw [e9]; exact hp, by rw [e10, e12]; exact h.c10, fun _ => ⟨x, c0, c1, by rw [updV_ne vs v (by decide), hv], hx, hb2, fun _ => hW.rt r⟩, fun y => ?_⟩
  rw [e10] at y
  obtain ⟨x2, f0, f1, f2, f3, f4, y1, y2, y3, y4⟩ := h.b10 y
  have hne : x2 ≠ x := by
    rintro rfl
    exact absurd (blk_same y3 hbx) (by decide)
  exact ⟨x2, f0, f1, f2, f3, f4, by rw [updV_ne vs v (by decide), y1], y2, y3.chg hk hne, fun z => (y4 (e12 ▸ z)).rt r⟩
theorem SDp.put10 (h : SDp B wr P v0 m' e t d p vs w) (hp : p 10 = true) {x : Nat} {d0 d1 d2 d3 d4 : Value} (hv : vs 10 = .pointer (some ⟨x, 0, none⟩)) (hx : B ≤ x) (hbx : Blk w x 37 #[d0, d1, d2, d3, d4])
    (c0 c1 c2 c3 c4 : Value) (hW : ToldP B e t d (.agg #[c0, c1, c2, c3, c4]) w) (v : Value) :
    RT w (((((w.setCell ⟨x, 0, none⟩ c0).setCell ⟨x, 1, none⟩ c1).setCell ⟨x, 2, none⟩ c2).setCell ⟨x, 3, none⟩ c3).setCell ⟨x, 4, none⟩ c4) ∧ SDp B wr P v0 m' e t d (also p 12) (updV vs 12 v) (((((w.setCell ⟨x, 0, none⟩ c0).setCell ⟨x, 1, none⟩ c1).setCell ⟨x, 2, none⟩ c2).setCell ⟨x, 3, none⟩ c3).setCell ⟨x, 4, none⟩ c4) := by
  have hk : Chg (fun b => b = x) w (((((w.setCell ⟨x, 0, none⟩ c0).setCell ⟨x, 1, none⟩ c1).setCell ⟨x, 2, none⟩ c2).setCell ⟨x, 3, none⟩ c3).setCell ⟨x, 4, none⟩ c4) := chg_put5 (T := fun k => k = x) (Chg.refl _ _) (fun _ => rfl) _ _ _ _ _
  have r := RT.chg hbx (by decide) hk
  have e9 : also p 12 9 = p 9 := also_ne p (by decide)
  have e10 : also p 12 10 = p 10 := also_ne p (by decide)
  have e11 : also p 12 11 = p 11 := also_ne p (by decide)
  refine ⟨r, ((((h.bl.setCell (p := ⟨x, 0, none⟩) hx c0).setCell (p := ⟨x, 1, none⟩) hx c1).setCell (p := ⟨x, 2, none⟩) hx c2).setCell (p := ⟨x, 3, none⟩) hx c3).setCell (p := ⟨x, 4, none⟩) hx c4, by rw [e9, e11]; exact h.c9, fun _ => by rw [e10]; exact hp, fun y => ?_, fun _ => ⟨x, c0, c1, c2, c3, c4, by rw [updV_ne vs v (by decide), hv], hx, hbx.put5 c0 c1 c2 c3 c4, fun _ => hW.rt r⟩⟩
  rw [e9] at y
  obtain ⟨x2, f0, f1, y1, y2, y3, y4⟩ := h.b9 y
  have hne : x2 ≠ x := by
    rintro rfl
    exact absurd (blk_same y3 hbx) (by decide)
  exact ⟨x2, f0, f1, by rw [updV_ne vs v (by decide), y1], y2, y3.chg hk hne, fun z => (y4 (e11 ▸ z)).rt r⟩
/-- The document's step, as an operation of the region. -/
theorem SDp.step {m : List Timer} {a : Act} (h : SDp B wr P v0 (doL P m a) (doE P m a) (doT P m a) (doD m a) p vs w) (hB : B ≤ wr.heap.size) (hL : ∀ x, Below B wr x → LAt x v0 m) (hl : m.length ≤ 100000) (T : Prop) (hT : ¬ T) (T2 : Value → World → World → Prop) (hT2 : ∀ v x y, T2 v x y) :
    Calls Try.prog 11 #[qV P v0, a.val] w fun e w' => ∃ v, e = .returned v ∧ (T → v = undef) ∧ (∃ x y, v = .tuple #[x, y] ∧ QAt B v0 P (doL P m a) x w' ∧ ToldP B (doE P m a) (doT P m a) (doD m a) y w') ∧ RT w w' ∧ T2 v w w' ∧ SDp B wr P v0 (doL P m a) (doE P m a) (doT P m a) (doD m a) (also p 5) (updV vs 5 v) w' := by
  refine (rdo_any P v0 m a w (hL w h.bl) hl).mono ?_
  rintro e w' ⟨v', u, rfl, h1, h2, hx, f1, f2⟩
  have hs := Nat.le_trans hB h.bl.size
  refine ⟨_, rfl, fun t => absurd t hT, ⟨_, _, rfl, ⟨v', rfl, h1, fun k hk => (f1 k hk).imp id fun y => by omega⟩, ⟨u, rfl, h2, fun k hk => ?_⟩⟩, RT.below hx, hT2 _ _ _, h.calm hB hx 5 (by decide) (by decide) (by decide) (by decide) _⟩
  rcases f2 k hk with y | y
  · simp [blkOf] at y
  · omega
end
/-! The heap's step. -/
def FEp (B q : Nat) (sl : Value) (k : Nat) (p : Addr) (a : Act) (e : Int) (t : Timer) (d : List Timer) (j : Nat) (v : Value) (w : World) : Prop := match j with
  | 0 => v = .pointer (some ⟨q, 0, none⟩)
  | 1 => v = sl
  | 2 => v = .int .i64 k
  | 3 => v = .pointer (some p)
  | 4 => v = a.val
  | 5 => ToldP B e t d v w
  | _ => ToldP B e t d v w
theorem FEp.keep {B q : Nat} {G : Nat → Prop} {sl : Value} {k : Nat} {p : Addr} {a : Act} {e : Int} {t : Timer} {d : List Timer} (hT : ∀ i, G i → i < B) (i j : Nat) (v : Value) (w w' : World) (_ : j ≠ i) (h : FEp B q sl k p a e t d j v w) (r : Chg G w w') : FEp B q sl k p a e t d j v w' := by
  unfold FEp at h ⊢
  split at h <;> first | exact h | exact h.chg r hT
structure SEp (w5 : World) (q P : Nat) (G : Nat → Prop) (m m' : List Timer) (p : Nat → Bool) (w : World) : Prop where
  q0 : p 5 = false → PQ w q P m G
  q1 : p 5 = true → PQ w q P m' (fun b => G b ∨ w5.heap.size ≤ b)
  k : Chg G w5 w
theorem SEp.quiet {w5 : World} {q P : Nat} {G : Nat → Prop} {m m' : List Timer} {p : Nat → Bool} {w : World} (h : SEp w5 q P G m m' p w) (i : Nat) (h5 : i ≠ 5) : SEp w5 q P G m m' (also p i) w := by
  have e5 : also p i 5 = p 5 := also_ne p (fun e => h5 e.symm)
  exact ⟨fun y => h.q0 (e5 ▸ y), fun y => h.q1 (e5 ▸ y), h.k⟩
theorem SEp.step {w5 : World} {q P B : Nat} {G : Nat → Prop} {m : List Timer} {a : Act} {p : Nat → Bool} {w : World} (h : SEp w5 q P G m (doL P m a) p w) (hP : P ≤ 1024) (hB : B ≤ w5.heap.size) (hp : p 5 = false) :
    Calls Try.prog 13 #[.pointer (some ⟨q, 0, none⟩), a.val] w fun f w' => ∃ v, f = .returned v ∧ ToldP B (doE P m a) (doT P m a) (doD m a) v w' ∧ Chg G w w' ∧ (false = true → Frsh v w w') ∧ SEp w5 q P G m (doL P m a) (also p 5) w' := by
  refine (pdo_g q P m G a w (h.q0 hp) hP).mono ?_
  rintro f w' ⟨u, rfl, ho, hq, hk⟩
  have hs := h.k.size
  refine ⟨_, rfl, ⟨u, rfl, ho.lf.mono (Nat.le_trans hB hs)⟩, hk, (fun h => by cases h), ⟨fun y => ?_, fun _ => PQ.mono hq fun b _ e => e.imp id fun x => Nat.le_trans hs x, h.k.trans hk fun _ _ e => e⟩⟩
  rw [also_at] at y
  cases y
/-- What the rounds keep. -/
structure PP (w0 : World) (g q P : Nat) (m : List Timer) (v : Value) (G : Nat → Prop) (w : World) : Prop where
  q : PQ w q P m G
  lt : ∀ b, G b → b < w.heap.size
  ge : ∀ b, G b → w0.heap.size ≤ b
  box : Blk w g 30 #[.int .i64 P, v]
  boxn : ¬ G g
  boxge : w0.heap.size ≤ g
  lat : LAt w v m
  apart : ∀ k, blkOf v = some k → ¬ G k
  below : Below w0.heap.size w0 w
attribute [local irreducible] Calls
set_option linter.unusedSimpArgs false in
set_option maxRecDepth 100000 in
set_option maxHeartbeats 4000000 in
theorem pplays (P place : Int) (A : Option Addr) (l : List Act) (c : Nat) (w : World) (hA : AcAt w w.heap.size A l) (hlen : l.length ≤ 2 ^ 63 - 1) :
    Calls Try.prog 3 #[.int .i64 P, .slice A l.length c, .int .i64 place] w fun e w' => e = .returned (.bool true) ∧ Below w.heap.size w w' := by
  have hw := pworks w
  go_enter Try.func3, Try.ntmps3
  go_wp2_with fail
  refine hw.mono ?_
  rintro e w1 ⟨rfl, hb⟩
  clear hw
  by_cases hl : 60 < l.length
  · have hl2 : (60 : Int) < l.length := by omega
    have HB := Lib.hid hb
    clear hA hb
    go_wp2_with fail
    go_ret
    exact ⟨rfl, HB.out⟩
  · have hl2 : ¬ (60 : Int) < l.length := by omega
    by_cases hok : P < 0 ∨ 1024 < P
    · have hn := ph_new_bad P w1 hok
      have hn2 := rnew_bad P w1 (by omega)
      clear hok hA
      go_wp2_with fail
      refine hn.mono ?_
      rintro e w2 ⟨rfl, rfl⟩
      clear hn
      go_wp2_with fail
      refine hn2.mono ?_
      rintro e w2 ⟨rfl, hx⟩
      have HB := Lib.hid ((hb.trans (Below.mono hx hb.size)).alloc (by have := hb.size; have := hx.size; omega) (.cells #[.int .i64 0, .slice none 0 0] 30))
      clear hn2 hx hb
      unfold qE qV
      go_wp2_with fail
      go_ret
      exact ⟨rfl, HB.out⟩
    · obtain ⟨Pn, rfl⟩ := Int.eq_ofNat_of_zero_le (show 0 ≤ P by omega)
      have hP1 : Pn ≤ 1024 := by omega
      have hn := pq_new Pn w1 hP1
      have hn2 := fun w2 => rnew_ok (Pn : Int) w2 (by omega)
      clear hok
      go_wp2_with fail
      refine hn.mono ?_
      rintro e w2 ⟨q, rfl, hq, hx⟩
      have hb2 := hb.trans (Below.mono hx hb.size)
      have hs1 := hb.size
      clear hn hx hb
      go_wp2_with fail
      refine (hn2 _).mono ?_
      rintro e w3 ⟨rfl, hx⟩
      have hq3 := (PQ.mono hq (G' := fun b => w.heap.size ≤ b ∧ b < w2.heap.size) fun b hb e => ⟨Nat.le_trans hs1 e, hb⟩).below hx
      have hb3 := hb2.trans (Below.mono hx hb2.size)
      have gge := hb3.size
      have h23 := hx.size
      unfold qE qV
      clear hn2 hx hb2 hq
      go_upto_region 8 with fail
      have hp0 : PP w w3.heap.size q Pn [] (.slice none 0 0) (fun b => w.heap.size ≤ b ∧ b < w2.heap.size) (w3.alloc (.cells #[.int .i64 Pn, .slice none 0 0] 30)) :=
        ⟨hq3.below (alloc_kept' _ _), fun b hb => by simp; omega, fun b hb => hb.1, Blk.new _ _ _, fun hb => by omega, gge, LAt.nil _, fun k hk => by simp [blkOf] at hk, hb3.alloc hb3.size _⟩
      generalize w3.alloc (.cells #[.int .i64 Pn, .slice none 0 0] 30) = w4 at *
      generalize w3.heap.size = g at *
      generalize (fun b => w.heap.size ≤ b ∧ b < w2.heap.size) = G0 at *
      clear hq3 hb3 h23
      go_wp2_with fail
      go_loopw [12] (fun i wr => ∃ (k : Nat) (v : Value) (G : Nat → Prop), k ≤ l.length ∧ i = .int .i64 k ∧ PP w g q Pn (behindL Pn (l.take k)) v G wr) (fun i _ => l.length - (intOf i).toNat)
      case atStart => exact ⟨0, .slice none 0 0, G0, Nat.zero_le _, rfl, hp0⟩
      case round =>
        clear hp0
        obtain ⟨k, v, G, hk, rfl, hp⟩ := hrel
        by_cases hlt : k < l.length
        · obtain ⟨ab, ao, rfl, hbb, c0, c1', c2', c3, c4⟩ := (hA.below hp.below (Nat.le_refl _)) k hlt
          have HSx := Lib.hid (show behindL Pn (l.take (k + 1)) = doL Pn (behindL Pn (l.take k)) l[k] from by rw [take_snoc l k hlt, behindL_snoc])
          generalize l[k] = a at *
          generalize behindL Pn (l.take k) = m at *
          obtain ⟨A1, cc1, rfl, _⟩ := id hp.lat
          have hml := hp.q.len
          have hmP : m.length ≤ 100000 := by omega
          have lg := hp.box.lt
          have hsz := hp.below.size
          have hL0 : ∀ x, Below wr.heap.size wr x → LAt x (.slice A1 m.length cc1) m := fun x hx => hp.lat.on hx
          have hab : ab < wr.heap.size := Nat.lt_of_lt_of_le hbb hsz
          have hbx0 : ∀ x, Below wr.heap.size wr x → Blk x g 30 #[.int .i64 Pn, .slice A1 m.length cc1] := fun x hx => hp.box.below hx lg
          have hs0 : ∀ vs, SDp wr.heap.size wr Pn (.slice A1 m.length cc1) (doL Pn m a) (doE Pn m a) (doT Pn m a) (doD m a) (fun _ => false) vs wr.drew :=
            fun vs => ⟨(Below.refl _ _).drew, (fun h => by cases h), (fun h => by cases h), (fun h => by cases h), (fun h => by cases h)⟩
          go_upto_region 13 with fail
          generalize hB : wr.heap.size = B at *
          have hBw : B ≤ wr.heap.size := by rw [hB]; exact Nat.le_refl _
          have HB := Lib.hid hB
          have HP := Lib.hid hp
          clear hB hp
          refine region_facts_val 13 (fun _ => false) (FDp B Pn (.slice A1 m.length cc1) (doL Pn m a) (.slice (some ⟨ab, ao, none⟩) l.length c) k ⟨ab, ao + k * 5, none⟩ a (doE Pn m a) (doT Pn m a) (doD m a)) (SDp B wr Pn (.slice A1 m.length cc1) (doL Pn m a) (doE Pn m a) (doT Pn m a) (doD m a)) (fun _ x y => RT x y) [62, 63, 64, 65, 66, 67, 61, 68, 69, 13, 14, 1000, 1001] (by kernel_rfl) (by kernel_rfl) (by kernel_rfl) (by decide) (by kernel_rfl) FDp.keep (fun _ _ _ h => h.1) hs0 ?_ ?_
          · intro fr hfr
            have f10 : fr.getD 10 undef = .pointer (some ⟨g, 0, none⟩) := by rw [hfr]; rfl
            have f1 : fr.getD 1 undef = .slice (some ⟨ab, ao, none⟩) l.length c := by rw [hfr]; rfl
            have f12 : fr.getD 12 undef = .int .i64 k := by rw [hfr]; rfl
            clear hfr
            iterate 5
              refine ⟨⟨trivial, ?_⟩, ?_⟩
              · intro ρ w' p vs hp hdq hρ hd hV hSt
                simp only [DepF, Region.binds, List.getD_cons_zero, List.getD_cons_succ, FDp, forall_const, and_true, true_and] at hd
                have hcon := hρ.con
                have e10 := (hρ.slot 10 (by kernel_rfl)).trans f10
                have e1 := (hρ.slot 1 (by kernel_rfl)).trans f1
                have e12 := (hρ.slot 12 (by kernel_rfl)).trans f12
                have eb := (hbx0 w' hSt.bl).cell
                have ca := (hSt.bl.cell (p := ⟨ab, ao + k * 5, none⟩) hab).trans c0
                have cb := (hSt.bl.cell (p := ⟨ab, ao + k * 5 + 1, none⟩) hab).trans c1'
                have cc := (hSt.bl.cell (p := ⟨ab, ao + k * 5 + 2, none⟩) hab).trans c2'
                have cd := (hSt.bl.cell (p := ⟨ab, ao + k * 5 + 3, none⟩) hab).trans c3
                have ce := (hSt.bl.cell (p := ⟨ab, ao + k * 5 + 4, none⟩) hab).trans c4
                clear hdq hV
                go_simp
                (try simp only [GoodV, FDp])
                first
                  | exact ⟨fun h => absurd h (by decide), rfl, RT.below (Below.refl _ _), fun h => absurd h (by decide), hSt.calm hBw (Below.refl _ _) _ (by decide) (by decide) (by decide) (by decide) _⟩
                  | exact ⟨fun h => absurd h (by decide), trivial, RT.below (Below.refl _ _), fun h => absurd h (by decide), hSt.calm hBw (Below.refl _ _) _ (by decide) (by decide) (by decide) (by decide) _⟩
            refine ⟨⟨trivial, ?_⟩, ?_⟩
            · intro ρ w' p vs hp hdq hρ hd hV hSt
              simp only [DepF, Region.binds, List.getD_cons_zero, List.getD_cons_succ, FDp, forall_const, and_true, true_and] at hd
              obtain ⟨d0, d4⟩ := hd
              rw [execOp_call_fn _ _ _ _ _ _ _ _ _ (hρ.fn _)]
              clear hdq hV
              go_simp
              simp only [GoodV, FDp]
              exact hSt.step hBw hL0 hmP (false = true) (by decide) (fun v x y => false = true → Frsh v x y) (fun _ _ _ h => absurd h (by decide))
            refine ⟨⟨trivial, ?_⟩, ?_⟩
            · intro ρ w' p vs hp hdq hρ hd hV hSt
              simp only [DepF, Region.binds, List.getD_cons_zero, List.getD_cons_succ, FDp, forall_const, and_true, true_and] at hd
              clear hdq hV
              go_simp
              simp only [GoodV, FDp]
              exact ⟨fun h => absurd h (by decide), hd, RT.below (Below.refl _ _), fun h => absurd h (by decide), hSt.calm hBw (Below.refl _ _) _ (by decide) (by decide) (by decide) (by decide) _⟩
            refine ⟨⟨trivial, ?_⟩, ?_⟩
            · intro ρ w' p vs hp hdq hρ hd hV hSt
              simp only [DepF, Region.binds, List.getD_cons_zero, List.getD_cons_succ, FDp, forall_const, and_true, true_and] at hd
              obtain ⟨x, y, exy, hx, hy⟩ := hd
              clear hdq hV
              go_simp
              simp only [GoodV, FDp]
              exact ⟨fun h => absurd h (by decide), hx, RT.below (Below.refl _ _), fun h => absurd h (by decide), hSt.calm hBw (Below.refl _ _) _ (by decide) (by decide) (by decide) (by decide) _⟩
            refine ⟨⟨trivial, ?_⟩, ?_⟩
            · intro ρ w' p vs hp hdq hρ hd hV hSt
              simp only [DepF, Region.binds, List.getD_cons_zero, List.getD_cons_succ, FDp, forall_const, and_true, true_and] at hd
              have hd1 : ∃ x y, ρ (.tmp 61) = .tuple #[x, y] ∧ QAt B (.slice A1 m.length cc1) Pn (doL Pn m a) x w' ∧ ToldP B (doE Pn m a) (doT Pn m a) (doD m a) y w' := by
                first | exact hd | exact hd.1
              obtain ⟨x, y, exy, hx, hy⟩ := hd1
              clear hdq hV hd
              go_simp
              simp only [GoodV, FDp]
              exact ⟨fun h => absurd h (by decide), hy, RT.below (Below.refl _ _), fun h => absurd h (by decide), hSt.calm hBw (Below.refl _ _) _ (by decide) (by decide) (by decide) (by decide) _⟩
            refine ⟨⟨trivial, ?_⟩, ?_⟩
            · intro ρ w' p vs hp hdq hρ hd hV hSt
              clear hdq hV hd
              go_simp
              simp only [GoodV, FDp]
              exact ⟨fun h => absurd h (by decide), trivial, RT.below (alloc_kept' _ _), fun h => absurd h (by decide), hSt.new9 hBw hp _ _⟩
            refine ⟨⟨trivial, ?_⟩, ?_⟩
            · intro ρ w' p vs hp hdq hρ hd hV hSt
              clear hdq hV hd
              go_simp
              simp only [GoodV, FDp]
              exact ⟨fun h => absurd h (by decide), trivial, RT.below (alloc_kept' _ _), fun h => absurd h (by decide), hSt.new10 hBw hp _ _ _ _ _⟩
            refine ⟨⟨trivial, ?_⟩, ?_⟩
            · intro ρ w' p vs hp hdq hρ hd hV hSt
              simp only [DepF, Region.binds, List.getD_cons_zero, List.getD_cons_succ, FDp, forall_const, and_true, true_and] at hd
              simp only [DepQ, Region.binds, forall_const] at hdq
              have hp9 := hdq.1
              obtain ⟨⟨v', e68, hL, hN⟩, _⟩ := hd
              have hLf := hL
              obtain ⟨A2, cc2, rfl, _⟩ := hLf
              obtain ⟨x, y0, y1, hv, hx, hbx, _⟩ := hSt.b9 hp9
              have e13 : ρ (.tmp 13) = _ := (hV 9 hp9).trans hv
              have ex := hbx.cell
              have ef := hbx.frozen
              have el := hbx.lt
              unfold qV at e68
              clear hdq hV
              go_simp
              simp only [GoodV, FDp]
              have hput := hSt.put9 hp9 hv hx hbx _ _ ⟨_, rfl, hL, hN⟩ undef
              exact ⟨trivial, hput.1, fun h => absurd h (by decide), hput.2⟩
            refine ⟨⟨trivial, ?_⟩, ?_⟩
            · intro ρ w' p vs hp hdq hρ hd hV hSt
              simp only [DepF, Region.binds, List.getD_cons_zero, List.getD_cons_succ, FDp, forall_const, and_true, true_and] at hd
              simp only [DepQ, Region.binds, forall_const] at hdq
              have hp10 := hdq.1
              obtain ⟨⟨u, e69, hL⟩, _⟩ := hd
              have hLf := hL.at_
              obtain ⟨A2, cc2, rfl, _⟩ := hLf
              obtain ⟨x, y0, y1, y2, y3, y4, hv, hx, hbx, _⟩ := hSt.b10 hp10
              have e14 : ρ (.tmp 14) = _ := (hV 10 hp10).trans hv
              have ex := hbx.cell
              have ef := hbx.frozen
              have el := hbx.lt
              unfold tV at e69
              clear hdq hV
              go_simp
              simp only [GoodV, FDp]
              have hput := hSt.put10 hp10 hv hx hbx _ _ _ _ _ ⟨_, rfl, hL⟩ undef
              exact ⟨trivial, hput.1, fun h => absurd h (by decide), hput.2⟩
            trivial
          · intro vs w5 hSt hF _
            obtain ⟨x9, o0, o1, z1, hx9, b9, hW⟩ := hSt.b9 (by decide)
            obtain ⟨x10, r0, r1, r2, r3, r4, z2, hx10, b10, hU⟩ := hSt.b10 (by decide)
            obtain ⟨v', ev, hL', hN'⟩ := hW (by decide)
            have hTo := hU (by decide)
            have e13 : vs 9 = .pointer (some ⟨x9, 0, none⟩) := z1
            have e14 : vs 10 = .pointer (some ⟨x10, 0, none⟩) := z2
            have bl5 : Below wr.heap.size wr w5 := by rw [HB.out]; exact hSt.bl
            have hB5 : B ≤ w5.heap.size := Nat.le_trans hBw bl5.size
            have q5 := HP.out.q.below bl5
            have g5 := HP.out.box.below bl5 HP.out.box.lt
            have hGB : ∀ i, G i → i < B := fun i hi => by have := HP.out.lt i hi; rw [HB.out] at this; exact this
            have hGw := HP.out.ge
            have hgn := HP.out.boxn
            have hap : ∀ k, blkOf v' = some k → ¬ G k := fun k hk => (hN' k hk).elim (HP.out.apart k) (fun y e => by have := hGB k e; omega)
            have hb5 := HP.out.below.trans (Below.mono bl5 HP.out.below.size)
            have ca := (bl5.cell (p := ⟨ab, ao + k * 5, none⟩) (by rw [HB.out]; exact hab)).trans c0
            have cb := (bl5.cell (p := ⟨ab, ao + k * 5 + 1, none⟩) (by rw [HB.out]; exact hab)).trans c1'
            have cc := (bl5.cell (p := ⟨ab, ao + k * 5 + 2, none⟩) (by rw [HB.out]; exact hab)).trans c2'
            have cd := (bl5.cell (p := ⟨ab, ao + k * 5 + 3, none⟩) (by rw [HB.out]; exact hab)).trans c3
            have ce := (bl5.cell (p := ⟨ab, ao + k * 5 + 4, none⟩) (by rw [HB.out]; exact hab)).trans c4
            have habn : ¬ G ab := fun e => by have := hGw ab e; omega
            have hab5 : ab < w5.heap.size := Nat.lt_of_lt_of_le hab hB5
            clear hSt hF hs0 hW hU z1 z2 bl5 hN' c0 c1' c2' c3 c4 hL0 hbx0
            simp only [List.range'_succ, List.range'_zero, List.cons_append, List.nil_append, List.append_nil, setAll, List.setIfInBounds_toArray, List.set_cons_zero, List.set_cons_succ, List.set_nil, Nat.reduceAdd]
            rw [e13, e14]
            simp only [List.drop_succ_cons, List.drop_zero, List.drop_nil]
            clear e13 e14
            have hv' : ∃ A2 cc2, v' = .slice A2 (doL Pn m a).length cc2 := by
              obtain ⟨A2, cc2, e, _⟩ := hL'
              exact ⟨_, _, e⟩
            obtain ⟨A2, cc2, rfl⟩ := hv'
            have hxc : (#[o0, o1] : Array Value) = #[.int .i64 Pn, .slice A2 (doL Pn m a).length cc2] := congrArg (fun v : Value => match v with | .agg a => a | _ => #[]) ev
            rw [hxc] at b9
            clear hxc ev
            go_upto_region 14 with fail
            have hs1 : SEp w5 q Pn G m (doL Pn m a) (fun _ => false) w5.drew := ⟨fun _ => q5.drew, (fun h => by cases h), (Chg.refl _ _).drew⟩
            clear q5
            refine region_facts_set 7 (fun _ => false) (FEp B q (.slice (some ⟨ab, ao, none⟩) l.length c) k ⟨ab, ao + k * 5, none⟩ a (doE Pn m a) (doT Pn m a) (doD m a)) (SEp w5 q Pn G m (doL Pn m a)) (fun _ x y => Chg G x y) [70, 71, 72, 73, 74, 75, 76] (by kernel_rfl) (by kernel_rfl) (by kernel_rfl) (by decide) (by kernel_rfl) (by kernel_rfl) (FEp.keep hGB) (fun _ _ _ h => h.size) hs1 ?_ ?_
            · intro fr hfr
              have f8 : fr.getD 8 undef = .pointer (some ⟨q, 0, none⟩) := by rw [hfr]; rfl
              have f14 : fr.getD 14 undef = .pointer (some ⟨x10, 0, none⟩) := by rw [hfr]; rfl
              have f1 : fr.getD 1 undef = .slice (some ⟨ab, ao, none⟩) l.length c := by rw [hfr]; rfl
              have f12 : fr.getD 12 undef = .int .i64 k := by rw [hfr]; rfl
              clear hfr
              iterate 7
                refine ⟨⟨trivial, ?_⟩, ?_⟩
                · intro ρ w' p hp hdq hρ hd hSt
                  simp only [DepF, Region.binds, List.getD_cons_zero, List.getD_cons_succ, FEp, forall_const, and_true, true_and] at hd
                  have hcon := hρ.con
                  have e8 := (hρ.slot 8 (by kernel_rfl)).trans f8
                  have e14 := (hρ.slot 14 (by kernel_rfl)).trans f14
                  have e1 := (hρ.slot 1 (by kernel_rfl)).trans f1
                  have e12 := (hρ.slot 12 (by kernel_rfl)).trans f12
                  have ey := (b10.chg hSt.k fun e => by have := hGB _ e; omega).cell
                  have ea := (hSt.k.cell (p := ⟨ab, ao + k * 5, none⟩) hab5 habn).trans ca
                  have eb := (hSt.k.cell (p := ⟨ab, ao + k * 5 + 1, none⟩) hab5 habn).trans cb
                  have ec := (hSt.k.cell (p := ⟨ab, ao + k * 5 + 2, none⟩) hab5 habn).trans cc
                  have ed := (hSt.k.cell (p := ⟨ab, ao + k * 5 + 3, none⟩) hab5 habn).trans cd
                  have ee := (hSt.k.cell (p := ⟨ab, ao + k * 5 + 4, none⟩) hab5 habn).trans ce
                  (try rw [execOp_call_fn _ _ _ _ _ _ _ _ _ (hρ.fn _)])
                  go_simp
                  (try simp only [GoodQ, FEp])
                  first
                    | exact ⟨rfl, Chg.refl _ _, fun h => absurd h (by decide), hSt.quiet _ (by decide)⟩
                    | exact ⟨trivial, Chg.refl _ _, fun h => absurd h (by decide), hSt.quiet _ (by decide)⟩
                    | exact ⟨hTo.chg hSt.k hGB, Chg.refl _ _, fun h => absurd h (by decide), hSt.quiet _ (by decide)⟩
                    | exact hSt.step hP1 hB5 hp
              trivial
            · intro vs w6 hSt hF _
              obtain ⟨ut1, e5, hu1⟩ : ToldP B (doE Pn m a) (doT Pn m a) (doD m a) (vs 5) w6 := hF 5 (by decide)
              obtain ⟨ut2, e6, hu2⟩ : ToldP B (doE Pn m a) (doT Pn m a) (doD m a) (vs 6) w6 := hF 6 (by decide)
              have hdl : (doD m a).length ≤ 100000 := by
                unfold doD
                split
                · have : (dueL m a.now true).length ≤ m.length := List.length_filter_le _ _; omega
                · simp
              have hsm := rsame_any (doE Pn m a) (doE Pn m a) (doT Pn m a) (doT Pn m a) ut1 ut2 (doD m a) (doD m a) w6 hu1.at_ hu2.at_ hdl hdl
              rw [decide_eq_true ⟨rfl, rfl, rfl⟩] at hsm
              unfold tV at hsm e5 e6
              have hk6 := hSt.k
              have hq6 := hSt.q1 (by decide)
              clear hF hs1 hu1 hu2 hdl hSt ca cb cc cd ce hTo
              simp only [setAll, List.setIfInBounds_toArray, List.set_cons_zero, List.set_cons_succ, Nat.reduceAdd]
              rw [e5, e6]
              simp only [List.drop_succ_cons, List.drop_zero]
              clear e5 e6
              go_wp2_with fail
              refine hsm.mono ?_
              rintro e w7 ⟨rfl, hx⟩
              have hk7 : Chg G w5 w7 := hk6.trans (Chg.of_same hx _) fun _ _ e => e
              have hq7 := hq6.below hx
              have d9 := b9.chg hk7 fun e => by have := hGB _ e; omega
              have dg := g5.chg hk7 hgn
              have hL7 : LAt w7 (.slice A2 (doL Pn m a).length cc2) (doL Pn m a) := hL'.far hk7.size fun k hk => hk7.block k (hL'.blk k hk) (hap k hk)
              have hb7 : Below w.heap.size w w7 := hb5.trans (Chg.to_below (hk7.mono (S' := fun b => w.heap.size ≤ b) fun b _ e => hGw b e) hb5.size)
              have hpn : ∃ G', PP w g q Pn (doL Pn m a) (.slice A2 (doL Pn m a).length cc2) G' ((w7.setCell ⟨g, 0, none⟩ (.int .i64 Pn)).setCell ⟨g, 1, none⟩ (.slice A2 (doL Pn m a).length cc2)) := by
                have kk : Chg (fun b => b = g) w7 ((w7.setCell ⟨g, 0, none⟩ (.int .i64 Pn)).setCell ⟨g, 1, none⟩ (.slice A2 (doL Pn m a).length cc2)) := (chg_cell w7 g 0 _).trans (chg_cell _ g 1 _) fun _ _ e => e
                have hg5 := g5.lt
                refine ⟨fun b => (G b ∨ w5.heap.size ≤ b) ∧ b < w7.heap.size, ((PQ.mono hq7 (G' := fun b => (G b ∨ w5.heap.size ≤ b) ∧ b < w7.heap.size) fun b hb e => ⟨e, hb⟩).chg kk fun b hb e => ?_), fun b hb => Nat.lt_of_lt_of_le hb.2 kk.size, fun b hb => hb.1.elim (hGw b) fun y => by have := hb5.size; omega, ?_, fun hb => hb.1.elim hgn fun y => by omega, HP.out.boxge, hL7.rt (RT.chg dg (by decide) kk), fun k hk hb => hb.1.elim (hap k hk) fun y => by have := hL'.blk k hk; omega, (hb7.setCell (p := ⟨g, 0, none⟩) HP.out.boxge _).setCell (p := ⟨g, 1, none⟩) HP.out.boxge _⟩
                · subst e
                  exact hb.1.elim hgn fun y => by omega
                · have := (dg.put 0 (.int .i64 Pn)).put 1 (.slice A2 (doL Pn m a).length cc2)
                  simpa using this
              have HPN := Lib.hid hpn
              have e13 := d9.cell
              have eg := dg.cell
              have ef := dg.frozen
              have el := dg.lt
              clear hpn hsm hx hk6 hk7 hq6 hq7 d9 dg hL7 hb7 hL' hap hb5 g5 b9 b10
              go_wp2_with fail
              go_roundw
              case rel =>
                obtain ⟨G', h⟩ := HPN.out
                exact ⟨k + 1, _, G', by omega, by go_num, by rw [HSx.out]; exact h⟩
              case measure => simp [intOf]; omega
        · have ht : l.take k = l := List.take_of_length_le (by omega)
          rw [ht] at hp
          generalize behindL Pn l = m at *
          obtain ⟨A1, cc1, rfl, _⟩ := id hp.lat
          have hml := hp.q.len
          have hal := palike q Pn m G Pn (.slice A1 m.length cc1) place wr hp.q hP1 hp.lat (by omega)
          have e0 := hp.box.cell
          have HB := Lib.hid hp.below
          have hz := hp.below.size
          unfold qV at hal
          clear hp
          go_wp2_with fail
          refine hal.mono ?_
          rintro e w5 ⟨rfl, hx⟩
          have HB5 := Lib.hid (HB.out.trans (Below.mono hx hz))
          clear hal hx
          go_wp2_with fail
          go_ret
          exact ⟨rfl, HB5.out⟩
end Go.Proofs.Ytpbepmipfjcjbaa
