/- Part 5: the texts RefS Pnd HwP HwQ HrP HrQ HrR DigP Dig, laid end to end by a program. -/
import Derived.Deep.RegionLaw
import Derived.Test.YtckkfbepclogcaaGreatDoorPk4
import Derived.Test.YtckkfbepclogcaaGreatDoorPk3
import Derived.Test.YtckkfbepclogcaaGreatDoorPk1
namespace Go.Proofs.YtckkfbepclogcaaGreatDoor
open Go.RowKit
theorem two_new (w : World) (a b : Obj) : Below w.heap.size w ((w.alloc a).alloc b) := ((Below.refl _ _).alloc (Nat.le_refl _) _).alloc (by simp) _
attribute [local irreducible] Calls
set_option maxRecDepth 100000 in
set_option maxHeartbeats 4000000 in
theorem rsame_any (e1 e2 : Int) (t1 t2 : Timer) (u1 u2 : Value) (m1 m2 : List Timer) (w : World) (h1 : LAt w u1 m1) (h2 : LAt w u2 m2) (l1 : m1.length ≤ 100000) (l2 : m2.length ≤ 100000) :
    Calls Tryz.prog 9 #[tV e1 t1 u1, tV e2 t2 u2] w fun e w' => e = .returned (.bool (decide (e1 = e2 ∧ t1 = t2 ∧ m1 = m2))) ∧ Below w.heap.size w w' := by
  have hb0 := two_new w (.cells #[.int .i64 e1, .int .u64 t1.at_, .int .u64 t1.seq, .int .i64 t1.place, u1] 39) (.cells #[.int .i64 e2, .int .u64 t2.at_, .int .u64 t2.seq, .int .i64 t2.place, u2] 39)
  have q1 : Blk ((w.alloc (.cells #[.int .i64 e1, .int .u64 t1.at_, .int .u64 t1.seq, .int .i64 t1.place, u1] 39)).alloc (.cells #[.int .i64 e2, .int .u64 t2.at_, .int .u64 t2.seq, .int .i64 t2.place, u2] 39)) w.heap.size 39 #[.int .i64 e1, .int .u64 t1.at_, .int .u64 t1.seq, .int .i64 t1.place, u1] := (Blk.new _ _ _).alloc _
  have q2 : Blk ((w.alloc (.cells #[.int .i64 e1, .int .u64 t1.at_, .int .u64 t1.seq, .int .i64 t1.place, u1] 39)).alloc (.cells #[.int .i64 e2, .int .u64 t2.at_, .int .u64 t2.seq, .int .i64 t2.place, u2] 39)) (w.heap.size + 1) 39 #[.int .i64 e2, .int .u64 t2.at_, .int .u64 t2.seq, .int .i64 t2.place, u2] := alloc2_at _ _ _ _
  obtain ⟨A1, c1, rfl, T1, _⟩ := h1
  obtain ⟨A2, c2, rfl, T2, _⟩ := h2
  have hs := same_any A1 A2 m1 m2 c1 c2 _ (T1.on hb0) (T2.on hb0) (by omega) (by omega)
  unfold tV
  go_enter Tryz.func9, Tryz.ntmps9
  go_wp2_with fail
  refine hs.mono ?_
  rintro e w1 ⟨rfl, hx⟩
  have hb1 := hb0.trans (Below.mono hx hb0.size)
  have q1 := q1.below hx q1.lt
  have q2 := q2.below hx q2.lt
  have d1 := q1.cell
  have d2 := q2.cell
  have l3 := q1.lt
  have l4 := q2.lt
  clear hx hs hb0
  by_cases he : e1 = e2
  · have he' : (e1 == e2) = true := by simp [he]
    by_cases ht : t1 = t2
    · have ht' : decide (t1 = t2) = true := by simp [ht]
      have hG := Lib.hid (show decide (e1 = e2 ∧ t1 = t2 ∧ m1 = m2) = decide (m1 = m2) by simp [he, ht])
      clear he ht
      go_wp2_with fail
      go_ret
      exact ⟨ret_bool hG.out.symm, hb1⟩
    · have ht' : decide (t1 = t2) = false := by simp [ht]
      have hG := Lib.hid (show decide (e1 = e2 ∧ t1 = t2 ∧ m1 = m2) = false by simp [ht])
      clear he ht
      go_wp2_with fail
      go_ret
      exact ⟨ret_bool hG.out.symm, hb1⟩
  · have he' : (e1 == e2) = false := by simp [he]
    have hG := Lib.hid (show decide (e1 = e2 ∧ t1 = t2 ∧ m1 = m2) = false by simp [he])
    clear he
    go_wp2_with fail
    go_ret
    exact ⟨ret_bool hG.out.symm, hb1⟩
def behindL (P : Int) (xs : List Act) : List Timer := xs.foldl (doL P) []
theorem putL_len (l : List Timer) (t : Timer) : (putL l t).length = l.length + 1 := by
  have := nBefore_le l t
  simp [putL]
  omega
theorem insL_len (P : Int) (l : List Timer) (t : Timer) : (insL P l t).length ≤ l.length + 1 := by
  unfold insL
  split
  · rw [putL_len]; omega
  · omega
theorem without_len (l : List Timer) (p : Int) : (withoutL l p).length ≤ l.length := List.length_filter_le _ _
theorem doL_len (P : Int) (l : List Timer) (a : Act) : (doL P l a).length ≤ l.length + 1 := by
  unfold doL
  split
  · exact insL_len P l a.t
  split
  · unfold canL
    split
    · have := without_len l a.t.place; omega
    · omega
  split
  · unfold movL
    split
    · have := insL_len P (withoutL l a.t.place) a.t
      have := without_len l a.t.place
      omega
    · omega
  split
  · have : (dueL l a.now false).length ≤ l.length := List.length_filter_le _ _
    omega
  · omega
theorem fold_len (P : Int) (xs : List Act) : ∀ l : List Timer, (xs.foldl (doL P) l).length ≤ l.length + xs.length := by
  induction xs with
  | nil => intro l; simp
  | cons a xs ih =>
    intro l
    have := ih (doL P l a)
    have := doL_len P l a
    simp only [List.foldl_cons, List.length_cons]
    omega
theorem behindL_len (P : Int) (xs : List Act) : (behindL P xs).length ≤ xs.length := by
  have := fold_len P xs []
  simpa [behindL] using this
theorem behindL_snoc (P : Int) (xs : List Act) (a : Act) : behindL P (xs ++ [a]) = doL P (behindL P xs) a := by simp [behindL]
/-- The acts at A, below block B. -/
def AcAt (w : World) (B : Nat) (A : Option Addr) (l : List Act) : Prop :=
  ∀ i (h : i < l.length), ∃ b o, A = some ⟨b, o, none⟩ ∧ b < B ∧
    w.cell? ⟨b, o + i * 5, none⟩ = some (.int .i64 l[i].kind) ∧ w.cell? ⟨b, o + i * 5 + 1, none⟩ = some (.int .u64 l[i].t.at_) ∧ w.cell? ⟨b, o + i * 5 + 2, none⟩ = some (.int .u64 l[i].t.seq) ∧ w.cell? ⟨b, o + i * 5 + 3, none⟩ = some (.int .i64 l[i].t.place) ∧ w.cell? ⟨b, o + i * 5 + 4, none⟩ = some (.int .u64 l[i].now)
theorem AcAt.below {w w' : World} {B B' : Nat} {A : Option Addr} {l : List Act} (h : AcAt w B A l) (hk : Below B' w w') (hB : B ≤ B') : AcAt w' B A l := by
  intro i hi
  obtain ⟨b, o, rfl, hb, c0, c1, c2, c3, c4⟩ := h i hi
  have e : ∀ k, w'.cell? ⟨b, k, none⟩ = w.cell? ⟨b, k, none⟩ := fun k => World.cell?_of_block (hk.block b (by omega))
  exact ⟨b, o, rfl, hb, (e _).trans c0, (e _).trans c1, (e _).trans c2, (e _).trans c3, (e _).trans c4⟩
theorem act_on {w w' : World} {b o k : Nat} {a : Act} (h : w.cell? ⟨b, o + k * 5, none⟩ = some (.int .i64 a.kind) ∧ w.cell? ⟨b, o + k * 5 + 1, none⟩ = some (.int .u64 a.t.at_) ∧ w.cell? ⟨b, o + k * 5 + 2, none⟩ = some (.int .u64 a.t.seq) ∧ w.cell? ⟨b, o + k * 5 + 3, none⟩ = some (.int .i64 a.t.place) ∧ w.cell? ⟨b, o + k * 5 + 4, none⟩ = some (.int .u64 a.now)) (hb : w'.heap[b]? = w.heap[b]?) : w'.cell? ⟨b, o + k * 5, none⟩ = some (.int .i64 a.kind) ∧ w'.cell? ⟨b, o + k * 5 + 1, none⟩ = some (.int .u64 a.t.at_) ∧ w'.cell? ⟨b, o + k * 5 + 2, none⟩ = some (.int .u64 a.t.seq) ∧ w'.cell? ⟨b, o + k * 5 + 3, none⟩ = some (.int .i64 a.t.place) ∧ w'.cell? ⟨b, o + k * 5 + 4, none⟩ = some (.int .u64 a.now) := by
  have e : ∀ j, w'.cell? ⟨b, j, none⟩ = w.cell? ⟨b, j, none⟩ := fun j => World.cell?_of_block hb
  obtain ⟨h0, h1, h2, h3, h4⟩ := h
  exact ⟨(e _).trans h0, (e _).trans h1, (e _).trans h2, (e _).trans h3, (e _).trans h4⟩
end Go.Proofs.YtckkfbepclogcaaGreatDoor
namespace Go.Proofs.YtckkfbepclogcaaGreatDoor
def pendL (P : Nat) (on : Nat → Bool) (tm : Nat → Timer) : List Timer := ((List.range P).filter on).map tm
def updB (f : Nat → Bool) (i : Nat) (v : Bool) : Nat → Bool := fun k => if k = i then v else f k
def updT (f : Nat → Timer) (i : Nat) (v : Timer) : Nat → Timer := fun k => if k = i then v else f k
theorem updB_at (f : Nat → Bool) (i : Nat) (v : Bool) : updB f i v i = v := by simp [updB]
theorem updB_ne (f : Nat → Bool) {i k : Nat} (v : Bool) (h : k ≠ i) : updB f i v k = f k := by simp [updB, h]
theorem updT_at (f : Nat → Timer) (i : Nat) (v : Timer) : updT f i v i = v := by simp [updT]
theorem updT_ne (f : Nat → Timer) {i k : Nat} (v : Timer) (h : k ≠ i) : updT f i v k = f k := by simp [updT, h]
theorem updB_two (on : Nat → Bool) (i : Nat) (h : on i = true) : updB (updB on i false) i true = on := by
  funext k
  by_cases hk : k = i
  · subst hk
    rw [updB_at, h]
  · rw [updB_ne _ _ hk, updB_ne _ _ hk]
theorem filter_on (on : Nat → Bool) (i : Nat) (hoff : on i = false) : ∀ l : List Nat, l.Nodup → i ∈ l → (l.filter (updB on i true)).Perm (i :: l.filter on)
  | [], _, h => absurd h (by simp)
  | x :: l, hn, hm => by
    have hn' := List.nodup_cons.1 hn
    by_cases hx : x = i
    · subst hx
      have e : l.filter (updB on x true) = l.filter on := List.filter_congr fun y hy => by rw [updB_ne _ _ (fun e => hn'.1 (by rw [← e]; exact hy))]
      rw [List.filter_cons_of_pos (by rw [updB_at]), List.filter_cons_of_neg (by rw [hoff]; simp), e]
    · have hm2 : i ∈ l := by
        rcases List.mem_cons.1 hm with e | h
        · exact absurd e.symm hx
        · exact h
      have ih := filter_on on i hoff l hn'.2 hm2
      by_cases ho : on x = true
      · rw [List.filter_cons_of_pos (by rw [updB_ne _ _ hx]; exact ho), List.filter_cons_of_pos ho]
        exact (ih.cons x).trans (List.Perm.swap _ _ _)
      · rw [List.filter_cons_of_neg (by rw [updB_ne _ _ hx]; exact ho), List.filter_cons_of_neg ho]
        exact ih
theorem mem_pend {P : Nat} {on : Nat → Bool} {tm : Nat → Timer} {x : Timer} : x ∈ pendL P on tm ↔ ∃ i, i < P ∧ on i = true ∧ tm i = x := by
  unfold pendL
  rw [List.mem_map]
  constructor
  · rintro ⟨i, hi, rfl⟩
    have := List.mem_filter.1 hi
    exact ⟨i, List.mem_range.1 this.1, this.2, rfl⟩
  · rintro ⟨i, h1, h2, rfl⟩
    exact ⟨i, List.mem_filter.2 ⟨List.mem_range.2 h1, h2⟩, rfl⟩
theorem pend_congr {P : Nat} {on on' : Nat → Bool} {tm tm' : Nat → Timer} (h1 : ∀ i, i < P → on i = on' i) (h2 : ∀ i, i < P → on i = true → tm i = tm' i) : pendL P on tm = pendL P on' tm' := by
  unfold pendL
  rw [List.filter_congr (q := on') (fun x hx => h1 x (List.mem_range.1 hx))]
  refine List.map_congr_left fun x hx => ?_
  have := List.mem_filter.1 hx
  have hP := List.mem_range.1 this.1
  exact h2 x hP (by rw [h1 x hP]; exact this.2)
theorem pend_on {P : Nat} {on : Nat → Bool} {tm : Nat → Timer} {i : Nat} (t : Timer) (hi : i < P) (hoff : on i = false) : (pendL P (updB on i true) (updT tm i t)).Perm (t :: pendL P on tm) := by
  have h := (filter_on on i hoff (List.range P) List.nodup_range (List.mem_range.2 hi)).map (updT tm i t)
  rw [List.map_cons, updT_at] at h
  unfold pendL
  rw [show ((List.range P).filter on).map tm = ((List.range P).filter on).map (updT tm i t) from List.map_congr_left fun x hx => by
    have := (List.mem_filter.1 hx).2
    rw [updT_ne _ _ (fun e => by subst e; rw [hoff] at this; cases this)]]
  exact h
theorem pend_off {P : Nat} {on : Nat → Bool} {tm : Nat → Timer} {i : Nat} (hi : i < P) (hon : on i = true) : (pendL P on tm).Perm (tm i :: pendL P (updB on i false) tm) := by
  have h := (filter_on (updB on i false) i (updB_at _ _ _) (List.range P) List.nodup_range (List.mem_range.2 hi)).map tm
  rw [updB_two on i hon, List.map_cons] at h
  exact h
/-- What pends at a place. -/
def atP (P : Nat) (on : Nat → Bool) (tm : Nat → Timer) (p : Int) : Option Timer := if 0 ≤ p ∧ p < P ∧ on p.toNat = true then some (tm p.toNat) else none
/-- m is what pends, in order; each timer lies at its place. -/
structure PRel (P : Nat) (on : Nat → Bool) (tm : Nat → Timer) (m : List Timer) : Prop where
  srt : Srt m
  perm : m.Perm (pendL P on tm)
  place : ∀ i, i < P → on i = true → (tm i).place = i
section
variable {P : Nat} {on : Nat → Bool} {tm : Nat → Timer} {m : List Timer}
theorem PRel.new (P : Nat) (tm : Nat → Timer) : PRel P (fun _ => false) tm [] := ⟨Srt.nil, by simp [pendL], fun _ _ h => by cases h⟩
theorem PRel.mem (h : PRel P on tm m) {x : Timer} : x ∈ m ↔ ∃ i, i < P ∧ on i = true ∧ tm i = x := by rw [h.perm.mem_iff]; exact mem_pend
theorem PRel.sort (h : PRel P on tm m) : sortL (pendL P on tm) = m := (h.srt.sort_of h.perm).symm
theorem PRel.len (h : PRel P on tm m) : m.length = (pendL P on tm).length := h.perm.length_eq
theorem pendL_le (P : Nat) (on : Nat → Bool) (tm : Nat → Timer) : (pendL P on tm).length ≤ P := by
  unfold pendL
  rw [List.length_map]
  exact Nat.le_trans (List.length_filter_le _ _) (by simp)
theorem PRel.len_le (h : PRel P on tm m) : m.length ≤ P := by rw [h.len]; exact pendL_le _ _ _
theorem PRel.get (h : PRel P on tm m) (p : Int) : getL m p = atP P on tm p := by
  unfold atP getL
  by_cases hp : 0 ≤ p ∧ p < P ∧ on p.toNat = true
  · rw [if_pos hp]
    have hlt : p.toNat < P := by omega
    have hm : tm p.toNat ∈ m := h.mem.2 ⟨_, hlt, hp.2.2, rfl⟩
    have hpl : (tm p.toNat).place = p := by rw [h.place _ hlt hp.2.2]; omega
    cases e : m.find? fun x => decide (x.place = p) with
    | none =>
      have := List.find?_eq_none.1 e _ hm
      rw [hpl] at this
      simp at this
    | some x =>
      obtain ⟨k, hk, ho, rfl⟩ := h.mem.1 (List.mem_of_find?_eq_some e)
      have := List.find?_some e
      rw [h.place k hk ho] at this
      have : (k : Int) = p := by simpa using this
      have : k = p.toNat := by omega
      rw [this]
  · rw [if_neg hp]
    rw [List.find?_eq_none]
    intro x hx
    obtain ⟨k, hk, ho, rfl⟩ := h.mem.1 hx
    rw [h.place k hk ho]
    intro e
    have : (k : Int) = p := by simpa using e
    refine hp ⟨by omega, by omega, ?_⟩
    rw [show p.toNat = k by omega]
    exact ho
theorem PRel.put (h : PRel P on tm m) {i : Nat} {t : Timer} (hi : i < P) (hoff : on i = false) (ht : t.place = i) : PRel P (updB on i true) (updT tm i t) (putL m t) := by
  refine ⟨h.srt.put t, (putL_perm m t).trans ((h.perm.cons t).trans (pend_on t hi hoff).symm), ?_⟩
  intro k hk hon
  by_cases hki : k = i
  · subst hki
    rw [updT_at, ht]
  · rw [updT_ne _ _ hki]
    rw [updB_ne _ _ hki] at hon
    exact h.place k hk hon
theorem filter_ne_eq {m : List Timer} {q : Timer → Bool} : m.filter q = m.filter q := rfl
theorem PRel.without (h : PRel P on tm m) {i : Nat} (hi : i < P) (hon : on i = true) : PRel P (updB on i false) tm (withoutL m i) := by
  refine ⟨h.srt.sub List.filter_sublist, ?_, ?_⟩
  · have h1 := (h.perm.trans (pend_off hi hon)).filter fun x => decide (x.place ≠ (i : Int))
    rw [List.filter_cons_of_neg (by rw [h.place i hi hon]; simp)] at h1
    refine h1.trans (List.Perm.of_eq ?_)
    refine List.filter_eq_self.2 ?_
    intro x hx
    obtain ⟨k, hk, ho, rfl⟩ := mem_pend.1 hx
    have hki : k ≠ i := fun e => by rw [e, updB_at] at ho; cases ho
    rw [updB_ne _ _ hki] at ho
    rw [h.place k hk ho]
    simp only [ne_eq, decide_eq_true_eq]
    omega
  · intro k hk ho
    have hki : k ≠ i := fun e => by rw [e, updB_at] at ho; cases ho
    rw [updB_ne _ _ hki] at ho
    exact h.place k hk ho
/-- Those due have been taken, one by one: what is left, and what was taken, in order. -/
theorem PRel.due (h : PRel P on tm m) {on' : Nat → Bool} {l : List Timer} {now : Int} (hsub : ∀ i, i < P → on' i = true → on i = true) (hp : (l ++ pendL P on' tm).Perm (pendL P on tm))
    (h1 : ∀ x ∈ l, x.at_ ≤ now) (h2 : ∀ i, i < P → on' i = true → now < (tm i).at_) : PRel P on' tm (dueL m now false) ∧ sortL l = dueL m now true := by
  have hall := h.perm.trans hp.symm
  have f1 : (pendL P on' tm).filter (fun x => decide (x.at_ ≤ now) == false) = pendL P on' tm := List.filter_eq_self.2 fun x hx => by
    obtain ⟨k, hk, ho, rfl⟩ := mem_pend.1 hx
    have := h2 k hk ho
    simp; omega
  have f2 : (pendL P on' tm).filter (fun x => decide (x.at_ ≤ now) == true) = [] := List.filter_eq_nil_iff.2 fun x hx => by
    obtain ⟨k, hk, ho, rfl⟩ := mem_pend.1 hx
    have := h2 k hk ho
    simp; omega
  have f3 : l.filter (fun x => decide (x.at_ ≤ now) == false) = [] := List.filter_eq_nil_iff.2 fun x hx => by
    have := h1 x hx
    simp; omega
  have f4 : l.filter (fun x => decide (x.at_ ≤ now) == true) = l := List.filter_eq_self.2 fun x hx => by
    have := h1 x hx
    simp; omega
  refine ⟨⟨h.srt.sub List.filter_sublist, ?_, fun i hi ho => h.place i hi (hsub i hi ho)⟩, ?_⟩
  · have := hall.filter fun x => decide (x.at_ ≤ now) == false
    rw [List.filter_append, f1, f3, List.nil_append] at this
    exact this
  · have := hall.filter fun x => decide (x.at_ ≤ now) == true
    rw [List.filter_append, f2, f4, List.append_nil] at this
    exact ((h.srt.sub List.filter_sublist).sort_of this).symm
/-- One that none is before. -/
def firstL : List Timer → Option Timer
  | [] => none
  | x :: l => some (l.foldl (fun b y => if y.lt b then y else b) x)
theorem first_fold : ∀ (l : List Timer) (b : Timer), (l.foldl (fun b y => if y.lt b then y else b) b ∈ b :: l) ∧ ∀ y ∈ b :: l, y.lt (l.foldl (fun b y => if y.lt b then y else b) b) = false
  | [], b => ⟨by simp, fun y hy => by
    have : y = b := by simpa using hy
    subst this
    exact Timer.lt_irrefl y⟩
  | x :: l, b => by
    simp only [List.foldl_cons]
    by_cases hx : x.lt b = true
    · rw [if_pos hx]
      obtain ⟨i1, i2⟩ := first_fold l x
      refine ⟨List.mem_cons_of_mem _ i1, ?_⟩
      intro y hy
      rcases List.mem_cons.1 hy with rfl | hy
      · have hx2 := i2 x (by simp)
        exact Timer.le_trans hx2 (Timer.lt_asymm hx)
      · exact i2 y hy
    · rw [if_neg hx]
      have hx' : x.lt b = false := by simpa using hx
      obtain ⟨i1, i2⟩ := first_fold l b
      refine ⟨?_, ?_⟩
      · rcases List.mem_cons.1 i1 with h | h
        · rw [h]; simp
        · simp [h]
      intro y hy
      rcases List.mem_cons.1 hy with rfl | hy
      · exact i2 y (by simp)
      rcases List.mem_cons.1 hy with rfl | hy
      · exact Timer.le_trans (i2 b (by simp)) hx'
      · exact i2 y (List.mem_cons_of_mem _ hy)
theorem first_head {l m : List Timer} (hs : Srt m) (hp : m.Perm l) : firstL l = m.head? := by
  cases l with
  | nil => rw [List.Perm.eq_nil hp]; rfl
  | cons x l =>
    cases m with
    | nil => exact absurd hp.symm.eq_nil (by simp)
    | cons y m =>
      obtain ⟨i1, i2⟩ := first_fold l x
      show some _ = some y
      congr 1
      have hy : y ∈ x :: l := hp.mem_iff.1 (by simp)
      refine Timer.lt_total ?_ (i2 y hy)
      have hm := hp.mem_iff.2 i1
      rcases List.mem_cons.1 hm with e | hm
      · rw [e]; exact Timer.lt_irrefl y
      · exact (List.pairwise_cons.1 hs).1 _ hm
theorem PRel.min (h : PRel P on tm m) : firstL (pendL P on tm) = m.head? := first_head h.srt h.perm
theorem atP_on {p : Int} (hb : ¬ (p < 0 ∨ (P : Int) ≤ p)) (ho : on p.toNat = true) : atP P on tm p = some (tm p.toNat) := if_pos ⟨by omega, by omega, ho⟩
theorem atP_off {p : Int} (ho : ¬ on p.toNat = true) : atP P on tm p = none := if_neg fun e => ho e.2.2
/-- The codes of the document's queue. -/
theorem PRel.insC (h : PRel P on tm m) (t : Timer) : insC P m t = if t.place < 0 ∨ (P : Int) ≤ t.place then 1 else if on t.place.toNat = true then 4 else 0 := by
  unfold Go.Proofs.YtckkfbepclogcaaGreatDoor.insC
  by_cases hb : t.place < 0 ∨ (P : Int) ≤ t.place
  · rw [if_pos hb, if_pos hb]
  · rw [if_neg hb, if_neg hb, h.get]
    by_cases ho : on t.place.toNat = true
    · rw [atP_on hb ho, if_pos ho]; rfl
    · rw [atP_off ho, if_neg ho]; rfl
theorem PRel.canC (h : PRel P on tm m) (p : Int) : canC P m p = if p < 0 ∨ (P : Int) ≤ p then 1 else if on p.toNat = true then 0 else 5 := by
  unfold Go.Proofs.YtckkfbepclogcaaGreatDoor.canC
  by_cases hb : p < 0 ∨ (P : Int) ≤ p
  · rw [if_pos hb, if_pos hb]
  · rw [if_neg hb, if_neg hb, h.get]
    by_cases ho : on p.toNat = true
    · rw [atP_on hb ho, if_pos ho]; rfl
    · rw [atP_off ho, if_neg ho]; rfl
theorem PRel.canT (h : PRel P on tm m) {i : Nat} (hi : i < P) (ho : on i = true) : canT P m i = tm i := by
  have hb : ¬ ((i : Int) < 0 ∨ (P : Int) ≤ i) := by omega
  have ho' : on (i : Int).toNat = true := by simpa using ho
  unfold Go.Proofs.YtckkfbepclogcaaGreatDoor.canT
  rw [h.canC, if_neg hb, if_pos ho', if_pos rfl, h.get, atP_on hb ho']
  simp
end
end Go.Proofs.YtckkfbepclogcaaGreatDoor
namespace Go.Proofs.YtckkfbepclogcaaGreatDoor
structure HSt where
  inn : Nat → Option Nat
  L : Nat → List Nat
  tm : Nat → Timer
  base : Int
def HSt.on (s : HSt) : Nat → Bool := fun k => (s.inn k).isSome
def HSt.pend (P : Nat) (s : HSt) : List Timer := pendL P s.on s.tm
/-- In which list a timer is put: that of its slot, or, behind the slots, that of those ready. -/
def slotOf (S : Nat) (base : Int) (t : Timer) : Nat := if base < t.at_ then (t.at_ % S).toNat else S
/-- P places, N lists; f tells, of a base and a timer, in which list it lies. -/
structure HOk (P N : Nat) (f : Int → Timer → Nat) (s : HSt) : Prop where
  mem : ∀ j, j < N → ∀ i ∈ s.L j, i < P ∧ s.inn i = some j
  out : ∀ i, i < P → ∀ j, s.inn i = some j → j < N ∧ i ∈ s.L j
  nodup : ∀ j, j < N → (s.L j).Nodup
  lies : ∀ i, i < P → ∀ j, s.inn i = some j → f s.base (s.tm i) = j
  fit : ∀ i, i < P → s.on i = true → 0 ≤ (s.tm i).at_
def HSt.ins (s : HSt) (i j : Nat) (l : List Nat) (t : Timer) : HSt := { s with inn := updO s.inn i (some j), L := updL s.L j l, tm := updT s.tm i t }
def HSt.del (s : HSt) (i j : Nat) : HSt := { s with inn := updO s.inn i none, L := updL s.L j ((s.L j).erase i) }
def HSt.new (base : Int) (tm : Nat → Timer) : HSt := ⟨fun _ => none, fun _ => [], tm, base⟩
theorem HSt.on_ins (s : HSt) (i j : Nat) (l : List Nat) (t : Timer) : (s.ins i j l t).on = updB s.on i true := by
  funext k
  by_cases h : k = i
  · subst h
    simp [HSt.on, HSt.ins, updO_at, updB_at]
  · simp [HSt.on, HSt.ins, updO_ne _ _ h, updB_ne _ _ h]
theorem HSt.on_del (s : HSt) (i j : Nat) : (s.del i j).on = updB s.on i false := by
  funext k
  by_cases h : k = i
  · subst h
    simp [HSt.on, HSt.del, updO_at, updB_at]
  · simp [HSt.on, HSt.del, updO_ne _ _ h, updB_ne _ _ h]
theorem HSt.on_some {s : HSt} {i j : Nat} (h : s.inn i = some j) : s.on i = true := by simp [HSt.on, h]
theorem HSt.on_none {s : HSt} {i : Nat} (h : s.inn i = none) : s.on i = false := by simp [HSt.on, h]
theorem HOk.new (P N : Nat) (f : Int → Timer → Nat) (base : Int) (tm : Nat → Timer) : HOk P N f (HSt.new base tm) :=
  ⟨fun _ _ _ h => by simp [HSt.new] at h, fun _ _ _ h => by simp [HSt.new] at h, fun _ _ => List.nodup_nil, fun _ _ _ h => by simp [HSt.new] at h, fun _ _ h => by simp [HSt.new, HSt.on] at h⟩
section
variable {P N S : Nat} {f : Int → Timer → Nat} {s : HSt}
theorem slotOf_le (hS : 0 < S) (base : Int) (t : Timer) : slotOf S base t ≤ S := by
  unfold slotOf
  split
  · have := Int.emod_lt_of_pos t.at_ (show (0 : Int) < S by omega)
    have := Int.emod_nonneg t.at_ (show (S : Int) ≠ 0 by omega)
    omega
  · exact Nat.le_refl _
theorem HOk.ins (h : HOk P N f s) {i j : Nat} {l : List Nat} {t : Timer} (hi : i < P) (hn : s.inn i = none) (ht : 0 ≤ t.at_) (hjj : f s.base t = j) (hj : j < N) (hl : l.Perm (i :: s.L j)) : HOk P N f (s.ins i j l t) := by
  have hno : ∀ k, k < N → i ∉ s.L k := fun k hk hm => by rw [(h.mem k hk i hm).2] at hn; cases hn
  refine ⟨?_, ?_, ?_, ?_, ?_⟩
  · intro k hk x hx
    by_cases hxi : x = i
    · subst hxi
      refine ⟨hi, ?_⟩
      by_cases hkj : k = j
      · subst hkj
        exact updO_at _ _ _
      · have hx : x ∈ updL s.L j l k := hx
        rw [updL_ne _ _ hkj] at hx
        exact absurd hx (hno k hk)
    · have hx : x ∈ updL s.L j l k := hx
      show _ ∧ updO s.inn i (some j) x = _
      rw [updO_ne _ _ hxi]
      by_cases hkj : k = j
      · subst hkj
        rw [updL_at] at hx
        rcases List.mem_cons.1 (hl.mem_iff.1 hx) with hx | hx
        · exact absurd hx hxi
        · exact h.mem k hk x hx
      · rw [updL_ne _ _ hkj] at hx
        exact h.mem k hk x hx
  · intro x hx k hk
    have hk : updO s.inn i (some j) x = some k := hk
    show _ ∧ x ∈ updL s.L j l k
    by_cases hxi : x = i
    · subst hxi
      rw [updO_at] at hk
      injection hk with hk
      subst hk
      rw [updL_at]
      exact ⟨hj, hl.mem_iff.2 (by simp)⟩
    · rw [updO_ne _ _ hxi] at hk
      obtain ⟨h1, h2⟩ := h.out x hx k hk
      refine ⟨h1, ?_⟩
      by_cases hkj : k = j
      · subst hkj
        rw [updL_at]
        exact hl.mem_iff.2 (List.mem_cons_of_mem _ h2)
      · rw [updL_ne _ _ hkj]
        exact h2
  · intro k hk
    show (updL s.L j l k).Nodup
    by_cases hkj : k = j
    · subst hkj
      rw [updL_at]
      exact hl.nodup_iff.2 (List.nodup_cons.2 ⟨hno k hk, h.nodup k hk⟩)
    · rw [updL_ne _ _ hkj]
      exact h.nodup k hk
  · intro x hx k hk
    have hk : updO s.inn i (some j) x = some k := hk
    show f s.base (updT s.tm i t x) = k
    by_cases hxi : x = i
    · subst hxi
      rw [updO_at] at hk
      injection hk with hk
      rw [updT_at, hjj, hk]
    · rw [updO_ne _ _ hxi] at hk
      rw [updT_ne _ _ hxi]
      exact h.lies x hx k hk
  · intro x hx ho
    rw [HSt.on_ins] at ho
    show 0 ≤ (updT s.tm i t x).at_
    by_cases hxi : x = i
    · subst hxi
      rw [updT_at]
      exact ht
    · rw [updB_ne _ _ hxi] at ho
      rw [updT_ne _ _ hxi]
      exact h.fit x hx ho
theorem HOk.del (h : HOk P N f s) {i j : Nat} (hi : i < P) (hj : s.inn i = some j) : HOk P N f (s.del i j) := by
  obtain ⟨hjS, him⟩ := h.out i hi j hj
  refine ⟨?_, ?_, ?_, ?_, ?_⟩
  · intro k hk x hx
    have hx : x ∈ updL s.L j ((s.L j).erase i) k := hx
    show _ ∧ updO s.inn i none x = _
    by_cases hkj : k = j
    · subst hkj
      rw [updL_at] at hx
      have := (h.nodup k hk).mem_erase_iff.1 hx
      rw [updO_ne _ _ this.1]
      exact h.mem k hk x this.2
    · rw [updL_ne _ _ hkj] at hx
      have hm := h.mem k hk x hx
      have hxi : x ≠ i := fun e => by
        subst e
        have := hm.2
        rw [hj] at this
        injection this with this
        exact hkj this.symm
      rw [updO_ne _ _ hxi]
      exact h.mem k hk x hx
  · intro x hx k hk
    have hk : updO s.inn i none x = some k := hk
    show _ ∧ x ∈ updL s.L j ((s.L j).erase i) k
    have hxi : x ≠ i := fun e => by
      subst e
      rw [updO_at] at hk
      cases hk
    rw [updO_ne _ _ hxi] at hk
    obtain ⟨h1, h2⟩ := h.out x hx k hk
    refine ⟨h1, ?_⟩
    by_cases hkj : k = j
    · subst hkj
      rw [updL_at]
      exact (h.nodup k h1).mem_erase_iff.2 ⟨hxi, h2⟩
    · rw [updL_ne _ _ hkj]
      exact h2
  · intro k hk
    show (updL s.L j ((s.L j).erase i) k).Nodup
    by_cases hkj : k = j
    · subst hkj
      rw [updL_at]
      exact (h.nodup k hk).erase i
    · rw [updL_ne _ _ hkj]
      exact h.nodup k hk
  · intro x hx k hk
    have hk : updO s.inn i none x = some k := hk
    have hxi : x ≠ i := fun e => by
      subst e
      rw [updO_at] at hk
      cases hk
    rw [updO_ne _ _ hxi] at hk
    exact h.lies x hx k hk
  · intro x hx ho
    rw [HSt.on_del] at ho
    have hxi : x ≠ i := fun e => by
      subst e
      rw [updB_at] at ho
      cases ho
    rw [updB_ne _ _ hxi] at ho
    exact h.fit x hx ho
/-- Which is where a place's timer lies. -/
theorem HOk.at (h : HOk P N f s) {i : Nat} (hi : i < P) (ho : s.on i = true) : s.inn i = some (f s.base (s.tm i)) := by
  cases e : s.inn i with
  | none => rw [HSt.on_none e] at ho; cases ho
  | some j => rw [h.lies i hi j e]
/-- l has been taken, each of them such as D says. -/
structure Took (P N : Nat) (f : Int → Timer → Nat) (s0 : HSt) (D : Timer → Prop) (l : List Timer) (s : HSt) : Prop where
  ok : HOk P N f s
  tm : s.tm = s0.tm
  base : s.base = s0.base
  perm : (l ++ s.pend P).Perm (s0.pend P)
  due : ∀ x ∈ l, D x
  sub : ∀ i, i < P → ∀ j, s.inn i = some j → s0.inn i = some j
theorem Took.refl (h : HOk P N f s) (D : Timer → Prop) : Took P N f s D [] s := ⟨h, rfl, rfl, by simp, by simp, fun _ _ _ h => h⟩
theorem Took.one {s0 : HSt} {D : Timer → Prop} {l : List Timer} (h : Took P N f s0 D l s) {i j : Nat} (hi : i < P) (hj : s.inn i = some j) (hd : D (s0.tm i)) : Took P N f s0 D (l ++ [s0.tm i]) (s.del i j) := by
  refine ⟨h.ok.del hi hj, h.tm, h.base, ?_, ?_, ?_⟩
  · have h1 := pend_off (tm := s.tm) hi (HSt.on_some hj)
    refine List.Perm.trans ?_ h.perm
    rw [List.append_assoc]
    refine List.Perm.append_left l ?_
    unfold HSt.pend
    rw [HSt.on_del, ← h.tm]
    exact h1.symm
  · intro x hx
    rcases List.mem_append.1 hx with hx | hx
    · exact h.due x hx
    · have : x = s0.tm i := by simpa using hx
      rw [this]
      exact hd
  · intro x hx k hk
    have hk : updO s.inn i none x = some k := hk
    have hxi : x ≠ i := fun e => by
      subst e
      rw [updO_at] at hk
      cases hk
    rw [updO_ne _ _ hxi] at hk
    exact h.sub x hx k hk
theorem Took.len {s0 : HSt} {D : Timer → Prop} {l : List Timer} (h : Took P N f s0 D l s) : l.length + (s.pend P).length = (s0.pend P).length := by
  have := h.perm.length_eq
  simpa using this
/-- How far a list has been gone through: xs is what stood in it, k of them are done. -/
structure Swp (P : Nat) (s1 : HSt) (K : Timer → Prop) (j : Nat) (xs : List Nat) (k : Nat) (s : HSt) : Prop where
  left : ∀ i, i < P → s.inn i = some j → i ∈ xs.drop k ∨ K (s.tm i)
  rest : ∀ i ∈ xs.drop k, s.inn i = some j
  else_ : ∀ m, m ≠ j → s.L m = s1.L m
theorem Swp.start (h : HOk P N f s) {j : Nat} (hj : j < N) (K : Timer → Prop) : Swp P s K j (s.L j) 0 s :=
  ⟨fun i hi hij => .inl (h.out i hi j hij).2, fun i hi => (h.mem j hj i hi).2, fun _ _ => rfl⟩
theorem Swp.take {s1 : HSt} {K : Timer → Prop} {j k : Nat} {xs : List Nat} (h : Swp P s1 K j xs k s) (hn : xs.Nodup) (hk : k < xs.length) : Swp P s1 K j xs (k + 1) (s.del xs[k] j) := by
  have hd : xs.drop k = xs[k] :: xs.drop (k + 1) := List.drop_eq_getElem_cons hk
  have hnd : (xs[k] :: xs.drop (k + 1)).Nodup := by rw [← hd]; exact hn.sublist (List.drop_sublist _ _)
  have hno := (List.nodup_cons.1 hnd).1
  refine ⟨?_, ?_, ?_⟩
  · intro i hi hij
    have hij : updO s.inn xs[k] none i = some j := hij
    have hxi : i ≠ xs[k] := fun e => by
      rw [e, updO_at] at hij
      cases hij
    rw [updO_ne _ _ hxi] at hij
    rcases h.left i hi hij with hl | hl
    · rw [hd] at hl
      rcases List.mem_cons.1 hl with hl | hl
      · exact absurd hl hxi
      · exact .inl hl
    · exact .inr hl
  · intro i hi
    have hxi : i ≠ xs[k] := fun e => hno (by rw [← e]; exact hi)
    show updO s.inn xs[k] none i = some j
    rw [updO_ne _ _ hxi]
    exact h.rest i (by rw [hd]; exact List.mem_cons_of_mem _ hi)
  · intro m hm
    show updL s.L j _ m = _
    rw [updL_ne _ _ hm]
    exact h.else_ m hm
theorem Swp.leave {s1 : HSt} {K : Timer → Prop} {j k : Nat} {xs : List Nat} (h : Swp P s1 K j xs k s) (hk : k < xs.length) (hd : K (s.tm xs[k])) : Swp P s1 K j xs (k + 1) s := by
  have hd2 : xs.drop k = xs[k] :: xs.drop (k + 1) := List.drop_eq_getElem_cons hk
  refine ⟨?_, fun i hi => h.rest i (by rw [hd2]; exact List.mem_cons_of_mem _ hi), h.else_⟩
  intro i hi hij
  rcases h.left i hi hij with hl | hl
  · rw [hd2] at hl
    rcases List.mem_cons.1 hl with hl | hl
    · rw [hl]
      exact .inr hd
    · exact .inl hl
  · exact .inr hl
theorem Swp.done {s1 : HSt} {K : Timer → Prop} {j : Nat} {xs : List Nat} (h : Swp P s1 K j xs xs.length s) : (∀ i, i < P → s.inn i = some j → K (s.tm i)) ∧ ∀ m, m ≠ j → s.L m = s1.L m := by
  refine ⟨fun i hi hij => ?_, h.else_⟩
  rcases h.left i hi hij with hl | hl
  · simp at hl
  · exact hl
/-- The slot that lies o ticks behind the one behind the base. -/
def slotN (S : Nat) (base : Int) (o : Nat) : Nat := ((base + 1 + o) % S).toNat
/-- How many ticks, or slots, there are up to now. -/
def spanN (S : Nat) (base now : Int) : Nat := if now ≤ base then 0 else min (now - base).toNat S
def busyAt (s : HSt) (j : Nat) : Bool := !(s.L j).isEmpty
/-- The slots behind the base have been gone through, off of them. -/
structure Gone (P S : Nat) (s0 : HSt) (now : Int) (off : Nat) (l : List Timer) (s : HSt) (looked : Nat) : Prop where
  took : Took P (S + 1) (slotOf S) s0 (fun x => x.at_ ≤ now) l s
  ready : ∀ i, i < P → s.inn i = some S → now < (s.tm i).at_
  past : ∀ o, o < off → ∀ i, i < P → s.inn i = some (slotN S s0.base o) → now < (s.tm i).at_
  ahead : ∀ o, off ≤ o → o < S → s.L (slotN S s0.base o) = s0.L (slotN S s0.base o)
  looked : looked = (List.range off).countP fun o => busyAt s0 (slotN S s0.base o)
theorem slotN_lt (hS : 0 < S) (base : Int) (o : Nat) : slotN S base o < S := by
  unfold slotN
  have := Int.emod_lt_of_pos (base + 1 + o) (show (0 : Int) < S by omega)
  have := Int.emod_nonneg (base + 1 + o) (show (S : Int) ≠ 0 by omega)
  omega
theorem slotN_inj (hS : 0 < S) {base : Int} {o p : Nat} (ho : o < S) (hp : p < S) (h : slotN S base o = slotN S base p) : o = p := by
  unfold slotN at h
  have h1 := Int.emod_nonneg (base + 1 + o) (show (S : Int) ≠ 0 by omega)
  have h2 := Int.emod_nonneg (base + 1 + p) (show (S : Int) ≠ 0 by omega)
  have h3 : (base + 1 + o) % (S : Int) = (base + 1 + p) % (S : Int) := by omega
  have h5 : ((base + 1 + o) - (base + 1 + p)) % (S : Int) = 0 := Int.emod_eq_emod_iff_emod_sub_eq_zero.1 h3
  have h6 : ((o : Int) - p) % S = 0 := by rw [← h5]; congr 1; omega
  obtain ⟨c, hc⟩ := Int.dvd_of_emod_eq_zero h6
  have : c = 0 := by
    have a1 : (o : Int) - p < S := by omega
    have a2 : -(S : Int) < (o : Int) - p := by omega
    rw [hc] at a1 a2
    have hSp : (0 : Int) < S := by omega
    have b1 : c < 1 := by
      refine Int.lt_of_mul_lt_mul_left (a := (S : Int)) ?_ (by omega)
      omega
    have b2 : -1 < c := by
      refine Int.lt_of_mul_lt_mul_left (a := (S : Int)) ?_ (by omega)
      rw [Int.mul_neg, Int.mul_one]
      exact a2
    omega
  subst this
  omega
end
end Go.Proofs.YtckkfbepclogcaaGreatDoor
namespace Go.Proofs.YtckkfbepclogcaaGreatDoor
theorem nodup_le : ∀ (l m : List Nat), l.Nodup → (∀ x ∈ l, x ∈ m) → l.length ≤ m.length
  | [], _, _, _ => Nat.zero_le _
  | x :: l, m, hn, hs => by
    have hn' := List.nodup_cons.1 hn
    have hx := hs x (by simp)
    have := nodup_le l (m.erase x) hn'.2 (fun y hy => (List.mem_erase_of_ne (fun e => hn'.1 (by rw [← e]; exact hy))).2 (hs y (List.mem_cons_of_mem _ hy)))
    rw [List.length_erase_of_mem hx] at this
    have h0 : 0 < m.length := List.length_pos_of_mem hx
    simp only [List.length_cons]
    omega
theorem map_nodup {α : Type} (f : Nat → α) : ∀ l : List Nat, l.Nodup → (∀ x ∈ l, ∀ y ∈ l, f x = f y → x = y) → (l.map f).Nodup
  | [], _, _ => List.nodup_nil
  | x :: l, hn, hi => by
    have hn' := List.nodup_cons.1 hn
    rw [List.map_cons]
    refine List.nodup_cons.2 ⟨?_, map_nodup f l hn'.2 fun a ha b hb => hi a (List.mem_cons_of_mem _ ha) b (List.mem_cons_of_mem _ hb)⟩
    intro hm
    obtain ⟨y, hy, e⟩ := List.mem_map.1 hm
    have := hi y (List.mem_cons_of_mem _ hy) x (by simp) e
    exact hn'.1 (by rw [← this]; exact hy)
theorem cast_mod (b S : Nat) : ((b : Int) % (S : Int)) = ((b % S : Nat) : Int) := rfl
theorem slotN_of {S : Nat} (hS : 0 < S) (base : Int) (o : Nat) : slotN S base o = ((slotN S base 0 + o) % S) := by
  unfold slotN
  have h1 := Int.emod_nonneg (base + 1 + (0 : Nat)) (show (S : Int) ≠ 0 by omega)
  have e : (base + 1 + o) % (S : Int) = ((base + 1 + (0 : Nat)) % S + o) % S := by
    rw [Int.emod_add_emod]
    congr 1
    omega
  rw [e]
  generalize (base + 1 + (0 : Nat)) % (S : Int) = a at *
  obtain ⟨b, rfl⟩ := Int.eq_ofNat_of_zero_le h1
  rw [Int.toNat_natCast, ← Int.natCast_add, cast_mod, Int.toNat_natCast]
theorem mod_le' {x : Int} (h : 0 ≤ x) (S : Nat) : x % (S : Int) ≤ x := by
  obtain ⟨b, rfl⟩ := Int.eq_ofNat_of_zero_le h
  rw [cast_mod]
  have := Nat.mod_le b S
  omega
theorem slots_perm {S : Nat} (hS : 0 < S) (base : Int) : ((List.range S).map (slotN S base)).Perm (List.range S) := by
  have ha := slotN_lt hS base 0
  have e0 : slotN S base = fun o => (slotN S base 0 + o) % S := funext fun o => slotN_of hS base o
  generalize slotN S base 0 = a at *
  rw [e0]
  have e1 : (List.range S).map (fun o => (a + o) % S) = (List.range (S - a)).map (fun o => a + o) ++ List.range a := by
    conv => lhs; rw [show S = (S - a) + a by omega, List.range_add, List.map_append, List.map_map]
    congr 1
    · refine List.map_congr_left fun o ho => ?_
      have := List.mem_range.1 ho
      exact Nat.mod_eq_of_lt (by omega)
    · rw [show (fun o => (a + o) % (S - a + a)) ∘ (fun o => S - a + o) = fun o => (a + (S - a + o)) % (S - a + a) from rfl]
      conv => rhs; rw [← List.map_id (List.range a)]
      refine List.map_congr_left fun o ho => ?_
      have := List.mem_range.1 ho
      rw [show a + (S - a + o) = o + (S - a + a) by omega, Nat.add_mod_right, Nat.mod_eq_of_lt (by omega)]
      rfl
  rw [e1]
  have e2 : List.range S = List.range a ++ (List.range (S - a)).map (fun o => a + o) := by
    conv => lhs; rw [show S = a + (S - a) by omega, List.range_add]
  rw [e2]
  exact List.perm_append_comm
theorem count_lt (S k : Nat) (p : Nat → Bool) : (List.range S).countP (fun o => p o && decide (o < k)) = (List.range (min k S)).countP p := by
  conv => lhs; rw [show S = min k S + (S - min k S) by omega, List.range_add, List.countP_append]
  have h2 : ((List.range (S - min k S)).map fun o => min k S + o).countP (fun o => p o && decide (o < k)) = 0 := by
    rw [List.countP_eq_zero]
    intro x hx
    obtain ⟨o, ho, rfl⟩ := List.mem_map.1 hx
    have := List.mem_range.1 ho
    simp only [Bool.and_eq_true, decide_eq_true_eq, not_and]
    omega
  rw [h2, Nat.add_zero]
  refine List.countP_congr fun x hx => ?_
  have := List.mem_range.1 hx
  simp only [Bool.and_eq_true, decide_eq_true_eq, and_iff_left_iff_imp]
  omega
/-- How many slots the document looks into. -/
def lookL (m : List Timer) (base : Int) (S : Nat) (now : Int) : Nat :=
  if now ≤ base then 0 else (List.range S).countP fun k : Nat => m.any fun x => decide (base < x.at_ ∧ (x.at_ - base - 1) % S < now - base ∧ x.at_ % S = (k : Int))
section
variable {P S : Nat} {s0 s : HSt} {now : Int} {l m : List Timer} {looked : Nat}
theorem slot_off (hS : 0 < S) (base a : Int) {o : Nat} (ho : o < S) : a % S = slotN S base o ↔ (a - base - 1) % S = o := by
  unfold slotN
  have h2 := Int.emod_nonneg (base + 1 + o) (show (S : Int) ≠ 0 by omega)
  rw [Int.toNat_of_nonneg h2]
  have e : ((o : Int)) = (o : Int) % S := (Int.emod_eq_of_lt (by omega) (by omega)).symm
  constructor
  · intro h
    rw [e, Int.emod_eq_emod_iff_emod_sub_eq_zero]
    have := Int.emod_eq_emod_iff_emod_sub_eq_zero.1 h
    rw [← this]
    congr 1
    omega
  · intro h
    rw [e, Int.emod_eq_emod_iff_emod_sub_eq_zero] at h
    rw [Int.emod_eq_emod_iff_emod_sub_eq_zero, ← h]
    congr 1
    omega
theorem HOk.busy (h : HOk P (S + 1) (slotOf S) s0) (hp : PRel P s0.on s0.tm m) {j : Nat} (hj : j < S + 1) : busyAt s0 j = m.any fun x => decide (slotOf S s0.base x = j) := by
  rw [Bool.eq_iff_iff, List.any_eq_true]
  unfold busyAt
  constructor
  · intro hb
    cases e : s0.L j with
    | nil => rw [e] at hb; simp at hb
    | cons i r =>
      have := h.mem j hj i (by rw [e]; simp)
      refine ⟨s0.tm i, hp.mem.2 ⟨i, this.1, HSt.on_some this.2, rfl⟩, ?_⟩
      rw [decide_eq_true_iff]
      exact h.lies i this.1 j this.2
  · rintro ⟨x, hx, hk⟩
    obtain ⟨i, hi, ho, rfl⟩ := hp.mem.1 hx
    have h1 := h.at hi ho
    rw [decide_eq_true_iff] at hk
    rw [hk] at h1
    have := (h.out i hi j h1).2
    cases e : s0.L j with
    | nil => rw [e] at this; simp at this
    | cons a r => simp
theorem HOk.look (h : HOk P (S + 1) (slotOf S) s0) (hS : 0 < S) (hp : PRel P s0.on s0.tm m) (now : Int) : ((List.range (spanN S s0.base now)).countP fun o => busyAt s0 (slotN S s0.base o)) = lookL m s0.base S now := by
  unfold lookL spanN
  by_cases hb : now ≤ s0.base
  · rw [if_pos hb, if_pos hb]
    rfl
  · rw [if_neg hb, if_neg hb]
    have h1 := (slots_perm hS s0.base).countP_eq fun k : Nat => m.any fun x => decide (s0.base < x.at_ ∧ (x.at_ - s0.base - 1) % S < now - s0.base ∧ x.at_ % S = (k : Int))
    rw [← h1, List.countP_map, ← count_lt]
    refine List.countP_congr fun o ho => ?_
    have hoS := List.mem_range.1 ho
    rw [h.busy hp (by have := slotN_lt hS s0.base o; omega)]
    simp only [Bool.and_eq_true, List.any_eq_true, decide_eq_true_eq, Function.comp]
    have hlt := slotN_lt hS s0.base o
    constructor
    · rintro ⟨⟨x, hx, hk⟩, ho2⟩
      refine ⟨x, hx, ?_⟩
      unfold slotOf at hk
      by_cases hbx : s0.base < x.at_
      · rw [if_pos hbx] at hk
        have h0 := Int.emod_nonneg x.at_ (show (S : Int) ≠ 0 by omega)
        have hk2 : x.at_ % S = slotN S s0.base o := by omega
        refine ⟨hbx, ?_, hk2⟩
        rw [(slot_off hS s0.base x.at_ hoS).1 hk2]
        omega
      · rw [if_neg hbx] at hk
        omega
    · rintro ⟨x, hx, hbx, hm, hk⟩
      rw [(slot_off hS s0.base x.at_ hoS).1 hk] at hm
      refine ⟨⟨x, hx, ?_⟩, by omega⟩
      unfold slotOf
      rw [if_pos hbx, hk]
      simp
theorem lookL_le_span (m : List Timer) (hS : 0 < S) (h : HOk P (S + 1) (slotOf S) s0) (hp : PRel P s0.on s0.tm m) (now : Int) : lookL m s0.base S now ≤ spanN S s0.base now := by
  rw [← h.look hS hp now]
  exact Nat.le_trans List.countP_le_length (by simp)
theorem look_le_pend (hS : 0 < S) (h : HOk P (S + 1) (slotOf S) s0) (hp : PRel P s0.on s0.tm m) (now : Int) : lookL m s0.base S now ≤ m.length := by
  rw [← h.look hS hp now, hp.len, List.countP_eq_length_filter]
  unfold pendL
  rw [List.length_map]
  have hsp : spanN S s0.base now ≤ S := by unfold spanN; split <;> omega
  have hmem : ∀ o ∈ (List.range (spanN S s0.base now)).filter (fun o => busyAt s0 (slotN S s0.base o)), o < S ∧ ((s0.L (slotN S s0.base o)).headD 0) ∈ s0.L (slotN S s0.base o) := by
    intro o ho
    have := List.mem_filter.1 ho
    refine ⟨by have := List.mem_range.1 this.1; omega, ?_⟩
    have hb := this.2
    unfold busyAt at hb
    cases e : s0.L (slotN S s0.base o) with
    | nil => rw [e] at hb; simp at hb
    | cons a r => simp
  have hn := map_nodup (fun o => (s0.L (slotN S s0.base o)).headD 0) ((List.range (spanN S s0.base now)).filter (fun o => busyAt s0 (slotN S s0.base o))) (List.nodup_range.sublist List.filter_sublist) (by
    intro a ha b hb e
    have h1 := hmem a ha
    have h2 := hmem b hb
    have i1 := (h.mem _ (by have := slotN_lt hS s0.base a; omega) _ h1.2).2
    have i2 := (h.mem _ (by have := slotN_lt hS s0.base b; omega) _ h2.2).2
    rw [e] at i1
    rw [i1] at i2
    injection i2 with i2
    exact slotN_inj hS h1.1 h2.1 i2)
  have := nodup_le _ ((List.range P).filter s0.on) hn (by
    intro x hx
    obtain ⟨o, ho, rfl⟩ := List.mem_map.1 hx
    have h1 := hmem o ho
    have i1 := h.mem _ (by have := slotN_lt hS s0.base o; omega) _ h1.2
    exact List.mem_filter.2 ⟨List.mem_range.2 i1.1, HSt.on_some i1.2⟩)
  rwa [List.length_map] at this
theorem Gone.all (h : Gone P S s0 now (spanN S s0.base now) l s looked) (hS : 0 < S) : ∀ i, i < P → s.on i = true → now < (s.tm i).at_ := by
  intro i hi ho
  have h1 := h.took.ok.at hi ho
  rw [h.took.base] at h1
  by_cases hb : s0.base < (s.tm i).at_
  · unfold slotOf at h1
    rw [if_pos hb] at h1
    generalize hax : (s.tm i).at_ = a at *
    have h0 := Int.emod_nonneg (a - s0.base - 1) (show (S : Int) ≠ 0 by omega)
    have hlt := Int.emod_lt_of_pos (a - s0.base - 1) (show (0 : Int) < S by omega)
    have hoS : ((a - s0.base - 1) % S).toNat < S := by omega
    have hk := (slot_off hS s0.base a hoS).2 (by omega)
    by_cases hsp : ((a - s0.base - 1) % S).toNat < spanN S s0.base now
    · have := h.past _ hsp i hi (by rw [h1, hk]; simp)
      rwa [hax] at this
    · have hle : (a - s0.base - 1) % S ≤ a - s0.base - 1 := mod_le' (by omega) S
      unfold spanN at hsp
      by_cases hnb : now ≤ s0.base
      · omega
      · rw [if_neg hnb] at hsp
        omega
  · unfold slotOf at h1
    rw [if_neg hb] at h1
    exact h.ready i hi h1
theorem Gone.done (h : Gone P S s0 now (spanN S s0.base now) l s looked) (hS : 0 < S) (h0 : HOk P (S + 1) (slotOf S) s0) (hp : PRel P s0.on s0.tm m) :
    HOk P (S + 1) (slotOf S) { s with base := max s0.base now } ∧ PRel P s.on s.tm (dueL m now false) ∧ sortL l = dueL m now true ∧ looked = lookL m s0.base S now := by
  have hall := h.all hS
  have hd := hp.due (on' := s.on) (l := l) (now := now) (fun i hi ho => by
    cases e : s.inn i with
    | none => rw [HSt.on_none e] at ho; cases ho
    | some j => exact HSt.on_some (h.took.sub i hi j e)) (by have := h.took.perm; unfold HSt.pend at this; rw [h.took.tm] at this; exact this) h.took.due (by rw [← h.took.tm]; exact hall)
  refine ⟨⟨h.took.ok.mem, h.took.ok.out, h.took.ok.nodup, ?_, h.took.ok.fit⟩, by rw [h.took.tm]; exact hd.1, hd.2, by rw [h.looked, h0.look hS hp now]⟩
  intro i hi j hj
  have h1 := h.took.ok.lies i hi j hj
  have h2 := hall i hi (HSt.on_some hj)
  rw [h.took.base] at h1
  show slotOf S (max s0.base now) (s.tm i) = j
  rw [← h1]
  unfold slotOf
  by_cases hb : s0.base < (s.tm i).at_
  · rw [if_pos hb, if_pos (by omega)]
  · rw [if_neg hb, if_neg (by omega)]
/-- Those ready have been gone through: the slots are begun. -/
theorem Gone.start (h : Took P (S + 1) (slotOf S) s0 (fun x => x.at_ ≤ now) l s) (hr : ∀ i, i < P → s.inn i = some S → now < (s.tm i).at_) (hL : ∀ j, j ≠ S → s.L j = s0.L j) (hS : 0 < S) : Gone P S s0 now 0 l s 0 :=
  ⟨h, hr, fun _ h => absurd h (by omega), fun o _ _ => hL _ (by have := slotN_lt hS s0.base o; omega), rfl⟩
/-- Slots with nothing in them are passed over. -/
theorem Gone.pass {off : Nat} (h : Gone P S s0 now off l s looked) (_hS : 0 < S) {off' : Nat} (h1 : off ≤ off') (h2 : off' ≤ S) (hb : ∀ o, off ≤ o → o < off' → busyAt s0 (slotN S s0.base o) = false) : Gone P S s0 now off' l s looked := by
  refine ⟨h.took, h.ready, ?_, fun o ho => h.ahead o (by omega), ?_⟩
  · intro o ho i hi hin
    by_cases hlt : o < off
    · exact h.past o hlt i hi hin
    · have hb' := hb o (by omega) ho
      have hm := (h.took.ok.out i hi _ hin).2
      rw [h.ahead o (by omega) (by omega)] at hm
      unfold busyAt at hb'
      cases e : s0.L (slotN S s0.base o) with
      | nil => rw [e] at hm; simp at hm
      | cons a r => rw [e] at hb'; simp at hb'
  · rw [h.looked]
    obtain ⟨d, rfl⟩ : ∃ d, off' = off + d := ⟨off' - off, by omega⟩
    rw [List.range_add, List.countP_append]
    have : ((List.range d).map fun x => off + x).countP (fun o => busyAt s0 (slotN S s0.base o)) = 0 := by
      rw [List.countP_eq_zero]
      intro x hx
      obtain ⟨o, ho, rfl⟩ := List.mem_map.1 hx
      have := List.mem_range.1 ho
      rw [hb (off + o) (by omega) (by omega)]
      simp
    rw [this]
    rfl
/-- A slot with something in it has been looked into. -/
theorem Gone.one {off : Nat} {s' : HSt} {l' : List Timer} (h : Gone P S s0 now off l s looked) (hS : 0 < S) (ho : off < S) (hb : busyAt s0 (slotN S s0.base off) = true) (ht : Took P (S + 1) (slotOf S) s0 (fun x => x.at_ ≤ now) l' s')
    (hsub : ∀ i, i < P → ∀ j, s'.inn i = some j → s.inn i = some j) (hd : ∀ i, i < P → s'.inn i = some (slotN S s0.base off) → now < (s'.tm i).at_) (hL : ∀ j, j ≠ slotN S s0.base off → s'.L j = s.L j) : Gone P S s0 now (off + 1) l' s' (looked + 1) := by
  have htm : s'.tm = s.tm := ht.tm.trans h.took.tm.symm
  refine ⟨ht, ?_, ?_, ?_, ?_⟩
  · intro i hi hin
    rw [htm]
    exact h.ready i hi (hsub i hi _ hin)
  · intro o hoo i hi hin
    by_cases heq : o = off
    · subst heq
      exact hd i hi hin
    · rw [htm]
      exact h.past o (by omega) i hi (hsub i hi _ hin)
  · intro o h1 h2
    rw [hL _ (fun e => by have := slotN_inj hS h2 ho e; omega)]
    exact h.ahead o (by omega) h2
  · rw [List.range_succ, List.countP_append, ← h.looked, List.countP_cons_of_pos (by exact hb)]
    rfl
end
end Go.Proofs.YtckkfbepclogcaaGreatDoor
namespace Go.Proofs.YtckkfbepclogcaaGreatDoor
/-- In which list a timer lies: a slot's, level by level; that of those ready; that of those kept. -/
def hslot (B : Nat) (base : Int) (t : Timer) : Nat :=
  if lev B base t.at_ = -1 then 4 * B else if lev B base t.at_ = 4 then 4 * B + 1 else (lev B base t.at_).toNat * B + (dig B t.at_ (lev B base t.at_).toNat).toNat
section
variable {B : Nat}
theorem hslot_ready {base : Int} {t : Timer} (h : t.at_ ≤ base) : hslot B base t = 4 * B := by
  unfold hslot
  rw [if_pos (lev_neg.2 h)]
theorem hslot_kept {base : Int} {t : Timer} (h : lev B base t.at_ = 4) : hslot B base t = 4 * B + 1 := by
  unfold hslot
  rw [if_neg (by omega), if_pos h]
theorem hslot_lev {base : Int} {t : Timer} {l : Nat} (hl : l < 4) (h : lev B base t.at_ = l) : hslot B base t = l * B + (dig B t.at_ l).toNat := by
  unfold hslot
  rw [if_neg (by omega), if_neg (by omega), h]
  rfl
theorem dig_lt (hB : 0 < B) (a : Int) (l : Nat) : (dig B a l).toNat < B := by
  have := dig_in (B := (B : Int)) (by omega) a l
  omega
theorem slot_lt (_hB : 0 < B) {l s : Nat} (hl : l < 4) (hs : s < B) : l * B + s < 4 * B := by
  have : l * B + B ≤ 4 * B := by
    rw [← Nat.succ_mul]
    exact Nat.mul_le_mul_right B hl
  omega
theorem hslot_lt (hB : 0 < B) (base : Int) (t : Timer) : hslot B base t < 4 * B + 2 := by
  rcases lev_in B base t.at_ with e | e | e | e | e | e
  · rw [hslot_ready (lev_neg.1 e)]; omega
  · rw [hslot_lev (l := 0) (by omega) e]; have := slot_lt hB (l := 0) (by omega) (dig_lt hB t.at_ 0); omega
  · rw [hslot_lev (l := 1) (by omega) e]; have := slot_lt hB (l := 1) (by omega) (dig_lt hB t.at_ 1); omega
  · rw [hslot_lev (l := 2) (by omega) e]; have := slot_lt hB (l := 2) (by omega) (dig_lt hB t.at_ 2); omega
  · rw [hslot_lev (l := 3) (by omega) e]; have := slot_lt hB (l := 3) (by omega) (dig_lt hB t.at_ 3); omega
  · rw [hslot_kept e]; omega
/-- What is told by the list in which a timer lies. -/
theorem hslot_inv (hB : 0 < B) {base : Int} {t : Timer} {l s : Nat} (hl : l < 4) (hs : s < B) (h : hslot B base t = l * B + s) : lev B base t.at_ = l ∧ dig B t.at_ l = s := by
  have hlt := slot_lt hB hl hs
  have key : ∀ k : Nat, k < 4 → lev B base t.at_ = k → lev B base t.at_ = l ∧ dig B t.at_ l = s := by
    intro k hk e
    rw [hslot_lev hk e] at h
    have hd := dig_lt hB t.at_ k
    have hkl : k = l := by
      have h1 : (k * B + (dig B t.at_ k).toNat) / B = k := by rw [Nat.mul_comm, Nat.mul_add_div hB, Nat.div_eq_of_lt hd]; rfl
      have h2 : (l * B + s) / B = l := by rw [Nat.mul_comm, Nat.mul_add_div hB, Nat.div_eq_of_lt hs]; rfl
      rw [h, h2] at h1
      exact h1.symm
    subst hkl
    have := dig_in (B := (B : Int)) (by omega) t.at_ k
    exact ⟨e, by omega⟩
  rcases lev_in B base t.at_ with e | e | e | e | e | e
  · rw [hslot_ready (lev_neg.1 e)] at h; omega
  · exact key 0 (by omega) e
  · exact key 1 (by omega) e
  · exact key 2 (by omega) e
  · exact key 3 (by omega) e
  · rw [hslot_kept e] at h; omega
theorem hslot_inv_ready (hB : 0 < B) {base : Int} {t : Timer} (h : hslot B base t = 4 * B) : t.at_ ≤ base := by
  have key : ∀ k : Nat, k < 4 → lev B base t.at_ = k → False := fun k hk e => by
    rw [hslot_lev hk e] at h
    have := slot_lt hB hk (dig_lt hB t.at_ k)
    omega
  rcases lev_in B base t.at_ with e | e | e | e | e | e
  · exact lev_neg.1 e
  · exact (key 0 (by omega) e).elim
  · exact (key 1 (by omega) e).elim
  · exact (key 2 (by omega) e).elim
  · exact (key 3 (by omega) e).elim
  · rw [hslot_kept e] at h; omega
theorem hslot_inv_kept (hB : 0 < B) {base : Int} {t : Timer} (h : hslot B base t = 4 * B + 1) : lev B base t.at_ = 4 := by
  have key : ∀ k : Nat, k < 4 → lev B base t.at_ = k → False := fun k hk e => by
    rw [hslot_lev hk e] at h
    have := slot_lt hB hk (dig_lt hB t.at_ k)
    omega
  rcases lev_in B base t.at_ with e | e | e | e | e | e
  · rw [hslot_ready (lev_neg.1 e)] at h; omega
  · exact (key 0 (by omega) e).elim
  · exact (key 1 (by omega) e).elim
  · exact (key 2 (by omega) e).elim
  · exact (key 3 (by omega) e).elim
  · exact e
/-- Where the slot s of a level begins. -/
def begN (B : Nat) (base : Int) (l s : Nat) : Int := base / pw B (l + 1) * pw B (l + 1) + s * pw B l
theorem begN_floor (hB : 0 < B) {base : Int} {t : Timer} {l s : Nat} (hl : l < 4) (hs : s < B) (h : hslot B base t = l * B + s) : begN B base l s = floorN B t.at_ l := by
  obtain ⟨h1, h2⟩ := hslot_inv hB hl hs h
  have h3 := (lev_iff (B := (B : Int)) (by omega) l hl).1 h1
  unfold begN
  rw [← h2]
  exact begin_floor (by omega) h3.2.1
theorem begN_mono (hB : 0 < B) (base : Int) (l : Nat) {s s' : Nat} (h : s ≤ s') : begN B base l s ≤ begN B base l s' := by
  unfold begN
  have := Int.mul_le_mul_of_nonneg_right (show (s : Int) ≤ s' by omega) (Int.le_of_lt (pw_pos (B := (B : Int)) (by omega) l))
  omega
/-- The wheel's lists, and that those kept are in order. -/
structure HrOk (P B : Nat) (s : HSt) : Prop where
  ok : HOk P (4 * B + 2) (hslot B) s
  kept : (s.L (4 * B + 1)).Pairwise fun a b => (s.tm b).lt (s.tm a) = false
theorem HrOk.new (P B : Nat) (base : Int) (tm : Nat → Timer) : HrOk P B (HSt.new base tm) := ⟨HOk.new _ _ _ _ _, List.Pairwise.nil⟩
variable {P : Nat} {s0 s : HSt} {now : Int} {lA lB lC : List Timer}
theorem HrOk.del (h : HrOk P B s) {i j : Nat} (hi : i < P) (hj : s.inn i = some j) : HrOk P B (s.del i j) := by
  refine ⟨h.ok.del hi hj, ?_⟩
  show (updL s.L j ((s.L j).erase i) (4 * B + 1)).Pairwise _
  by_cases hk : 4 * B + 1 = j
  · subst hk
    rw [updL_at]
    exact h.kept.sublist List.erase_sublist
  · rw [updL_ne _ _ hk]
    exact h.kept
/-- All that the going on to now moves has been taken out. -/
structure Loose (P B : Nat) (s0 : HSt) (now : Int) (lA lB lC : List Timer) (s : HSt) : Prop where
  ok : HrOk P B s
  tm : s.tm = s0.tm
  base : s.base = s0.base
  perm : (lA ++ (lB ++ lC) ++ s.pend P).Perm (s0.pend P)
  sub : ∀ i, i < P → ∀ j, s.inn i = some j → s0.inn i = some j
  due : ∀ x ∈ lA, x.at_ ≤ now
  kept : ∀ x ∈ lB, lev B s0.base x.at_ = 4
  keptin : ∀ x ∈ lB, x.at_ ≤ horN B now
  slots : ∀ x ∈ lC, ∃ l : Nat, l < 4 ∧ lev B s0.base x.at_ = l ∧ floorN B x.at_ l ≤ now
  noready : ∀ i, i < P → s.inn i ≠ some (4 * B)
  nokept : ∀ i, i < P → s.inn i = some (4 * B + 1) → horN B now < (s.tm i).at_
  noslot : ∀ i, i < P → ∀ l c : Nat, l < 4 → c < B → s.inn i = some (l * B + c) → now < begN B s0.base l c
theorem Loose.stay (h : Loose P B s0 now lA lB lC s) (hB : 0 < B) (hb : s0.base ≤ now) {i : Nat} (hi : i < P) (ho : s.on i = true) : now < (s.tm i).at_ ∧ lev B now (s.tm i).at_ = lev B s0.base (s.tm i).at_ ∧ lev B s0.base (s.tm i).at_ ≠ -1 := by
  have hat := h.ok.ok.at hi ho
  rw [h.base] at hat
  have key : ∀ l : Nat, l < 4 → lev B s0.base (s.tm i).at_ = l → now < (s.tm i).at_ ∧ lev B now (s.tm i).at_ = lev B s0.base (s.tm i).at_ ∧ lev B s0.base (s.tm i).at_ ≠ -1 := by
    intro l hl e
    have hs := hslot_lev hl e
    rw [hs] at hat
    have hd := dig_lt hB (s.tm i).at_ l
    have h1 := h.noslot i hi l _ hl hd hat
    rw [begN_floor hB hl hd hs] at h1
    have hf := floor_le (B := (B : Int)) (by omega) (s.tm i).at_ l
    refine ⟨by omega, ?_, by omega⟩
    rw [lev_stay (by omega) hl hb e h1, e]
  rcases lev_in B s0.base (s.tm i).at_ with e | e | e | e | e | e
  · rw [hslot_ready (lev_neg.1 e)] at hat
    exact absurd hat (h.noready i hi)
  · exact key 0 (by omega) e
  · exact key 1 (by omega) e
  · exact key 2 (by omega) e
  · exact key 3 (by omega) e
  · rw [hslot_kept e] at hat
    have h1 := h.nokept i hi hat
    have h2 := lev_kept (by omega) e h1
    exact ⟨((lev_four (by omega)).1 h2).1, by rw [h2, e], by omega⟩
/-- The base gone on: what was left lies where it lay. -/
theorem Loose.onward (h : Loose P B s0 now lA lB lC s) (hB : 0 < B) (hb : s0.base ≤ now) : HrOk P B { s with base := now } := by
  refine ⟨⟨h.ok.ok.mem, h.ok.ok.out, h.ok.ok.nodup, ?_, h.ok.ok.fit⟩, h.ok.kept⟩
  intro i hi j hj
  show hslot B now (s.tm i) = j
  have h1 := h.ok.ok.lies i hi j hj
  obtain ⟨h2, h3, h4⟩ := h.stay hB hb hi (HSt.on_some hj)
  rw [← h1, h.base]
  unfold hslot
  rw [h3]
/-- What was taken out of the slots, and is not due, comes to a lower level. -/
theorem Loose.falls (h : Loose P B s0 now lA lB lC s) (hB : 0 < B) {x : Timer} (hx : x ∈ lC) (hlt : now < x.at_) : 0 ≤ lev B s0.base x.at_ ∧ lev B s0.base x.at_ ≤ 3 ∧ lev B now x.at_ < lev B s0.base x.at_ ∧ 0 ≤ lev B now x.at_ := by
  obtain ⟨l, hl, e, hf⟩ := h.slots x hx
  have := lev_down (B := (B : Int)) (by omega) hl e hlt hf
  omega
/-- Does a timer cascade when the base goes on to now? -/
def cascB (B : Nat) (base now : Int) (x : Timer) : Bool := decide (0 ≤ lev B base x.at_ ∧ lev B base x.at_ ≤ 3 ∧ lev B now x.at_ < lev B base x.at_)
/-- How many cascade, says the document. -/
def casL (m : List Timer) (B : Nat) (base now : Int) : Nat := if now ≤ base then 0 else (dueL m now false).countP (cascB B base now)
theorem Loose.count (h : Loose P B s0 now lA lB lC s) (hB : 0 < B) (hb : s0.base < now) {m : List Timer} (hp : m.Perm (s0.pend P)) : casL m B s0.base now = (lC.filter fun x => decide (now < x.at_)).length := by
  have e1 : casL m B s0.base now = m.countP fun x => cascB B s0.base now x && decide (now < x.at_) := by
    unfold casL dueL
    rw [if_neg (by omega), List.countP_filter]
    refine List.countP_congr fun x _ => ?_
    simp only [Bool.and_eq_true, beq_iff_eq, decide_eq_false_iff_not, decide_eq_true_eq]
    constructor <;> rintro ⟨a, b⟩ <;> exact ⟨a, by omega⟩
  rw [e1, (hp.trans h.perm.symm).countP_eq]
  simp only [List.countP_append]
  have cA : lA.countP (fun x => cascB B s0.base now x && decide (now < x.at_)) = 0 := by
    rw [List.countP_eq_zero]
    intro x hx
    have := h.due x hx
    simp only [Bool.and_eq_true, decide_eq_true_eq, not_and]
    intro _
    omega
  have cB : lB.countP (fun x => cascB B s0.base now x && decide (now < x.at_)) = 0 := by
    rw [List.countP_eq_zero]
    intro x hx
    have := h.kept x hx
    simp only [cascB, Bool.and_eq_true, decide_eq_true_eq, not_and]
    intro hh
    omega
  have cD : (s.pend P).countP (fun x => cascB B s0.base now x && decide (now < x.at_)) = 0 := by
    rw [List.countP_eq_zero]
    intro x hx
    obtain ⟨i, hi, ho, rfl⟩ := mem_pend.1 hx
    have := h.stay hB (by omega) hi ho
    simp only [cascB, Bool.and_eq_true, decide_eq_true_eq, not_and]
    intro hh
    omega
  rw [cA, cB, cD, List.countP_eq_length_filter]
  simp only [Nat.zero_add, Nat.add_zero]
  congr 1
  refine List.filter_congr fun x hx => ?_
  by_cases hlt : now < x.at_
  · have := h.falls hB hx hlt
    have e : cascB B s0.base now x = true := by unfold cascB; rw [decide_eq_true_iff]; exact ⟨this.1, this.2.1, this.2.2.1⟩
    rw [e]
    simp
  · simp [hlt]
end
end Go.Proofs.YtckkfbepclogcaaGreatDoor
namespace Go.Proofs.YtckkfbepclogcaaGreatDoor
theorem pend_nodup {P : Nat} {on : Nat → Bool} {tm : Nat → Timer} (h : ∀ i, i < P → on i = true → (tm i).place = i) : (pendL P on tm).Nodup := by
  unfold pendL
  refine map_nodup tm _ (List.nodup_range.sublist List.filter_sublist) ?_
  intro a ha b hb e
  have h1 := List.mem_filter.1 ha
  have h2 := List.mem_filter.1 hb
  have p1 := h a (List.mem_range.1 h1.1) h1.2
  have p2 := h b (List.mem_range.1 h2.1) h2.2
  rw [e, p2] at p1
  omega
structure Back (P B : Nat) (s0 : HSt) (now : Int) (out : List Timer) (n k : Nat) (l : List Timer) (s : HSt) (c : Nat) : Prop where
  ok : HrOk P B s
  base : s.base = now
  tm : s.tm = s0.tm
  perm : (l ++ out.drop k ++ s.pend P).Perm (s0.pend P)
  due : ∀ x ∈ l, x.at_ ≤ now
  later : ∀ i, i < P → s.on i = true → now < (s.tm i).at_
  sub : ∀ i, i < P → s.on i = true → s0.on i = true
  count : c = ((out.take k).drop n).countP fun x => decide (now < x.at_)
section
variable {P B : Nat} {s0 s : HSt} {now : Int} {lA lB lC l out : List Timer} {n k c : Nat} {m : List Timer}
theorem Loose.start (h : Loose P B s0 now lA lB lC s) (hB : 0 < B) (hb : s0.base ≤ now) : Back P B s0 now (lB ++ lC) lB.length 0 lA { s with base := now } 0 :=
  ⟨h.onward hB hb, rfl, h.tm, h.perm, h.due, fun i hi ho => (h.stay hB hb hi ho).1, fun i hi ho => by
    cases e : s.inn i with
    | none => have : s.on i = true := ho; rw [HSt.on_none e] at this; cases this
    | some j => exact HSt.on_some (h.sub i hi j e), by simp⟩
/-- Each one out is a place's timer; none of it is beyond what the wheel sees. -/
theorem Loose.outs (h : Loose P B s0 now lA lB lC s) (hB : 0 < B) (hpl : ∀ i, i < P → s0.on i = true → (s0.tm i).place = i) (hfit : ∀ i, i < P → s0.on i = true → 0 ≤ (s0.tm i).at_) :
    ∀ x ∈ lB ++ lC, (∃ i, i < P ∧ s0.on i = true ∧ s0.tm i = x ∧ x.place = i ∧ 0 ≤ x.at_) ∧ (now < x.at_ → lev B now x.at_ ≠ 4) := by
  intro x hx
  refine ⟨?_, fun hlt => ?_⟩
  · have hm : x ∈ s0.pend P := h.perm.mem_iff.1 (List.mem_append_left _ (List.mem_append_right _ hx))
    obtain ⟨i, hi, ho, rfl⟩ := mem_pend.1 hm
    exact ⟨i, hi, ho, rfl, hpl i hi ho, hfit i hi ho⟩
  · rcases List.mem_append.1 hx with hx | hx
    · exact lev_seen (by omega) hlt (h.keptin x hx)
    · have := h.falls hB hx hlt
      omega
theorem Back.told (h : Back P B s0 now out n k l s c) (hk : k < out.length) (hd : out[k].at_ ≤ now) : Back P B s0 now out n (k + 1) (l ++ [out[k]]) s c := by
  refine ⟨h.ok, h.base, h.tm, ?_, ?_, h.later, h.sub, ?_⟩
  · refine List.Perm.trans (List.Perm.of_eq ?_) h.perm
    rw [List.drop_eq_getElem_cons hk]
    simp
  · intro x hx
    rcases List.mem_append.1 hx with hx | hx
    · exact h.due x hx
    · have : x = out[k] := by simpa using hx
      rw [this]
      exact hd
  · rw [h.count, List.take_succ_eq_append_getElem hk, List.drop_append, List.countP_append]
    have : ([out[k]].drop (n - (out.take k).length)).countP (fun x => decide (now < x.at_)) = 0 := by
      rw [List.countP_eq_zero]
      intro x hx
      have : x = out[k] := by simpa using List.mem_of_mem_drop hx
      rw [this]
      simp
      omega
    rw [this]
    rfl
/-- The place of one that is still out is free. -/
theorem Back.free (h : Back P B s0 now out n k l s c) (hk : k < out.length) (hpl : ∀ i, i < P → s0.on i = true → (s0.tm i).place = i) {i : Nat} (hi : i < P) (e : s0.tm i = out[k]) : s.inn i = none := by
  cases hin : s.inn i with
  | none => rfl
  | some j =>
    exfalso
    have hn : (l ++ out.drop k ++ s.pend P).Nodup := h.perm.nodup_iff.2 (pend_nodup hpl)
    have h1 : out[k] ∈ l ++ out.drop k := List.mem_append_right _ ((List.drop_eq_getElem_cons hk) ▸ List.mem_cons_self)
    have h2 : out[k] ∈ s.pend P := mem_pend.2 ⟨i, hi, HSt.on_some hin, by rw [h.tm, e]⟩
    exact (List.nodup_append.1 hn).2.2 _ h1 _ h2 rfl
theorem Back.put (h : Back P B s0 now out n k l s c) (hB : 0 < B) (hk : k < out.length) (hpl : ∀ i, i < P → s0.on i = true → (s0.tm i).place = i) {i : Nat} (hi : i < P) (hon : s0.on i = true) (e : s0.tm i = out[k]) (hlt : now < out[k].at_) (h4 : lev B now out[k].at_ ≠ 4) (h0 : 0 ≤ out[k].at_) :
    Back P B s0 now out n (k + 1) l (s.ins i (hslot B now out[k]) (s.L (hslot B now out[k]) ++ [i]) out[k]) (c + if n ≤ k then 1 else 0) := by
  have hfree := h.free hk hpl hi e
  have hj := hslot_lt hB now out[k]
  have hnk : hslot B now out[k] ≠ 4 * B + 1 := fun e => h4 (hslot_inv_kept hB e)
  have htm : updT s.tm i out[k] = s0.tm := by
    funext q
    by_cases hq : q = i
    · subst hq
      rw [updT_at, e]
    · rw [updT_ne _ _ hq, h.tm]
  refine ⟨⟨h.ok.ok.ins hi hfree h0 (by rw [h.base]) hj (List.perm_append_comm), ?_⟩, h.base, htm, ?_, h.due, ?_, ?_, ?_⟩
  · show (updL s.L _ _ (4 * B + 1)).Pairwise fun a b => (updT s.tm i out[k] b).lt (updT s.tm i out[k] a) = false
    rw [updL_ne _ _ (fun e => hnk e.symm), htm, ← h.tm]
    exact h.ok.kept
  · have h1 := pend_on (P := P) (on := s.on) (tm := s.tm) out[k] hi (HSt.on_none hfree)
    refine List.Perm.trans ?_ h.perm
    have h2 : (s.ins i (hslot B now out[k]) (s.L (hslot B now out[k]) ++ [i]) out[k]).pend P = pendL P (updB s.on i true) (updT s.tm i out[k]) := by
      unfold HSt.pend
      rw [HSt.on_ins]
      rfl
    rw [h2, List.drop_eq_getElem_cons hk]
    refine (List.Perm.append_left _ h1).trans ?_
    unfold HSt.pend
    rw [List.append_assoc, List.append_assoc]
    refine List.Perm.append_left l ?_
    exact List.perm_middle
  · intro q hq ho
    show now < (updT s.tm i out[k] q).at_
    rw [HSt.on_ins] at ho
    by_cases hqi : q = i
    · subst hqi
      rw [updT_at]
      exact hlt
    · rw [updB_ne _ _ hqi] at ho
      rw [updT_ne _ _ hqi]
      exact h.later q hq ho
  · intro q hq ho
    rw [HSt.on_ins] at ho
    by_cases hqi : q = i
    · subst hqi
      exact hon
    · rw [updB_ne _ _ hqi] at ho
      exact h.sub q hq ho
  · rw [h.count, List.take_succ_eq_append_getElem hk, List.drop_append, List.countP_append]
    congr 1
    rw [List.length_take, Nat.min_eq_left (by omega)]
    by_cases hn : n ≤ k
    · rw [if_pos hn, show n - k = 0 by omega]
      simp [hlt]
    · rw [if_neg hn, List.drop_eq_nil_of_le (by simp; omega)]
      rfl
theorem Back.done {s1 : HSt} (h : Back P B s0 now (lB ++ lC) lB.length (lB ++ lC).length l s c) (hl : Loose P B s0 now lA lB lC s1) (hB : 0 < B) (hb : s0.base < now) (hp : PRel P s0.on s0.tm m) :
    PRel P s.on s.tm (dueL m now false) ∧ sortL l = dueL m now true ∧ c = casL m B s0.base now := by
  have hperm := h.perm
  rw [List.drop_length, List.append_nil] at hperm
  have hd := hp.due (on' := s.on) (l := l) (now := now) h.sub (by unfold HSt.pend at hperm; rw [h.tm] at hperm; exact hperm) h.due (by rw [← h.tm]; exact h.later)
  refine ⟨by rw [h.tm]; exact hd.1, hd.2, ?_⟩
  rw [hl.count hB hb hp.perm, h.count, List.take_length, List.drop_left, List.countP_eq_length_filter]
end
end Go.Proofs.YtckkfbepclogcaaGreatDoor
namespace Go.Proofs.YtckkfbepclogcaaGreatDoor
section
variable {P B : Nat} {s0 sA sB s : HSt} {now : Int} {lA lB lC l : List Timer}
/-- Of those kept the first ones have been taken out, as far as the wheel sees at now. -/
theorem kept_all (h : HrOk P B s) (hd : s.L (4 * B + 1) = [] ∨ ∃ i r, s.L (4 * B + 1) = i :: r ∧ horN B now < (s.tm i).at_) : ∀ i, i < P → s.inn i = some (4 * B + 1) → horN B now < (s.tm i).at_ := by
  intro i hi hin
  have hm := (h.ok.out i hi _ hin).2
  rcases hd with e | ⟨a, r, e, hlt⟩
  · rw [e] at hm; simp at hm
  · have hk := h.kept
    rw [e] at hm hk
    rcases List.mem_cons.1 hm with rfl | hm
    · exact hlt
    · have := (List.pairwise_cons.1 hk).1 i hm
      have hn : ¬ (s.tm i).lt (s.tm a) = true := by rw [this]; simp
      rw [Timer.lt_iff] at hn
      omega
/-- How far the slots have been gone through: levels below v, and of level v the slots below c. -/
def Begd (P B : Nat) (base now : Int) (v c : Nat) (s : HSt) : Prop :=
  ∀ i, i < P → ∀ l' c', l' < 4 → c' < B → (l' < v ∨ (l' = v ∧ c' < c)) → s.inn i = some (l' * B + c') → now < begN B base l' c'
theorem Begd.start (P B : Nat) (base now : Int) (s : HSt) : Begd P B base now 0 0 s := fun _ _ _ _ _ _ h => by omega
theorem Begd.next_level {base : Int} {v c : Nat} (h : Begd P B base now v c s) (hall : ∀ i, i < P → ∀ c', c ≤ c' → c' < B → s.inn i = some (v * B + c') → now < begN B base v c') : Begd P B base now (v + 1) 0 s := by
  intro i hi l' c' hl hc hlt hin
  by_cases h1 : l' < v ∨ (l' = v ∧ c' < c)
  · exact h i hi l' c' hl hc h1 hin
  · obtain rfl : l' = v := by omega
    exact hall i hi c' (by omega) hc hin
theorem Begd.all {base : Int} {c : Nat} (h : Begd P B base now 4 c s) : ∀ i, i < P → ∀ l c' : Nat, l < 4 → c' < B → s.inn i = some (l * B + c') → now < begN B base l c' :=
  fun i hi l c' hl hc hin => h i hi l c' hl hc (.inl hl) hin
/-- Slot q, the next one with something in it, has been emptied. -/
theorem Begd.one {base : Int} {v c q : Nat} (h : Begd P B base now v c s) (hpass : ∀ i, i < P → ∀ c', c ≤ c' → c' < q → s.inn i ≠ some (v * B + c')) {s' : HSt} (hsub : ∀ i, i < P → ∀ j, s'.inn i = some j → s.inn i = some j)
    (hq : ∀ i, i < P → s'.inn i ≠ some (v * B + q)) : Begd P B base now v (q + 1) s' := by
  intro i hi l' c' hl hc hlt hin
  by_cases h1 : l' < v ∨ (l' = v ∧ c' < c)
  · exact h i hi l' c' hl hc h1 (hsub i hi _ hin)
  · obtain rfl : l' = v := by omega
    by_cases h2 : c' = q
    · subst h2
      exact absurd hin (hq i hi)
    · exact absurd (hsub i hi _ hin) (hpass i hi c' (by omega) (by omega))
/-- The three parts together. -/
theorem Loose.of (hB : 0 < B) (hnow : s0.base < now) (h0 : HrOk P B s0)
    (tA : Took P (4 * B + 2) (hslot B) s0 (fun x => x.at_ ≤ now) lA sA) (rA : ∀ i, i < P → sA.inn i = some (4 * B) → now < (sA.tm i).at_)
    (tB : Took P (4 * B + 2) (hslot B) sA (fun x => lev B s0.base x.at_ = 4 ∧ x.at_ ≤ horN B now) lB sB) (kB : ∀ i, i < P → sB.inn i = some (4 * B + 1) → horN B now < (sB.tm i).at_)
    (tC : Took P (4 * B + 2) (hslot B) sB (fun x => ∃ l : Nat, l < 4 ∧ lev B s0.base x.at_ = l ∧ floorN B x.at_ l ≤ now) lC s) (hs : HrOk P B s) (hg : Begd P B s0.base now 4 0 s) : Loose P B s0 now lA lB lC s := by
  have htm : s.tm = s0.tm := tC.tm.trans (tB.tm.trans tA.tm)
  refine ⟨hs, htm, tC.base.trans (tB.base.trans tA.base), ?_, fun i hi j h => tA.sub i hi j (tB.sub i hi j (tC.sub i hi j h)), tA.due, fun x hx => (tB.due x hx).1, fun x hx => (tB.due x hx).2, tC.due, ?_, ?_, hg.all⟩
  · refine List.Perm.trans ?_ tA.perm
    rw [List.append_assoc, List.append_assoc]
    refine List.Perm.append_left lA ?_
    exact (List.Perm.append_left lB tC.perm).trans tB.perm
  · intro i hi hin
    have h1 := tB.sub i hi _ (tC.sub i hi _ hin)
    have h2 := rA i hi h1
    have h3 := h0.ok.lies i hi _ (tA.sub i hi _ h1)
    have h4 := hslot_inv_ready hB h3
    rw [tA.tm] at h2
    omega
  · intro i hi hin
    have := kB i hi (tC.sub i hi _ hin)
    rw [tC.tm]
    exact this
end
/-- Where among those kept a timer is put: behind all that are not behind it. -/
theorem kept_ins {tm : Nat → Timer} {l1 l2 : List Nat} {i : Nat} {t : Timer} (hp : (l1 ++ l2).Pairwise fun a b => (tm b).lt (tm a) = false) (hi : i ∉ l1 ++ l2) (h1 : ∀ a, l1.getLast? = some a → t.lt (tm a) = false) (h2 : ∀ b ∈ l2, t.lt (tm b) = true) :
    (l1 ++ i :: l2).Pairwise fun a b => (updT tm i t b).lt (updT tm i t a) = false := by
  have hp' := List.pairwise_append.1 hp
  have hne1 : ∀ a ∈ l1, a ≠ i := fun a ha e => hi (by subst e; exact List.mem_append_left _ ha)
  have hne2 : ∀ a ∈ l2, a ≠ i := fun a ha e => hi (by subst e; exact List.mem_append_right _ ha)
  have hle : ∀ a ∈ l1, t.lt (tm a) = false := by
    intro a ha
    rcases List.eq_nil_or_concat l1 with e | ⟨r, z, e0⟩
    · rw [e] at ha; simp at ha
    · rw [List.concat_eq_append] at e0
      subst e0
      have hz := h1 z (by simp)
      rcases List.mem_append.1 ha with hr | hr
      · have := (List.pairwise_append.1 hp'.1).2.2 a hr z (by simp)
        exact Timer.le_trans this hz
      · have : a = z := by simpa using hr
        rw [this]
        exact hz
  refine List.pairwise_append.2 ⟨?_, List.pairwise_cons.2 ⟨?_, ?_⟩, ?_⟩
  · refine hp'.1.imp_of_mem fun {a b} ha hb h => ?_
    rw [updT_ne _ _ (hne1 a ha), updT_ne _ _ (hne1 b hb)]
    exact h
  · intro b hb
    rw [updT_at, updT_ne _ _ (hne2 b hb)]
    exact Timer.lt_asymm (h2 b hb)
  · refine hp'.2.1.imp_of_mem fun {a b} ha hb h => ?_
    rw [updT_ne _ _ (hne2 a ha), updT_ne _ _ (hne2 b hb)]
    exact h
  · intro a ha b hb
    rw [updT_ne _ _ (hne1 a ha)]
    rcases List.mem_cons.1 hb with rfl | hb
    · rw [updT_at]
      exact hle a ha
    · rw [updT_ne _ _ (hne2 b hb)]
      exact hp'.2.2 a ha b hb
end Go.Proofs.YtckkfbepclogcaaGreatDoor
namespace Go.Proofs.YtckkfbepclogcaaGreatDoor
open Go.RowKit
theorem pw_two (b : Nat) : ∀ l : Nat, pw ((2 ^ b : Nat) : Int) l = ((2 ^ (b * l) : Nat) : Int)
  | 0 => by simp [pw]
  | l + 1 => by
    show pw ((2 ^ b : Nat) : Int) l * ((2 ^ b : Nat) : Int) = _
    rw [pw_two b l, Nat.mul_add, Nat.pow_add, Nat.mul_one, Int.natCast_mul]
theorem div_pw (b l x : Nat) : (x : Int) / pw ((2 ^ b : Nat) : Int) l = ((x / 2 ^ (b * l) : Nat) : Int) := by rw [pw_two]; rfl
theorem pow_cast (s : Nat) : (2 : Int) ^ s = ((2 ^ s : Nat) : Int) := by simp
theorem shr_nat (x s : Nat) : (x : Int) / 2 ^ s = ((x / 2 ^ s : Nat) : Int) := by rw [pow_cast]; rfl
theorem xor_shr (x y s : Nat) (hx : x < 18446744073709551616) (hy : y < 18446744073709551616) : (bits BinOp.xor IntKind.u64 (x : Int) (y : Int) / 2 ^ s == 0) = decide (x / 2 ^ s = y / 2 ^ s) := by
  rw [u64_xor_nat _ _ hx hy, shr_nat]
  have h : (x ^^^ y) / 2 ^ s = x / 2 ^ s ^^^ y / 2 ^ s := by
    rw [← Nat.shiftRight_eq_div_pow, ← Nat.shiftRight_eq_div_pow, ← Nat.shiftRight_eq_div_pow, Nat.shiftRight_xor_distrib]
  rw [h]
  by_cases e : x / 2 ^ s = y / 2 ^ s
  · rw [e, Nat.xor_self, decide_eq_true rfl]
    rfl
  · rw [decide_eq_false e, beq_eq_false_iff_ne]
    intro hz
    apply e
    have hz' : x / 2 ^ s ^^^ y / 2 ^ s = 0 := by omega
    have h3 : (x / 2 ^ s ^^^ y / 2 ^ s) ^^^ y / 2 ^ s = y / 2 ^ s := by rw [hz', Nat.zero_xor]
    rwa [Nat.xor_assoc, Nat.xor_self, Nat.xor_zero] at h3
theorem mask_wrap (b : Nat) (h : b ≤ 63) : IntKind.u64.wrap (IntKind.u64.wrap (2 ^ b) - 1) = ((2 ^ b - 1 : Nat) : Int) := by
  have h1 : 2 ^ b < 18446744073709551616 := by
    have := Nat.pow_lt_pow_right (a := 2) (by omega) (show b < 64 by omega)
    simpa using this
  have h0 : 0 < 2 ^ b := Nat.two_pow_pos b
  have e1 : IntKind.u64.wrap ((2 ^ b : Nat) : Int) = ((2 ^ b : Nat) : Int) := IntWalk.u64_in _ (by omega)
  rw [pow_cast, e1, IntWalk.u64_in _ (by omega)]
  omega
theorem and_mask (x b : Nat) (hx : x < 18446744073709551616) (h : b ≤ 63) : bits BinOp.and IntKind.u64 (x : Int) ((2 ^ b - 1 : Nat) : Int) = ((x % 2 ^ b : Nat) : Int) := by
  have h1 : 2 ^ b < 18446744073709551616 := by
    have := Nat.pow_lt_pow_right (a := 2) (by omega) (show b < 64 by omega)
    simpa using this
  rw [u64_and_nat _ _ hx (by omega), Nat.and_two_pow_sub_one_eq_mod]
theorem or_low (x y n : Nat) (hy : y < 2 ^ n) : x * 2 ^ n ||| y = x * 2 ^ n + y := by
  rw [← Nat.shiftLeft_eq, Nat.shiftLeft_add_eq_or_of_lt hy]
theorem or_mask (x n : Nat) : x ||| (2 ^ n - 1) = x / 2 ^ n * 2 ^ n + (2 ^ n - 1) := by
  rw [← or_low _ _ n (by have := Nat.two_pow_pos n; omega)]
  refine Nat.eq_of_testBit_eq fun i => ?_
  rw [Nat.testBit_or, Nat.testBit_or, Nat.testBit_two_pow_sub_one]
  by_cases hi : i < n
  · simp [hi]
  · rw [decide_eq_false hi, Bool.or_false, Bool.or_false, ← Nat.shiftLeft_eq, ← Nat.shiftRight_eq_div_pow, Nat.testBit_shiftLeft, Nat.testBit_shiftRight, decide_eq_true (show i ≥ n by omega), Bool.true_and]
    congr 1
    omega
theorem dig_nat (b x l : Nat) : dig ((2 ^ b : Nat) : Int) x l = ((x / 2 ^ (b * l) % 2 ^ b : Nat) : Int) := by
  unfold dig
  rw [div_pw]
  rfl
theorem begN_nat (b x l s : Nat) : begN (2 ^ b) x l s = ((x / 2 ^ (b * (l + 1)) * 2 ^ (b * (l + 1)) + s * 2 ^ (b * l) : Nat) : Int) := by
  unfold begN
  rw [div_pw, pw_two, pw_two]
  simp
theorem horN_nat (b x : Nat) : horN ((2 ^ b : Nat) : Int) x = ((x / 2 ^ (b * 4) * 2 ^ (b * 4) + (2 ^ (b * 4) - 1) : Nat) : Int) := by
  unfold horN
  rw [div_pw, pw_two]
  have := Nat.two_pow_pos (b * 4)
  omega
/-- The level's loop: which digits are the same. -/
theorem lev_found (b x y k : Nat) (hlt : x < y) (hk : k < 4) (h : ∀ l, l < k → x / 2 ^ (b * (l + 1)) ≠ y / 2 ^ (b * (l + 1))) (he : x / 2 ^ (b * (k + 1)) = y / 2 ^ (b * (k + 1))) : lev ((2 ^ b : Nat) : Int) x y = k := by
  have hB : (0 : Int) < ((2 ^ b : Nat) : Int) := by have := Nat.two_pow_pos b; omega
  refine (lev_iff hB k hk).2 ⟨by omega, by rw [div_pw, div_pw, he], ?_⟩
  rw [div_pw, div_pw]
  intro e
  have e' : x / 2 ^ (b * k) = y / 2 ^ (b * k) := by omega
  cases k with
  | zero => simp at e'; omega
  | succ l => exact h l (by omega) e'
theorem lev_none (b x y : Nat) (hlt : x < y) (h : ∀ l, l < 4 → x / 2 ^ (b * (l + 1)) ≠ y / 2 ^ (b * (l + 1))) : lev ((2 ^ b : Nat) : Int) x y = 4 := by
  have hB : (0 : Int) < ((2 ^ b : Nat) : Int) := by have := Nat.two_pow_pos b; omega
  refine (lev_four hB).2 ⟨by omega, ?_⟩
  rw [div_pw, div_pw]
  intro e
  exact h 3 (by omega) (Int.ofNat_inj.1 e)
end Go.Proofs.YtckkfbepclogcaaGreatDoor
namespace Go.Proofs.YtckkfbepclogcaaGreatDoor
open Go.RowKit
theorem dwithin_any (x lo hi y : Int) (w : World) (h : min (max x lo) hi = y) :
    Calls Tryz.prog 106 #[.int .i64 x, .int .i64 lo, .int .i64 hi] w fun e w' => e = .returned (.int .i64 y) ∧ w = w' := by
  by_cases h1 : x < lo
  · by_cases h2 : lo ≤ hi
    · obtain rfl : y = lo := by omega
      go_enter Tryz.func106, Tryz.ntmps106
      go_wp2
      go_ret
      exact ⟨rfl, rfl⟩
    · obtain rfl : y = hi := by omega
      go_enter Tryz.func106, Tryz.ntmps106
      go_wp2
      go_ret
      exact ⟨rfl, rfl⟩
  · by_cases h2 : x ≤ hi
    · obtain rfl : y = x := by omega
      go_enter Tryz.func106, Tryz.ntmps106
      go_wp2
      go_ret
      exact ⟨rfl, rfl⟩
    · obtain rfl : y = hi := by omega
      go_enter Tryz.func106, Tryz.ntmps106
      go_wp2
      go_ret
      exact ⟨rfl, rfl⟩
theorem dof_any (b : Nat) (h : 1 ≤ b ∧ b ≤ 6) (w : World) :
    Calls Tryz.prog 88 #[.int .i64 b] w fun e w' => e = .returned (.int .u64 b) ∧ w = w' := by
  have hx := dwithin_any b 1 6 b w (by omega)
  have e1 : IntKind.u64.wrap (b : Int) = b := IntWalk.u64_in _ (by omega)
  go_enter Tryz.func88, Tryz.ntmps88
  go_wp2_with fail
  refine hx.mono ?_
  rintro e w1 ⟨rfl, rfl⟩
  go_wp2_with fail
  go_ret
  exact ⟨rfl, rfl⟩
theorem dshift_any (b l s : Nat) (h : b ≤ 6) (hl : l ≤ 4) (hs : b * l = s) (w : World) :
    Calls Tryz.prog 89 #[.int .u64 b, .int .i64 l] w fun e w' => e = .returned (.int .u64 s) ∧ w = w' := by
  have hm : b * l ≤ 6 * 4 := Nat.mul_le_mul h hl
  have e1 : IntKind.u64.wrap (l : Int) = l := IntWalk.u64_in _ (by omega)
  have e2 : IntKind.u64.wrap ((b : Int) * l) = (s : Int) := by rw [← hs, ← Int.natCast_mul]; exact IntWalk.u64_in _ (by omega)
  clear hs hm
  go_enter Tryz.func89, Tryz.ntmps89
  go_wp2_with fail
  go_ret
  exact ⟨rfl, rfl⟩
theorem dmask_any (b : Nat) (h : b ≤ 6) (w : World) :
    Calls Tryz.prog 107 #[.int .u64 b] w fun e w' => e = .returned (.int .u64 ((2 ^ b - 1 : Nat))) ∧ w = w' := by
  have H := Lib.hid (mask_wrap b (by omega))
  go_enter Tryz.func107, Tryz.ntmps107
  go_wp2_with fail
  go_ret
  exact ⟨by rw [← H.out]; rfl, rfl⟩
set_option maxRecDepth 100000 in
theorem dlevel_any (b B : Nat) (hB : 2 ^ b = B) (h : 1 ≤ b ∧ b ≤ 6) (x y : Nat) (hx : x < 18446744073709551616) (hy : y < 18446744073709551616) (w : World) :
    Calls Tryz.prog 63 #[.int .u64 x, .int .u64 y, .int .i64 b] w fun e w' => e = .returned (.int .i64 (lev (B : Int) x y)) ∧ w = w' := by
  have ho := dof_any b h
  have hs := fun l s hl hq w => dshift_any b l s h.2 hl hq w
  by_cases hle : y ≤ x
  · have hle' : (y : Int) ≤ x := by omega
    have HL := Lib.hid (show lev (B : Int) x y = -1 from lev_neg.2 (by omega))
    clear hB
    generalize lev (B : Int) x y = L at *
    go_enter Tryz.func63, Tryz.ntmps63
    go_wp2_with fail
    go_ret
    exact ⟨by rw [HL.out]; rfl, rfl⟩
  · have hle' : ¬ (y : Int) ≤ x := by omega
    have HF : Hid (∀ k, k < 4 → (∀ l, l < k → x / 2 ^ (b * (l + 1)) ≠ y / 2 ^ (b * (l + 1))) → x / 2 ^ (b * (k + 1)) = y / 2 ^ (b * (k + 1)) → lev (B : Int) x y = k) := Lib.hid fun k hk h1 h2 => by rw [← hB]; exact lev_found b x y k (by omega) hk h1 h2
    have HG : Hid ((∀ l, l < 4 → x / 2 ^ (b * (l + 1)) ≠ y / 2 ^ (b * (l + 1))) → lev (B : Int) x y = 4) := Lib.hid fun h1 => by rw [← hB]; exact lev_none b x y (by omega) h1
    clear hB
    generalize lev (B : Int) x y = L at *
    go_enter Tryz.func63, Tryz.ntmps63
    go_wp2_with fail
    refine (ho _).mono ?_
    rintro e w1 ⟨rfl, rfl⟩
    go_wp2_with fail
    go_loop [14] (fun i => ∃ k : Nat, k ≤ 4 ∧ i = .int .i64 k ∧ Hid (∀ l, l < k → x / 2 ^ (b * (l + 1)) ≠ y / 2 ^ (b * (l + 1)))) (fun i => 4 - (intOf i).toNat)
    case atStart => exact ⟨0, by omega, rfl, Lib.hid fun l hl => by omega⟩
    case round =>
      obtain ⟨k, hk, rfl, HNE⟩ := hrel
      by_cases hlt : k < 4
      · obtain ⟨s, hsq⟩ : ∃ s, b * (k + 1) = s := ⟨_, rfl⟩
        have hs24 : s ≤ 24 := by rw [← hsq]; exact Nat.le_trans (Nat.mul_le_mul h.2 (show k + 1 ≤ 4 by omega)) (by decide)
        have HX := Lib.hid (xor_shr x y s hx hy)
        have HS := Lib.hid hsq
        have hsk := hs (k + 1) s (by omega) hsq
        clear hsq hs ho
        by_cases he : x / 2 ^ s = y / 2 ^ s
        · have HL := Lib.hid (HF.out k hlt HNE.out (by rw [HS.out]; exact he))
          have HE := HX.out
          rw [decide_eq_true he] at HE
          clear he
          go_wp2_with fail
          refine (hsk _).mono ?_
          rintro e w1 ⟨rfl, rfl⟩
          go_wp2_with fail
          go_ret
          exact ⟨by rw [HL.out]; rfl, rfl⟩
        · have HN : Hid (∀ l, l < k + 1 → x / 2 ^ (b * (l + 1)) ≠ y / 2 ^ (b * (l + 1))) := Lib.hid fun l hl => by
            by_cases hl2 : l < k
            · exact HNE.out l hl2
            · obtain rfl : l = k := by omega
              rw [HS.out]
              exact he
          have HE := HX.out
          rw [decide_eq_false he] at HE
          clear he HNE
          go_wp2_with fail
          refine (hsk _).mono ?_
          rintro e w1 ⟨rfl, rfl⟩
          go_wp2_with fail
          go_round
          case rel => exact ⟨k + 1, by omega, by go_num, HN⟩
          case measure => simp [intOf]; omega
      · obtain rfl : k = 4 := by omega
        have HL := Lib.hid (HG.out HNE.out)
        clear HNE
        go_wp2_with fail
        go_ret
        exact ⟨by rw [HL.out]; rfl, rfl⟩
theorem ddigit_any (b B : Nat) (hB : 2 ^ b = B) (h : 1 ≤ b ∧ b ≤ 6) (x l : Nat) (hx : x < 18446744073709551616) (hl : l < 4) (w : World) :
    Calls Tryz.prog 90 #[.int .u64 x, .int .i64 l, .int .i64 b] w fun e w' => e = .returned (.int .i64 (dig (B : Int) x l)) ∧ w = w' := by
  have ho := dof_any b h
  have hi := fun w => dwithin_any l 0 3 l w (by omega)
  obtain ⟨s, hsq⟩ : ∃ s, b * l = s := ⟨_, rfl⟩
  have hs24 : s ≤ 24 := by rw [← hsq]; exact Nat.le_trans (Nat.mul_le_mul h.2 (show l ≤ 3 by omega)) (by omega)
  have hsh := fun w => dshift_any b l s h.2 (by omega) hsq w
  have hma := fun w => dmask_any b h.2 w
  have hd : x / 2 ^ s < 18446744073709551616 := Nat.lt_of_le_of_lt (Nat.div_le_self _ _) hx
  have hA := and_mask (x / 2 ^ s) b hd (by omega)
  rw [← shr_nat] at hA
  have hmod : x / 2 ^ s % 2 ^ b < 64 := Nat.lt_of_lt_of_le (Nat.mod_lt _ (Nat.two_pow_pos b)) (Nat.pow_le_pow_right (n := 2) (by omega) h.2)
  have hD : dig (B : Int) x l = ((x / 2 ^ s % 2 ^ b : Nat) : Int) := by rw [← hB, dig_nat, hsq]
  rw [hD]
  generalize x / 2 ^ s % 2 ^ b = d at *
  generalize 2 ^ b - 1 = m at *
  clear hsq hd hB hD
  go_enter Tryz.func90, Tryz.ntmps90
  go_wp2_with fail
  refine (ho _).mono ?_
  rintro e w1 ⟨rfl, rfl⟩
  go_wp2_with fail
  refine (hi _).mono ?_
  rintro e w1 ⟨rfl, rfl⟩
  go_wp2_with fail
  refine (hsh _).mono ?_
  rintro e w1 ⟨rfl, rfl⟩
  go_wp2_with fail
  refine (hma _).mono ?_
  rintro e w1 ⟨rfl, rfl⟩
  go_wp2_with fail
  go_ret
  exact ⟨rfl, rfl⟩
/-- The slot told for a tick: of those past, and of those that no level sees, 0. -/
def slotI (B base a : Int) : Int := if lev B base a < 0 ∨ 4 ≤ lev B base a then 0 else dig B a (lev B base a).toNat
theorem dslot_any (b B : Nat) (hB : 2 ^ b = B) (h : 1 ≤ b ∧ b ≤ 6) (x y : Nat) (hx : x < 18446744073709551616) (hy : y < 18446744073709551616) (w : World) :
    Calls Tryz.prog 64 #[.int .u64 x, .int .u64 y, .int .i64 b] w fun e w' => e = .returned (.int .i64 (slotI (B : Int) x y)) ∧ w = w' := by
  have hl := dlevel_any b B hB h x y hx hy
  have hd := fun l h4 => ddigit_any b B hB h y l hy h4
  unfold slotI
  generalize lev (B : Int) x y = L at *
  by_cases h0 : L < 0
  · rw [if_pos (.inl h0)]
    go_enter Tryz.func64, Tryz.ntmps64
    go_wp2_with fail
    refine (hl _).mono ?_
    rintro e w1 ⟨rfl, rfl⟩
    go_wp2_with fail
    go_ret
    exact ⟨rfl, rfl⟩
  · by_cases h4 : 4 ≤ L
    · rw [if_pos (.inr h4)]
      go_enter Tryz.func64, Tryz.ntmps64
      go_wp2_with fail
      refine (hl _).mono ?_
      rintro e w1 ⟨rfl, rfl⟩
      go_wp2_with fail
      go_ret
      exact ⟨rfl, rfl⟩
    · rw [if_neg (by omega)]
      obtain ⟨k, rfl⟩ := Int.eq_ofNat_of_zero_le (show 0 ≤ L by omega)
      rw [Int.toNat_natCast]
      have hdk := hd k (by omega)
      generalize dig (B : Int) y k = D at *
      clear hd
      go_enter Tryz.func64, Tryz.ntmps64
      go_wp2_with fail
      refine (hl _).mono ?_
      rintro e w1 ⟨rfl, rfl⟩
      go_wp2_with fail
      refine (hdk _).mono ?_
      rintro e w1 ⟨rfl, rfl⟩
      go_wp2_with fail
      go_ret
      exact ⟨rfl, rfl⟩
theorem dhorizon_any (b B : Nat) (hB : 2 ^ b = B) (h : 1 ≤ b ∧ b ≤ 6) (x : Nat) (hx : x < 18446744073709551616) (w : World) :
    Calls Tryz.prog 82 #[.int .u64 x, .int .i64 b] w fun e w' => e = .returned (.int .u64 (horN (B : Int) x)) ∧ w = w' := by
  have ho := dof_any b h
  obtain ⟨s, hsq⟩ : ∃ s, b * 4 = s := ⟨_, rfl⟩
  have hs24 : s ≤ 24 := by omega
  have hsh := fun w => dshift_any b 4 s h.2 (by omega) hsq w
  have hp : 2 ^ s ≤ 16777216 := Nat.pow_le_pow_right (n := 2) (by omega) hs24
  have hp0 := Nat.two_pow_pos s
  have hM := mask_wrap s (by omega)
  have hO := u64_or_nat x (2 ^ s - 1) hx (by omega)
  rw [or_mask] at hO
  have hH : horN (B : Int) x = ((x / 2 ^ s * 2 ^ s + (2 ^ s - 1) : Nat) : Int) := by rw [← hB, horN_nat, hsq]
  rw [hH]
  generalize x / 2 ^ s * 2 ^ s + (2 ^ s - 1) = d at *
  have hM2 : Hid (IntKind.u64.wrap (IntKind.u64.wrap (2 ^ s) - 1) = ((2 ^ s - 1 : Nat) : Int)) := Lib.hid hM
  generalize hm : 2 ^ s - 1 = m at *
  clear hsq hB hH hp hp0 hm
  go_enter Tryz.func82, Tryz.ntmps82
  go_wp2_with fail
  refine (ho _).mono ?_
  rintro e w1 ⟨rfl, rfl⟩
  go_wp2_with fail
  refine (hsh _).mono ?_
  rintro e w1 ⟨rfl, rfl⟩
  go_wp2_with fail
  go_ret
  exact ⟨rfl, rfl⟩
theorem dbegin_any (b B : Nat) (hB : 2 ^ b = B) (h : 1 ≤ b ∧ b ≤ 6) (x l sl : Nat) (hx : x < 18446744073709551616) (hl : l < 4) (hsl : sl < B) (w : World) :
    Calls Tryz.prog 104 #[.int .u64 x, .int .i64 l, .int .i64 sl, .int .i64 b] w fun e w' => e = .returned (.int .u64 (begN B x l sl)) ∧ w = w' := by
  have ho := dof_any b h
  have hi := fun w => dwithin_any l 0 3 l w (by omega)
  have hB64 : B ≤ 64 := by rw [← hB]; exact Nat.pow_le_pow_right (n := 2) (by omega) h.2
  have hj := fun w => dwithin_any sl 0 ((B - 1 : Nat) : Int) sl w (by omega)
  obtain ⟨s0, hs0⟩ : ∃ s, b * l = s := ⟨_, rfl⟩
  obtain ⟨s1, hs1⟩ : ∃ s, b * (l + 1) = s := ⟨_, rfl⟩
  have h01 : s1 = s0 + b := by rw [← hs1, ← hs0, Nat.mul_add, Nat.mul_one]
  have hs24 : s1 ≤ 24 := by rw [← hs1]; exact Nat.le_trans (Nat.mul_le_mul h.2 (show l + 1 ≤ 4 by omega)) (by omega)
  have hsh0 := fun w => dshift_any b l s0 h.2 (by omega) hs0 w
  have hsh1 := fun w => dshift_any b (l + 1) s1 h.2 (by omega) hs1 w
  have hma := fun w => dmask_any b h.2 w
  rw [hB] at hma
  have hp1 : 2 ^ s1 ≤ 16777216 := Nat.pow_le_pow_right (n := 2) (by omega) hs24
  have hr : sl * 2 ^ s0 < 2 ^ s1 := by
    rw [h01, Nat.pow_add, hB, Nat.mul_comm]
    exact Nat.mul_lt_mul_of_pos_left hsl (Nat.two_pow_pos s0)
  have hp : x / 2 ^ s1 * 2 ^ s1 ≤ x := Nat.div_mul_le_self _ _
  have E1 : IntKind.u64.wrap ((x : Int) / 2 ^ s1 * 2 ^ s1) = ((x / 2 ^ s1 * 2 ^ s1 : Nat) : Int) := by
    rw [shr_nat, pow_cast, ← Int.natCast_mul]
    exact IntWalk.u64_in _ (by omega)
  have E2 : IntKind.u64.wrap ((sl : Int) * 2 ^ s0) = ((sl * 2 ^ s0 : Nat) : Int) := by
    rw [pow_cast, ← Int.natCast_mul]
    exact IntWalk.u64_in _ (by omega)
  have E3 := u64_or_nat (x / 2 ^ s1 * 2 ^ s1) (sl * 2 ^ s0) (by omega) (by omega)
  rw [or_low _ _ _ hr] at E3
  have E4 : IntKind.u64.wrap (sl : Int) = sl := IntWalk.u64_in _ (by omega)
  have E5 : IntKind.i64.wrap ((B - 1 : Nat) : Int) = ((B - 1 : Nat) : Int) := IntWalk.i64_in _ (by omega)
  have hD : begN B x l sl = ((x / 2 ^ s1 * 2 ^ s1 + sl * 2 ^ s0 : Nat) : Int) := by rw [← hB, begN_nat, hs0, hs1]
  rw [hD]
  generalize x / 2 ^ s1 * 2 ^ s1 + sl * 2 ^ s0 = d at *
  generalize x / 2 ^ s1 * 2 ^ s1 = p at *
  generalize sl * 2 ^ s0 = r at *
  generalize hm : B - 1 = m at *
  have hm64 : m < 64 := by omega
  have hs0' : s0 ≤ 24 := by omega
  clear hs0 hs1 hB hD hp1 hr hp h01 hm hsl hB64
  go_enter Tryz.func104, Tryz.ntmps104
  go_wp2_with fail
  refine (ho _).mono ?_
  rintro e w1 ⟨rfl, rfl⟩
  go_wp2_with fail
  refine (hi _).mono ?_
  rintro e w1 ⟨rfl, rfl⟩
  go_wp2_with fail
  refine (hma _).mono ?_
  rintro e w1 ⟨rfl, rfl⟩
  go_wp2_with fail
  refine (hj _).mono ?_
  rintro e w1 ⟨rfl, rfl⟩
  go_wp2_with fail
  refine (hsh1 _).mono ?_
  rintro e w1 ⟨rfl, rfl⟩
  go_wp2_with fail
  refine (hsh1 _).mono ?_
  rintro e w1 ⟨rfl, rfl⟩
  go_wp2_with fail
  refine (hsh0 _).mono ?_
  rintro e w1 ⟨rfl, rfl⟩
  go_wp2_with fail
  go_ret
  exact ⟨rfl, rfl⟩
end Go.Proofs.YtckkfbepclogcaaGreatDoor
