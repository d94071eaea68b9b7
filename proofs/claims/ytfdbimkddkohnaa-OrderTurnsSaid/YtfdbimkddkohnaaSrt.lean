/- Order, in plain words: sorted lists of timers. -/
import Derived.Test.YtfdbimkddkohnaaSrtd
namespace Go.Proofs.Ytfdbimkddkohnaa
open Go.RowKit
theorem Timer.le_trans {x y z : Timer} (h : y.lt x = false) (k : z.lt y = false) : z.lt x = false := by
  have h' : ¬ y.lt x = true := by rw [h]; simp
  have k' : ¬ z.lt y = true := by rw [k]; simp
  rw [Timer.lt_iff] at h' k'
  have : ¬ z.lt x = true := by rw [Timer.lt_iff]; omega
  simpa using this
theorem Timer.lt_asymm {x y : Timer} (h : x.lt y = true) : y.lt x = false := by
  rw [Timer.lt_iff] at h
  have : ¬ y.lt x = true := by rw [Timer.lt_iff]; omega
  simpa using this
def Srt (l : List Timer) : Prop := l.Pairwise fun x y => y.lt x = false
theorem Srt.nil : Srt [] := List.Pairwise.nil
theorem srtB_iff (l : List Timer) : srtB l = true ↔ Srt l := by
  induction l with
  | nil => simp [srtB, Srt]
  | cons x l ih =>
    cases l with
    | nil => simp [srtB, Srt]
    | cons y l =>
      unfold Srt at ih ⊢
      rw [List.pairwise_cons, ← ih]
      simp only [srtB, Bool.and_eq_true, Bool.not_eq_true']
      constructor
      · intro h
        refine ⟨?_, h.2⟩
        intro z hz
        rcases List.mem_cons.1 hz with rfl | hz
        · exact h.1
        · have h2 := ih.1 h.2
          exact Timer.le_trans h.1 ((List.pairwise_cons.1 h2).1 z hz)
      · exact fun h => ⟨h.1 y (by simp), h.2⟩
theorem srtB_false (l : List Timer) : srtB l = false ↔ ¬ Srt l := by
  rw [← srtB_iff]
  simp
theorem nBefore_cons (x : Timer) (l : List Timer) (t : Timer) : nBefore (x :: l) t = nBefore l t + if x.lt t then 1 else 0 := by simp [nBefore, List.countP_cons]
theorem Srt.split {l : List Timer} (h : Srt l) (t : Timer) : (∀ x ∈ l.take (nBefore l t), x.lt t = true) ∧ (∀ x ∈ l.drop (nBefore l t), x.lt t = false) := by
  induction l with
  | nil => simp
  | cons x l ih =>
    have hx := (List.pairwise_cons.1 h).1
    have ih' := ih (List.pairwise_cons.1 h).2
    rw [nBefore_cons]
    cases e : x.lt t
    · have hall : ∀ y ∈ l, y.lt t = false := fun y hy => Timer.le_trans e (hx y hy)
      have h0 : nBefore l t = 0 := List.countP_eq_zero.2 fun y hy => by rw [hall y hy]; simp
      rw [h0]
      refine ⟨by simp, ?_⟩
      simp only [Bool.false_eq_true, if_false, Nat.add_zero, List.drop_zero]
      intro y hy
      rcases List.mem_cons.1 hy with rfl | hy
      · exact e
      · exact hall y hy
    · simp only [if_true, List.take_succ_cons, List.drop_succ_cons]
      refine ⟨?_, ih'.2⟩
      intro y hy
      rcases List.mem_cons.1 hy with rfl | hy
      · exact e
      · exact ih'.1 y hy
theorem putL_perm (l : List Timer) (t : Timer) : (putL l t).Perm (t :: l) := by
  unfold putL
  rw [List.append_assoc, List.singleton_append]
  refine List.perm_middle.trans ?_
  rw [List.take_append_drop]
theorem Srt.sub {l m : List Timer} (h : Srt l) (k : m.Sublist l) : Srt m := List.Pairwise.sublist k h
theorem Srt.put {l : List Timer} (h : Srt l) (t : Timer) : Srt (putL l t) := by
  obtain ⟨h1, h2⟩ := h.split t
  have hp := h
  rw [← List.take_append_drop (nBefore l t) l] at hp
  have hp' := List.pairwise_append.1 hp
  unfold putL Srt
  rw [List.append_assoc, List.pairwise_append]
  refine ⟨hp'.1, ?_, ?_⟩
  · rw [List.singleton_append, List.pairwise_cons]
    exact ⟨h2, hp'.2.1⟩
  · intro a ha b hb
    rcases List.mem_cons.1 hb with rfl | hb
    · exact Timer.lt_asymm (h1 a ha)
    · exact hp'.2.2 a ha b hb
theorem sortL_keep (l : List Timer) : Srt (sortL l) ∧ (sortL l).Perm l := by
  have key : ∀ (l m : List Timer), Srt m → Srt (l.foldl putL m) ∧ (l.foldl putL m).Perm (m ++ l) := by
    intro l
    induction l with
    | nil => intro m h; exact ⟨h, by simp⟩
    | cons x l ih =>
      intro m h
      obtain ⟨i1, i2⟩ := ih _ (h.put x)
      refine ⟨i1, i2.trans ?_⟩
      exact ((putL_perm m x).append_right l).trans List.perm_middle.symm
  simpa [sortL] using key l [] Srt.nil
theorem sortL_srt (l : List Timer) : Srt (sortL l) := (sortL_keep l).1
theorem sortL_perm (l : List Timer) : (sortL l).Perm l := (sortL_keep l).2
theorem Srt.unique {l m : List Timer} (h : Srt l) (k : Srt m) (p : l.Perm m) : l = m :=
  List.Perm.eq_of_pairwise (le := fun x y : Timer => y.lt x = false) (fun _ _ _ _ h1 h2 => Timer.lt_total h2 h1) h k p
theorem Srt.sort_of {l m : List Timer} (h : Srt m) (p : m.Perm l) : m = sortL l := h.unique (sortL_srt l) (p.trans (sortL_perm l).symm)
theorem Srt.sort_self {l : List Timer} (h : Srt l) : sortL l = l := (h.sort_of (List.Perm.refl _)).symm
theorem sortL_congr {l m : List Timer} (p : l.Perm m) : sortL l = sortL m := (sortL_srt l).unique (sortL_srt m) ((sortL_perm l).trans (p.trans (sortL_perm m).symm))
theorem Srt.put_sort {l : List Timer} (h : Srt l) (t : Timer) : putL l t = sortL (t :: l) := (h.put t).sort_of (putL_perm l t)
theorem merge_sortL (l : List Timer) : (l.mergeSort fun x y => !(y.lt x)) = sortL l := by
  refine Srt.sort_of ?_ (List.mergeSort_perm _ _)
  have hp := List.pairwise_mergeSort (le := fun x y : Timer => !(y.lt x)) ?_ ?_ l
  · unfold Srt
    refine hp.imp ?_
    intro a b h
    simpa using h
  · intro a b c h k
    simp only [Bool.not_eq_true'] at h k ⊢
    exact Timer.le_trans h k
  · intro a b
    cases h : b.lt a
    · rfl
    · simp [Timer.lt_asymm h]
end Go.Proofs.Ytfdbimkddkohnaa
