/- The law: the texts DueTwo, laid end to end by a program. -/
import Derived.Test.YtckkfbepclogcaaDoorPk3
namespace Go.Proofs.YtckkfbepclogcaaDoor
theorem due_rest (m : List Timer) {a b : Int} (h : a ≤ b) : dueL (dueL m a false) b false = dueL m b false := by
  unfold dueL
  rw [List.filter_filter]
  refine List.filter_congr fun x _ => ?_
  by_cases h1 : x.at_ ≤ a
  · have : x.at_ ≤ b := by omega
    simp [h1, this]
  · by_cases h2 : x.at_ ≤ b <;> simp [h1, h2]
theorem due_perm (m : List Timer) (a : Int) : (dueL m a true ++ dueL m a false).Perm m := by
  have h := List.filter_append_perm (fun x : Timer => decide (x.at_ ≤ a)) m
  unfold dueL
  rw [show (fun x : Timer => decide (x.at_ ≤ a) == true) = fun x => decide (x.at_ ≤ a) from funext fun x => by simp, show (fun x : Timer => decide (x.at_ ≤ a) == false) = fun x => !decide (x.at_ ≤ a) from funext fun x => by simp]
  exact h
theorem due_mem {m : List Timer} {a : Int} {x : Timer} (h : x ∈ dueL m a true) : x ∈ m ∧ x.at_ ≤ a := by
  have := List.mem_filter.1 h
  exact ⟨this.1, by simpa using this.2⟩
theorem rest_mem {m : List Timer} {a : Int} {x : Timer} (h : x ∈ dueL m a false) : x ∈ m ∧ a < x.at_ := by
  have := List.mem_filter.1 h
  exact ⟨this.1, by simpa using this.2⟩
theorem due_two {m : List Timer} (hs : Srt m) {a b : Int} (h : a ≤ b) : dueL m a true ++ dueL (dueL m a false) b true = dueL m b true := by
  have s1 : Srt (dueL m a true) := hs.sub List.filter_sublist
  have s2 : Srt (dueL (dueL m a false) b true) := (hs.sub List.filter_sublist).sub List.filter_sublist
  refine Srt.unique ?_ (hs.sub List.filter_sublist) ?_
  · refine List.pairwise_append.2 ⟨s1, s2, ?_⟩
    intro x hx y hy
    have h1 := (due_mem hx).2
    have h2 := (rest_mem (due_mem hy).1).2
    cases e : y.lt x with
    | false => rfl
    | true =>
      rw [Timer.lt_iff] at e
      omega
  · have p := (due_perm m a).filter fun x => decide (x.at_ ≤ b) == true
    rw [List.filter_append, show (dueL m a true).filter (fun x => decide (x.at_ ≤ b) == true) = dueL m a true from List.filter_eq_self.2 fun x hx => by have := (due_mem hx).2; simp; omega] at p
    exact p
end Go.Proofs.YtckkfbepclogcaaDoor
