/- The document's queue: Get, Min, without. -/
import Derived.Test.YtfdbimkddkohnaaTimP
namespace Go.Proofs.Ytfdbimkddkohnaa
open Go.RowKit

/-- The slice v holds the timers l. -/
def LAt (w : World) (v : Value) (l : List Timer) : Prop := ∃ A c, v = .slice A l.length c ∧ TmAt w w.heap.size A l ∧ l.length ≤ c ∧ c ≤ maxLen ∧ (A = none → c = 0) ∧ (∀ g, A.map (·.block) = some g → g < w.heap.size)
theorem OwnT.lat {w : World} {base : Nat} {v : Value} {l : List Timer} (h : OwnT w base v l) : LAt w v l := by
  have h' := h
  obtain ⟨A, c, rfl, h1, h2, h3, h4⟩ := h.at
  refine ⟨A, c, rfl, h1, h2, h3, ?_, fun g hg => (h4 g hg).2⟩
  intro hA
  subst hA
  rcases h'.2 with ⟨hv, _⟩ | ⟨g, cap, cur, hv, _⟩
  · injection hv
  · injection hv with hv
    cases hv
theorem LAt.on {w w' : World} {v : Value} {l : List Timer} (h : LAt w v l) (k : Below w.heap.size w w') : LAt w' v l := by
  obtain ⟨A, c, rfl, h1, h2, h3, h4, h5⟩ := h
  exact ⟨A, c, rfl, h1.on k, h2, h3, h4, fun g hg => Nat.lt_of_lt_of_le (h5 g hg) k.size⟩
theorem LAt.nil (w : World) : LAt w (.slice none 0 0) [] := ⟨none, 0, rfl, TmAt.nil, Nat.le_refl _, by simp [maxLen], fun _ => rfl, by simp⟩
def qV (P : Int) (v : Value) : Value := .agg #[.int .i64 P, v]
def getL (l : List Timer) (p : Int) : Option Timer := l.find? fun x => decide (x.place = p)
def withoutL (l : List Timer) (p : Int) : List Timer := l.filter fun x => decide (x.place ≠ p)
def pairT (o : Option Timer) : Value := .tuple #[(o.getD Timer.zero).val, .bool o.isSome]
set_option maxRecDepth 100000 in
set_option maxHeartbeats 1000000 in
theorem rget_any (P : Int) (v : Value) (l : List Timer) (p : Int) (w : World) (h : LAt w v l) (_hl : l.length ≤ 100000) :
    Calls Try.prog 21 #[qV P v, .int .i64 p] w fun e w' => e = .returned (pairT (getL l p)) ∧ Below w.heap.size w w' := by
  obtain ⟨A, c, rfl, hT, hc, hm, _⟩ := h
  unfold maxLen at hm
  have hb0 : Below w.heap.size w ((w.alloc (.cells #[.int .i64 P, .slice A l.length c] 35)).alloc (.cells #[.int .u64 0, .int .u64 0, .int .i64 0] 25)) := ((Below.refl _ _).alloc (Nat.le_refl _) _).alloc (by simp) _
  have HB := Lib.hid (show ∀ cs, Below w.heap.size w ((w.alloc (.cells #[.int .i64 P, .slice A l.length c] 35)).alloc (.cells cs 25)) from fun cs => ((Below.refl _ _).alloc (Nat.le_refl _) _).alloc (by simp) _)
  have hT2 := hT.below hb0 (Nat.le_refl _)
  clear hb0
  unfold qV
  go_enter Try.func21, Try.ntmps21
  go_wp2
  go_loop [6] (fun i => ∃ k : Nat, k ≤ l.length ∧ i = .int .i64 k ∧ getL (l.take k) p = none) (fun i => l.length - (intOf i).toNat)
  case atStart => exact ⟨0, Nat.zero_le _, rfl, rfl⟩
  case round =>
    obtain ⟨k, hk, rfl, hn⟩ := hrel
    by_cases hlt : k < l.length
    · obtain ⟨b, o, rfl, hbb, c0, c1, c2⟩ := hT2 k hlt
      have hx : getL l p = (getL (l.take k) p).or (if l[k].place = p then some l[k] else getL (l.drop (k + 1)) p) := by
        conv => lhs; rw [← List.take_append_drop k l, List.drop_eq_getElem_cons hlt]
        unfold getL
        rw [List.find?_append]
        congr 1
        rw [List.find?_cons]
        by_cases hp : l[k].place = p <;> simp [hp]
      have hs : getL (l.take (k + 1)) p = (getL (l.take k) p).or (if l[k].place = p then some l[k] else none) := by
        rw [take_snoc l k hlt]
        unfold getL
        rw [List.find?_append]
        congr 1
        by_cases hp : l[k].place = p <;> simp [hp]
      rw [hn, Option.none_or] at hx hs
      generalize l[k] = x at *
      by_cases hp : x.place = p
      · have hp' : (x.place == p) = true := by simp [hp]
        rw [if_pos hp] at hx
        have HX := Lib.hid hx
        clear hp hx hs hn
        go_wp2
        refine bodyPost_ret (v := pairT (some x)) (by simp [results, Try.results21, go_sem, pairT, Timer.val]) rfl ⟨by rw [HX.out], ?_⟩
        first | exact HB.out _ | exact (((HB.out _).setCell (Nat.le_succ _) _).setCell (Nat.le_succ _) _).setCell (Nat.le_succ _) _
      · have hp' : (x.place == p) = false := by simp [hp]
        rw [if_neg hp] at hs
        have HS := Lib.hid hs
        clear hp hx hs hn
        go_wp2
        go_round
        case rel => exact ⟨k + 1, by omega, by go_num, HS.out⟩
        case measure => simp [intOf]; omega
    · have ht : l.take k = l := List.take_of_length_le (by omega)
      rw [ht] at hn
      have HN := Lib.hid hn
      clear hn ht
      go_wp2
      refine bodyPost_ret (v := pairT none) (by simp [results, Try.results21, go_sem, pairT, Timer.val, Timer.zero]) rfl ⟨by rw [HN.out], ?_⟩
      first | exact HB.out _ | exact (((HB.out _).setCell (Nat.le_succ _) _).setCell (Nat.le_succ _) _).setCell (Nat.le_succ _) _
set_option maxRecDepth 100000 in
set_option maxHeartbeats 1000000 in
theorem rmin_any (P : Int) (v : Value) (l : List Timer) (w : World) (h : LAt w v l) (hl : l.length ≤ 100000) :
    Calls Try.prog 23 #[qV P v] w fun e w' => e = .returned (pairT l.head?) ∧ Below w.heap.size w w' := by
  obtain ⟨A, c, rfl, hT, hc, hm, _⟩ := h
  unfold maxLen at hm
  have hb0 : Below w.heap.size w ((w.alloc (.cells #[.int .i64 P, .slice A l.length c] 35)).alloc (.cells #[.int .u64 0, .int .u64 0, .int .i64 0] 25)) := ((Below.refl _ _).alloc (Nat.le_refl _) _).alloc (by simp) _
  have HB := Lib.hid (show ∀ cs, Below w.heap.size w ((w.alloc (.cells #[.int .i64 P, .slice A l.length c] 35)).alloc (.cells cs 25)) from fun cs => ((Below.refl _ _).alloc (Nat.le_refl _) _).alloc (by simp) _)
  have hT2 := hT.below hb0 (Nat.le_refl _)
  clear hb0
  unfold qV
  cases l with
  | nil =>
    go_enter Try.func23, Try.ntmps23
    go_wp2
    refine bodyPost_ret (v := pairT none) (by simp [results, Try.results23, go_sem, pairT, Timer.val, Timer.zero]) rfl ⟨rfl, ?_⟩
    first | exact HB.out _ | exact (((HB.out _).setCell (Nat.le_succ _) _).setCell (Nat.le_succ _) _).setCell (Nat.le_succ _) _
  | cons x l =>
    obtain ⟨b, o, rfl, hbb, c0, c1, c2⟩ := hT2 0 (by simp)
    simp only [List.getElem_cons_zero, Nat.zero_mul, Nat.add_zero] at c0 c1 c2
    have hne : (((x :: l).length : Int) == 0) = false := by rw [beq_eq_false_iff_ne]; simp only [List.length_cons]; omega
    have hbx : b < w.heap.size := hbb
    have hpos : 0 < (x :: l).length := by simp
    have hp1 : (0 : Int) < ((x :: l).length : Int) := by simp only [List.length_cons]; omega
    generalize hL : (x :: l).length = n at *
    clear hL
    go_enter Try.func23, Try.ntmps23
    go_wp2
    refine bodyPost_ret (v := pairT (some x)) (by simp [results, Try.results23, go_sem, pairT, Timer.val]) rfl ⟨rfl, ?_⟩
    first | exact HB.out _ | exact (((HB.out _).setCell (Nat.le_succ _) _).setCell (Nat.le_succ _) _).setCell (Nat.le_succ _) _
end Go.Proofs.Ytfdbimkddkohnaa
