/- Order: the reference's Sorted and Sort. -/
import Derived.Test.YtfdbimkddkohnaaTimP
import Derived.Test.YtfdbimkddkohnaaRefQ
namespace Go.Proofs.Ytfdbimkddkohnaa
open Go.RowKit
/-- Is none before the one ahead of it? -/
def srtB : List Timer → Bool
  | [] => true
  | [_] => true
  | x :: y :: l => !(y.lt x) && srtB (y :: l)
def sortL (l : List Timer) : List Timer := l.foldl putL []
theorem sortL_snoc (l : List Timer) (x : Timer) : sortL (l ++ [x]) = putL (sortL l) x := by simp [sortL]
theorem putL_length (l : List Timer) (t : Timer) : (putL l t).length = l.length + 1 := by
  have := nBefore_le l t
  simp [putL]
  omega
theorem sortL_length (l : List Timer) : (sortL l).length = l.length := by
  have key : ∀ (l m : List Timer), (l.foldl putL m).length = m.length + l.length := by
    intro l
    induction l with
    | nil => simp
    | cons x l ih => intro m; rw [List.foldl_cons, ih, putL_length]; simp; omega
  simpa [sortL] using key l []
theorem srtB_snoc (l : List Timer) (x y : Timer) : srtB (l ++ [x] ++ [y]) = (srtB (l ++ [x]) && !(y.lt x)) := by
  induction l with
  | nil => simp [srtB]
  | cons z l ih =>
    cases l with
    | nil => simp [srtB]
    | cons u l =>
      simp only [List.cons_append, srtB] at ih ⊢
      rw [ih, Bool.and_assoc]
theorem srtB_take {l : List Timer} {k : Nat} (h : srtB (l.take k) = false) : srtB l = false := by
  have key : ∀ (a b : List Timer), srtB a = false → srtB (a ++ b) = false := by
    intro a
    induction a with
    | nil => intro b h; simp [srtB] at h
    | cons x a ih =>
      intro b h
      cases a with
      | nil => simp [srtB] at h
      | cons y a =>
        simp only [List.cons_append, srtB] at h ⊢ ih
        cases e : y.lt x
        · rw [e] at h
          simp only [Bool.not_false, Bool.true_and] at h ⊢
          exact ih b h
        · rfl
  rw [← List.take_append_drop k l]
  exact key _ _ h
set_option maxRecDepth 100000 in
set_option maxHeartbeats 2000000 in
theorem rsorted_any (A : Option Addr) (l : List Timer) (c : Nat) (w : World) (h : TmAt w w.heap.size A l) (hl : l.length ≤ 1000000) :
    Calls Try.prog 37 #[.slice A l.length c] w fun e w' => e = .returned (.bool (srtB l)) ∧ Below w.heap.size w w' := by
  go_enter Try.func37, Try.ntmps37
  go_wp2
  go_loopw [3, 4] (fun i _ wr => ∃ k : Nat, 1 ≤ k ∧ (k ≤ l.length ∨ k = 1) ∧ i = .int .i64 k ∧ srtB (l.take k) = true ∧ Below w.heap.size w wr) (fun i _ _ => l.length - (intOf i).toNat)
  case atStart =>
    refine ⟨1, Nat.le_refl _, .inr rfl, by first | rfl | go_num, ?_, Below.refl _ _⟩
    cases l with
    | nil => rfl
    | cons x l => simp [srtB]
  case round =>
    obtain ⟨k, hk1, hk, rfl, hs, hb⟩ := hrel
    by_cases hlt : k < l.length
    · have h' := h.below hb (Nat.le_refl _)
      obtain ⟨b, o, rfl, hbb, c0, c1, c2⟩ := h' k hlt
      obtain ⟨b', o', e, _, d0, d1, d2⟩ := h' (k - 1) (by omega)
      simp only [Option.some.injEq, Addr.mk.injEq, and_true] at e
      obtain ⟨rfl, rfl⟩ := e
      have hbw : b < wr.heap.size := Nat.lt_of_lt_of_le hbb hb.size
      have hst : srtB (l.take (k + 1)) = (srtB (l.take k) && !(l[k].lt l[k - 1])) := by
        have e1 : l.take k = l.take (k - 1) ++ [l[k - 1]] := by
          have := take_snoc l (k - 1) (by omega)
          rwa [show k - 1 + 1 = k from by omega] at this
        rw [take_snoc l k hlt, e1]
        exact srtB_snoc _ _ _
      have hstep : l[k].lt l[k - 1] = false → srtB (l.take (k + 1)) = true := fun e => by rw [hst, hs, e]; rfl
      have hstop : l[k].lt l[k - 1] = true → srtB l = false := fun e => srtB_take (k := k + 1) (by rw [hst, e]; simp)
      have hbd := before_any l[k] l[k - 1] wr.drew
      have ek : (((k - 1 : Nat) : Int)) = (k : Int) - 1 := by omega
      have eo : o + (k - 1) * 3 = o + (k - 1) * 3 := rfl
      generalize l[k] = x at *
      generalize l[k - 1] = y at *
      clear hst
      unfold Timer.val at hbd
      have hwr : IntKind.i64.wrap ((k : Int) - 1) = ((k - 1 : Nat) : Int) := (IntWalk.i64_in _ (by omega)).trans (by omega)
      have hpl : k - 1 < l.length := by omega
      have HST := Lib.hid hstep
      have HSP := Lib.hid hstop
      clear hstep hstop
      generalize k - 1 = p at d0 d1 d2 hwr hpl
      clear h' ek eo
      go_wp2
      refine still_tail 9 (by kernel_rfl) (by kernel_rfl) ?_
      simp only [List.take_succ_cons, List.take_zero, List.drop_succ_cons, List.drop_zero]
      repeat still_step
      refine wpStill_nil ?_
      go_wp2_with fail
      refine hbd.mono ?_
      rintro e w1 ⟨rfl, hx⟩
      have hb1 := hb.drew.trans (Below.mono hx hb.size)
      have hstep := HST.out
      have hstop := HSP.out
      clear hbd hx c0 c1 c2 d0 d1 d2 HST HSP hb hwr
      generalize x.lt y = bt at *
      cases bt
      · have hs1 := hstep rfl
        clear hstep hstop
        go_wp2_with fail
        go_roundw
        case rel => exact ⟨k + 1, by omega, .inl (by omega), by go_num, hs1, hb1⟩
        case measure => simp [intOf]; omega
      · have hs1 := hstop rfl
        clear hstep hstop
        go_wp2_with fail
        go_ret
        exact ⟨by rw [hs1]; rfl, hb1⟩
    · have ht : l.take k = l := List.take_of_length_le (by omega)
      rw [ht] at hs
      clear ht
      go_wp2
      go_ret
      exact ⟨by rw [hs]; rfl, hb⟩
set_option maxRecDepth 100000 in
set_option maxHeartbeats 2000000 in
theorem rsort_any (A : Option Addr) (l : List Timer) (c : Nat) (w : World) (h : TmAt w w.heap.size A l) (hl : l.length ≤ 100000) :
    Calls Try.prog 35 #[.slice A l.length c] w fun e w' => ∃ v, e = .returned v ∧ OwnT w' w.heap.size v (sortL l) ∧ Below w.heap.size w w' := by
  go_enter Try.func35, Try.ntmps35
  go_wp2
  go_loopw [3, 4] (fun v i wr => ∃ k : Nat, k ≤ l.length ∧ i = .int .i64 k ∧ OwnT wr w.heap.size v (sortL (l.take k)) ∧ Below w.heap.size w wr) (fun _ i _ => l.length - (intOf i).toNat)
  case atStart => exact ⟨0, Nat.zero_le _, rfl, OwnT.nil _ _, Below.refl _ _⟩
  case round =>
    obtain ⟨k, hk, rfl, hown, hb⟩ := hrel
    by_cases hlt : k < l.length
    · obtain ⟨b, o, rfl, hbb, c0, c1, c2⟩ := (h.below hb (Nat.le_refl _)) k hlt
      have hbw : b < wr.heap.size := Nat.lt_of_lt_of_le hbb hb.size
      have HS := Lib.hid (show sortL (l.take (k + 1)) = putL (sortL (l.take k)) l[k] from by rw [take_snoc l k hlt, sortL_snoc])
      have hsl : (sortL (l.take k)).length ≤ 100000 := by rw [sortL_length]; simp; omega
      obtain ⟨A2, n2, rfl, hT2, hn2, hm2, hA2, _⟩ := hown.lat
      unfold maxLen at hm2
      have hput := put_any A2 (sortL (l.take k)) n2 l[k] wr hT2 hsl ⟨hn2, by omega⟩ hA2
      generalize sortL (l.take k) = m at *
      generalize l[k] = x at *
      clear hT2
      unfold Timer.val at hput
      go_wp2_with fail
      refine hput.mono ?_
      rintro e w1 ⟨v1, rfl, hown1, hx⟩
      have hb1 := hb.trans (Below.mono hx hb.size)
      have hown3 : OwnT w1 w.heap.size v1 (sortL (l.take (k + 1))) := by
        rw [HS.out]
        exact hown1.mono hb.size
      clear hput hx c0 c1 c2 HS hb hown hown1
      go_wp2_with fail
      go_roundw
      case rel => exact ⟨k + 1, by omega, by go_num, hown3, hb1⟩
      case measure => simp [intOf]; omega
    · have ht : l.take k = l := List.take_of_length_le (by omega)
      rw [ht] at hown
      clear ht
      go_wp2
      go_ret
      exact ⟨_, rfl, hown, hb⟩
end Go.Proofs.Ytfdbimkddkohnaa
