/- Order: slices.IsSortedFunc of timers; order.Sorted. -/
import Derived.Test.YtfdbimkddkohnaaClone
namespace Go.Proofs.Ytfdbimkddkohnaa
open Go.RowKit
theorem srtB_drop (l : List Timer) (k : Nat) (h : k + 1 < l.length) : srtB (l.drop k) = (!(l[k + 1].lt l[k]) && srtB (l.drop (k + 1))) := by
  rw [List.drop_eq_getElem_cons (show k < l.length by omega), List.drop_eq_getElem_cons h]
  rfl
theorem srtB_drop_false {l : List Timer} {k : Nat} (h : srtB (l.drop k) = false) : srtB l = false := by
  induction l generalizing k with
  | nil => simp [srtB] at h
  | cons x l ih =>
    cases k with
    | zero => exact h
    | succ k =>
      have := ih (by simpa using h)
      cases l with
      | nil => simp [srtB] at this
      | cons y l => simp [srtB, this]
set_option maxRecDepth 100000 in
set_option maxHeartbeats 2000000 in
theorem issorted_any (A : Option Addr) (l : List Timer) (c : Nat) (w : World) (h : TmAt w w.heap.size A l) (hl : l.length ≤ 1000000) :
    Calls Try.prog 59 #[.slice A l.length c, .func (.func 56) #[] #[]] w fun e w' => e = .returned (.bool (srtB l)) ∧ Below w.heap.size w w' := by
  go_enter Try.func59, Try.ntmps59
  go_wp2_with fail
  go_loopw [5] (fun i wr => ∃ (z : Int) (k : Nat), i = .int .i64 z ∧ (k < l.length ∧ z = k ∨ l = [] ∧ z = -1) ∧ srtB (l.drop k) = true ∧ Below w.heap.size w wr) (fun i _ => (intOf i).toNat)
  case atStart =>
    cases l with
    | nil => exact ⟨-1, 0, rfl, .inr ⟨rfl, rfl⟩, rfl, Below.refl _ _⟩
    | cons x l =>
      refine ⟨l.length, l.length, by simp, .inl ⟨by simp, rfl⟩, ?_, Below.refl _ _⟩
      have e1 : ((x :: l).drop l.length).length = 1 := by simp
      match (x :: l).drop l.length, e1 with
      | [y], _ => rfl
  case round =>
    obtain ⟨z, k, rfl, hc, hs, hb⟩ := hrel
    by_cases h0 : 0 < k ∧ k < l.length
    · obtain ⟨k0, hlt⟩ := h0
      have hi : z = k := by
        rcases hc with hc | hc
        · exact hc.2
        · rw [hc.1] at hlt
          simp at hlt
      subst hi
      clear hc
      have h' := h.below hb (Nat.le_refl _)
      obtain ⟨b, o, rfl, hbb, c0, c1, c2⟩ := h' k hlt
      obtain ⟨b', o', e, _, d0, d1, d2⟩ := h' (k - 1) (by omega)
      simp only [Option.some.injEq, Addr.mk.injEq, and_true] at e
      obtain ⟨rfl, rfl⟩ := e
      have hbw : b < wr.heap.size := Nat.lt_of_lt_of_le hbb hb.size
      have hst := srtB_drop l (k - 1) (by omega)
      have hk1 : k - 1 + 1 = k := by omega
      simp only [hk1] at hst
      rw [hs] at hst
      have hcl := cmpT_lt l[k] l[k - 1]
      have HST := Lib.hid (show ¬ cmpT l[k] l[k - 1] < 0 → srtB (l.drop (k - 1)) = true from fun e => by rw [hst, ← hcl]; simp [e])
      have HSP := Lib.hid (show cmpT l[k] l[k - 1] < 0 → srtB l = false from fun e => srtB_drop_false (k := k - 1) (by rw [hst, ← hcl]; simp [e]))
      have hbd := cmp_any l[k] l[k - 1] wr.drew
      clear hst hcl hs
      have hwr : IntKind.i64.wrap ((k : Int) - 1) = ((k - 1 : Nat) : Int) := (IntWalk.i64_in _ (by omega)).trans (by omega)
      have hpl : k - 1 < l.length := by omega
      have HK := Lib.hid (show k - 1 + 1 = k by omega)
      generalize l[k] = x at *
      generalize l[k - 1] = y at *
      generalize k - 1 = p at *
      unfold Timer.val at hbd
      clear h'
      go_wp2_with fail
      refine still_tail 10 (by kernel_rfl) (by kernel_rfl) ?_
      simp only [List.take_succ_cons, List.take_zero, List.drop_succ_cons, List.drop_zero]
      repeat still_step
      refine wpStill_nil ?_
      go_wp2_with fail
      refine hbd.mono ?_
      rintro e w1 ⟨rfl, hx⟩
      have hb1 := hb.drew.trans (Below.mono hx hb.size)
      have hstep := HST.out
      have hstop := HSP.out
      have hk := HK.out
      clear hbd hx c0 c1 c2 d0 d1 d2 HST HSP hb HK
      generalize cmpT x y = cm at *
      by_cases hcm : cm < 0
      · have hs1 := hstop hcm
        clear hstep hstop
        go_wp2_with fail
        go_ret
        exact ⟨by rw [hs1]; rfl, hb1⟩
      · have hs1 := hstep (by omega)
        clear hstep hstop
        go_wp2_with fail
        go_roundw
        case rel => exact ⟨p, p, by first | rfl | rw [hwr], .inl ⟨hpl, rfl⟩, hs1, hb1⟩
        case measure => simp [intOf]; omega
    · have hi : srtB l = true ∧ (z = 0 ∨ z = -1) := by
        rcases hc with ⟨h1, h2⟩ | ⟨h1, h2⟩
        · have : k = 0 := by omega
          subst this
          exact ⟨by simpa using hs, .inl (by omega)⟩
        · subst h1
          exact ⟨rfl, .inr h2⟩
      obtain ⟨hs1, rfl | rfl⟩ := hi
      · clear hc
        go_wp2
        go_ret
        exact ⟨by first | (rw [hs1]; rfl) | rfl, hb⟩
      · clear hc
        go_wp2
        go_ret
        exact ⟨by first | (rw [hs1]; rfl) | rfl, hb⟩
end Go.Proofs.Ytfdbimkddkohnaa
