/- Part 20: the texts PhL, laid end to end by a program. -/
import Derived.Test.YtpbepmipfjcjbaaPk9
import Derived.Test.YtpbepmipfjcjbaaPk17
namespace Go.Proofs.Ytpbepmipfjcjbaa
open Go.RowKit

theorem pend_succ (k : Nat) (on : Nat → Bool) (tm : Nat → Timer) : pendL (k + 1) on tm = pendL k on tm ++ if on k = true then [tm k] else [] := by
  unfold pendL
  rw [List.range_succ, List.filter_append, List.map_append]
  by_cases h : on k = true <;> simp [h]
set_option maxRecDepth 100000 in
set_option maxHeartbeats 2000000 in
theorem ph_all (q nb P : Nat) (on : Nat → Bool) (nd : Nat → Nat) (tm : Nat → Timer) (f : Lk) (root : Option Nat) (n : Int) (m : List Timer) (w : World) (h : PM w q nb P on nd tm f root n) (hm : PRel P on tm m) (hP : P ≤ 1024) :
    Calls Try.prog 19 #[.pointer (some ⟨q, 0, none⟩)] w fun e w' => ∃ v, e = .returned v ∧ OwnT w' w.heap.size v m ∧ Below w.heap.size w w' := by
  obtain ⟨i0, hi, hz0, hz1, hz2⟩ := info_parts info_timer
  have hc := Blk.cell h.qb
  go_enter Try.func19, Try.ntmps19
  go_wp2_with fail
  clear hc
  go_loopw [3, 11] (fun v i wr => ∃ k : Nat, k ≤ P ∧ i = .int .i64 k ∧ OwnT wr w.heap.size v (pendL k on tm) ∧ Below w.heap.size w wr) (fun _ i _ => P - (intOf i).toNat)
  case atStart => exact ⟨0, Nat.zero_le _, rfl, OwnT.nil _ _, Below.refl _ _⟩
  case round =>
    obtain ⟨k, hk, rfl, hown, hb⟩ := hrel
    by_cases hlt : k < P
    · have hA := h.below hb
      have ha := (hA.ar.cell k).trans (naC_get P on nd k hlt)
      have HS := Lib.hid (pend_succ k on tm)
      have hdl : (pendL k on tm).length ≤ 1024 := Nat.le_trans (pendL_le _ _ _) (by omega)
      by_cases hon : on k = true
      · rw [if_pos hon] at HS ha
        have bx := (hA.nm.blk k ⟨hlt, hon⟩).cell
        unfold ndC at bx
        generalize nd k = g at *
        generalize tm k = x at *
        generalize pendL k on tm = d at *
        clear hA hon h hm
        go_wp2_with (at_builtin; refine wpList_append_own _ rfl _ _ 28 rfl w.heap.size 35 i0 (.agg #[.int .u64 0, .int .u64 0, .int .i64 0]) 3 24 Try.underlying28 hi hz0 hz1 hz2 rfl (by decide) _ _ _ rfl (hown.alloc _) ⟨wr.heap.size, 0, none⟩ 1 1 x.cells rfl ?c0 ?c1 ?c2 ?c3 ?c4 ?c5 ?_)
        case c0 => rfl
        case c1 => exact cells_new wr 35 x.cells
        case c2 => intro v hv; exact one_cell [x] v (by rw [cells_one]; exact hv)
        case c3 => unfold maxLen; omega
        case c4 => omega
        case c5 => have := hb.size; simp; omega
        intro v2 w2 hown2 hgr2 _
        have hwl := hb.size
        have hb2 := below_app hb hown hgr2 (by omega) (Nat.le_refl _)
        have hown3 : OwnT w2 w.heap.size v2 (pendL (k + 1) on tm) := by
          unfold OwnT
          rw [HS.out, List.length_append, List.flatMap_append, cells_one]
          exact hown2
        clear hgr2 hown hown2 hb
        go_wp2
        go_roundw
        case rel => exact ⟨k + 1, by omega, by go_num, hown3, hb2⟩
        case measure => simp [intOf]; omega
      · rw [if_neg hon, List.append_nil] at HS
        rw [if_neg hon] at ha
        generalize pendL k on tm = d at *
        have HW := Lib.hid hown
        have HB := Lib.hid hb
        clear hon h hA hm hown hb
        go_wp2_with fail
        go_roundw
        case rel => exact ⟨k + 1, by omega, by go_num, by rw [HS.out]; exact HW.out, HB.out⟩
        case measure => simp [intOf]; omega
    · obtain rfl : k = P := by omega
      have hso := hm.sort
      have hle : (pendL k on tm).length ≤ 1000000 := Nat.le_trans (pendL_le _ _ _) (by omega)
      have hs := fun v w1 h => osort_any v (pendL k on tm) w1 h hle
      rw [hso] at hs
      have hs1 := hs _ _ hown.lat
      clear h hm hs hso hown
      go_wp2_with fail
      refine hs1.mono ?_
      rintro e w2 ⟨v2, rfl, ho2, hy⟩
      have HO := Lib.hid (ho2.mono hb.size)
      have HB := Lib.hid (hb.trans (Below.mono hy hb.size))
      clear hs1 ho2 hy hb
      go_wp2_with fail
      go_ret
      exact ⟨_, rfl, HO.out, HB.out⟩
end Go.Proofs.Ytpbepmipfjcjbaa
