/- Layer 14 (load): the document's example, which each statement of the layer asks for first. -/
import Derived.Test.YtifoeddeofhclaaLoadNote
namespace Go.Proofs.Ytifoeddeofhclaa
open Go.RowKit
def wS : LS := ⟨1, 0, 0, 2, 1, 0, 0, 2, 5, 2, 0, 0, 0, 0, 0, 0⟩
theorem wS_is : (LS.zero.step ⟨0, 1, 5⟩).step ⟨3, 2, 3⟩ = wS := rfl
def wK (k : Nat) : LS := if k < 30 then { wS with notes := 2 + k } else ⟨0, 0, 0, 0, 1, 0, 0, 2, 0, 0, 1, 1, 0, 0, 2, 5⟩
theorem wK_step (k : Nat) (h : k < 30) : (wK k).step ⟨3, 0, 0⟩ = wK (k + 1) := by
  have e : Note.wrong ⟨3, 0, 0⟩ = 0 := rfl
  unfold LS.step wK
  rw [if_pos h, if_pos e]
  by_cases h' : k + 1 < 30
  · rw [if_pos h', if_neg (by simp; omega)]
    simp [LS.add, wS]
    omega
  · have : k = 29 := by omega
    subst this
    rfl
theorem wK_ok (k : Nat) (h : k ≤ 30) : (wK k).Ok 1000000 := by
  unfold wK
  split <;> constructor <;> simp [wS] <;> omega
theorem works (w : World) : Calls Try.prog 7 #[] w fun e w' => e = .returned (.bool true) ∧ Below w.heap.size w w' := by
  go_enter Try.func7, Try.ntmps7
  go_wp2_with fail
  refine (new_any w).mono ?_
  rintro e w1 ⟨rfl, h1, g1, z1⟩
  generalize hb : w.heap.size = b at *
  have HB := Lib.hid hb
  clear hb
  go_wp2_with fail
  refine (note_yes b .zero ⟨0, 1, 5⟩ w1 h1 rfl (by constructor <;> simp [LS.zero])).mono ?_
  rintro e w2 ⟨rfl, h2, g2⟩
  go_wp2_with fail
  refine (note_yes b _ ⟨3, 2, 3⟩ w2 h2 rfl (LS.Ok.mono (LS.Ok.step (N := 0) (by constructor <;> simp [LS.zero]) _) (by omega))).mono ?_
  rintro e w3 ⟨rfl, h3, g3⟩
  rw [wS_is] at h3
  go_wp2_with fail
  refine (note_no b ⟨4, 1, 1⟩ w3 (by decide)).mono ?_
  rw [show Note.wrong ⟨4, 1, 1⟩ = 7 from rfl]
  rintro e w4 ⟨rfl, rfl⟩
  go_wp2_with fail
  refine (open_any b ⟨1, 0, 0, 2, 1, 0, 0, 2, 5, 2, 0, 0, 0, 0, 0, 0⟩ w3 h3).mono ?_
  rintro e w4 ⟨rfl, g4⟩
  have h4 := h3.below g4 h3.lt
  go_wp2_with fail
  refine (notes_any b ⟨1, 0, 0, 2, 1, 0, 0, 2, 5, 2, 0, 0, 0, 0, 0, 0⟩ w4 h4).mono ?_
  rintro e w5 ⟨rfl, rfl⟩
  have gg : Chg (fun j => b ≤ j) w w4 := (((Chg.mono g1 (fun _ _ h => h.elim)).trans g2 (fun _ _ h => by omega)).trans g3 (fun _ _ h => by omega)).trans (Chg.of_same g4 (fun _ => False)) (fun _ _ h => h.elim)
  clear h1 h2 g1 g2 g3 g4 h3 z1
  go_wp2_with fail
  go_loopw [7] (fun i wr => ∃ k : Nat, k ≤ 30 ∧ i = .int .i64 k ∧ LoadAt wr b (wK k) ∧ Chg (fun j => b ≤ j) w wr) (fun i _ => 30 - (intOf i).toNat)
  case atStart => exact ⟨0, by omega, rfl, h4, gg⟩
  case round =>
    obtain ⟨k, hk, rfl, hL, hg⟩ := hrel
    clear h4 gg
    by_cases hlt : k < 30
    · have hs := wK_step k hlt
      go_wp2_with fail
      refine (note_yes b (wK k) ⟨3, 0, 0⟩ wr hL rfl (wK_ok k hk)).mono ?_
      rintro e w6 ⟨rfl, hL6, g6⟩
      rw [hs] at hL6
      clear hs
      go_wp2_with fail
      go_roundw
      case rel => exact ⟨k + 1, by omega, by go_num, hL6, hg.trans g6 (fun _ _ h => by omega)⟩
      case measure => simp [intOf]; omega
    · obtain rfl : k = 30 := by omega
      clear hlt hk
      change LoadAt wr b ⟨0, 0, 0, 0, 1, 0, 0, 2, 0, 0, 1, 1, 0, 0, 2, 5⟩ at hL
      go_wp2_with fail
      refine (last_any b ⟨0, 0, 0, 0, 1, 0, 0, 2, 0, 0, 1, 1, 0, 0, 2, 5⟩ wr hL).mono ?_
      rintro e w6 ⟨rfl, g6⟩
      have hL6 := hL.below g6 hL.lt
      have hlt6 := hL6.lt
      have g7 := hg.trans (Chg.of_same g6 (fun _ => False)) (fun _ _ h => h.elim)
      clear hL g6 hg
      go_wp2_with fail
      refine (notes_any b ⟨0, 0, 0, 0, 1, 0, 0, 2, 0, 0, 1, 1, 0, 0, 2, 5⟩ _ (hL6.alloc _)).mono ?_
      rintro e w7 ⟨rfl, rfl⟩
      go_wp2_with fail
      refine (windows_any b ⟨0, 0, 0, 0, 1, 0, 0, 2, 0, 0, 1, 1, 0, 0, 2, 5⟩ _ (hL6.alloc _)).mono ?_
      rintro e w7 ⟨rfl, rfl⟩
      go_wp2_with fail
      refine (totalOf_any b ⟨0, 0, 0, 0, 1, 0, 0, 2, 0, 0, 1, 1, 0, 0, 2, 5⟩ 3 _ (hL6.alloc _)).mono ?_
      rw [show LS.total ⟨0, 0, 0, 0, 1, 0, 0, 2, 0, 0, 1, 1, 0, 0, 2, 5⟩ 3 = 2 from rfl]
      rintro e w7 ⟨rfl, rfl⟩
      go_wp2_with fail
      go_ret
      exact ⟨rfl, ((g7.alloc _).to_below (Nat.le_of_eq HB.out.symm)).mono (Nat.le_of_eq HB.out)⟩
end Go.Proofs.Ytifoeddeofhclaa
