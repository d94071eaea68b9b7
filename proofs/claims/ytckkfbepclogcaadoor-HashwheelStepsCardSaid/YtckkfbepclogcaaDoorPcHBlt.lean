/- The law: the texts HBlt, laid end to end by a program. -/
import Derived.Test.YtckkfbepclogcaaDoorPk19
namespace Go.Proofs.YtckkfbepclogcaaDoor
open Go.RowKit
/-- The base behind acts. -/
def baseA (base : Int) (l : List Act) : Int := l.foldl baseN base
theorem baseA_snoc (base : Int) (l : List Act) (a : Act) : baseA base (l ++ [a]) = baseN (baseA base l) a := by simp [baseA]
/-- What acts hold. -/
def AcOk (l : List Act) : Prop := ∀ a ∈ l, U64 a.t.at_ ∧ U64 a.now
theorem baseN_u64 {base : Int} {a : Act} (h : U64 base) (ha : U64 a.now) : U64 (baseN base a) := by
  unfold baseN
  unfold U64 at *
  split <;> omega
theorem baseA_u64 {base : Int} (h : U64 base) : ∀ l : List Act, AcOk l → U64 (baseA base l) := by
  intro l
  induction l generalizing base with
  | nil => intro _; exact h
  | cons a l ih =>
    intro ha
    exact ih (baseN_u64 h (ha a (by simp)).2) fun x hx => ha x (by simp [hx])
theorem AcOk.take {l : List Act} (h : AcOk l) (k : Nat) : AcOk (l.take k) := fun a ha => h a (List.mem_of_mem_take ha)
theorem hbuilt_bad (P bits base : Int) (A : Option Addr) (n c : Nat) (w : World) (h : ¬ NewOk P bits) (hl : n ≤ 100000) :
    Calls Tryd.prog 27 #[.int .i64 P, .int .i64 bits, .int .u64 base, .slice A n c] w fun e w' => e = .returned (nilE 1) ∧ w = w' := by
  have hn := hnew_bad P bits base w h
  go_enter Tryd.func27, Tryd.ntmps27
  go_wp2_with fail
  refine hn.mono ?_
  rintro e w1 ⟨rfl, rfl⟩
  clear hn
  unfold nilE
  go_wp2_with fail
  go_loopw [12] (fun i wr => i = .int .i64 0 ∧ w = wr) (fun _ _ => 0)
  case atStart => exact ⟨rfl, rfl⟩
  case round =>
    obtain ⟨rfl, rfl⟩ := hrel
    have H : ((0 : Int) < (n : Int)) ∨ (¬ (0 : Int) < (n : Int)) := by omega
    rcases H with H | H
    · go_wp2_with fail
      exact bodyPost_ret (v := nilE 1) (by simp [results, Tryd.results27, go_sem, nilE]) rfl ⟨rfl, rfl⟩
    · go_wp2_with fail
      exact bodyPost_ret (v := nilE 1) (by simp [results, Tryd.results27, go_sem, nilE]) rfl ⟨rfl, rfl⟩
attribute [local irreducible] Calls
set_option maxRecDepth 100000 in
set_option maxHeartbeats 4000000 in
theorem hbuilt_ok (P bits base : Int) (A : Option Addr) (l : List Act) (c : Nat) (w : World) (h : NewOk P bits) (hA : AcAt w w.heap.size A l) (ha : AcOk l) (ub : U64 base) (hl : l.length ≤ 10000) (hT : TabAt w) :
    Calls Tryd.prog 27 #[.int .i64 P, .int .i64 bits, .int .u64 base, .slice A l.length c] w fun e w' => ∃ q tb c nb lk, e = .returned (.tuple #[.pointer (some ⟨q, 0, none⟩), .int .i64 0]) ∧ HQ w' q tb c nb P.toNat (slotsN bits) (baseA base l) lk (behindL P l) ∧ Below w.heap.size w w' ∧ w.heap.size ≤ q ∧ w.heap.size ≤ tb ∧ w.heap.size ≤ c ∧ w.heap.size ≤ nb := by
  have hn := hnew_ok P bits base w h
  have z := slotsN_ok h
  have hP : (P.toNat : Int) = P := by have := h.1; omega
  go_enter Tryd.func27, Tryd.ntmps27
  go_wp2_with fail
  refine hn.mono ?_
  rintro e w1 ⟨q, tb, c2, nb, rfl, hq, hb, g1, g2, g3, g4⟩
  clear hn
  go_wp2_with fail
  go_loopw [12] (fun i wr => ∃ (k : Nat) (lk : Int), k ≤ l.length ∧ i = .int .i64 k ∧ HQ wr q tb c2 nb P.toNat (slotsN bits) (baseA base (l.take k)) lk (behindL P (l.take k)) ∧ Below w.heap.size w wr) (fun i _ => l.length - (intOf i).toNat)
  case atStart => exact ⟨0, 0, Nat.zero_le _, rfl, hq, hb⟩
  case round =>
    clear hq hb
    obtain ⟨k, lk, hk, rfl, hq, hb⟩ := hrel
    by_cases hlt : k < l.length
    · obtain ⟨b, o, rfl, hbb, c0, c1, c2', c3, c4⟩ := (hA.below hb (Nat.le_refl _)) k hlt
      have HSx := Lib.hid (show behindL P (l.take (k + 1)) = doL P (behindL P (l.take k)) l[k] from by rw [take_snoc l k hlt, behindL_snoc])
      have HB := Lib.hid (show baseA base (l.take (k + 1)) = baseN (baseA base (l.take k)) l[k] from by rw [take_snoc l k hlt, baseA_snoc])
      have hT1 := hT.below hb (glob_lt hT)
      have hdo := hdo_any q tb c2 nb P.toNat (slotsN bits) _ lk _ l[k] wr hq z hT1 (baseA_u64 ub _ (ha.take k)) (ha _ (List.getElem_mem hlt)).1 (ha _ (List.getElem_mem hlt)).2
      rw [hP] at hdo
      unfold Act.val at hdo
      generalize l[k] = a at *
      clear hq hT1
      go_wp2_with fail
      refine hdo.mono ?_
      rintro e w2 ⟨u, rfl, _, hq, hx⟩
      have hb2 := below_chg hb (Nat.le_refl _) hx (fun i e => by unfold HS at e; omega)
      unfold tV
      clear hdo hx c0 c1 c2' c3 c4
      go_wp2_with fail
      go_roundw
      case rel => exact ⟨k + 1, _, by omega, by go_num, by rw [HSx.out, HB.out]; exact hq, hb2⟩
      case measure => simp [intOf]; omega
    · have ht : l.take k = l := List.take_of_length_le (by omega)
      rw [ht] at hq
      go_wp2_with fail
      exact bodyPost_ret (v := .tuple #[.pointer (some ⟨q, 0, none⟩), .int .i64 0]) (by simp [results, Tryd.results27, go_sem]) rfl ⟨q, tb, c2, nb, lk, rfl, hq, hb, g1, g2, g3, g4⟩
end Go.Proofs.YtckkfbepclogcaaDoor
