/- The law: the texts LawHL, laid end to end by a program. -/
import Derived.Test.YtckkfbepclogcaaDoorPcHBlt
import Derived.Test.YtckkfbepclogcaaDoorPcDueTwo
namespace Go.Proofs.YtckkfbepclogcaaDoor
open Go.RowKit
theorem due_lens (m : List Timer) (now : Int) : (dueL m now true).length + (dueL m now false).length = m.length := by
  have := (due_perm m now).length_eq
  rwa [List.length_append] at this
theorem HQ.look_le {w : World} {q tb c nb P S : Nat} {base lk : Int} {m : List Timer} (h : HQ w q tb c nb P S base lk m) (z : HSz P S) (now : Int) : lookL m base S now ≤ m.length ∧ lookL m base S now ≤ spanN S base now := by
  obtain ⟨s, b, h1, h2, rfl⟩ := h.ex
  have hS : 0 < S := by have := z.hS; omega
  exact ⟨look_le_pend hS h1.ok h2 now, lookL_le_span m hS h1.ok h2 now⟩
attribute [local irreducible] Calls
set_option maxRecDepth 100000 in
set_option maxHeartbeats 4000000 in
theorem hlooks (P bits base now : Int) (A : Option Addr) (l : List Act) (c : Nat) (w : World) (hT : TabAt w) (hA : AcAt w w.heap.size A l) (ha : AcOk l) (hlen : l.length ≤ 2 ^ 63 - 1) (ub : U64 base) (un : U64 now) :
    Calls Tryd.prog 4 #[.int .i64 P, .int .i64 bits, .int .u64 base, .slice A l.length c, .int .u64 now] w fun e w' => e = .returned (.bool true) ∧ Below w.heap.size w w' := by
  have hw := hworks w hT
  go_enter Tryd.func4, Tryd.ntmps4
  go_wp2_with fail
  refine hw.mono ?_
  rintro e w1 ⟨rfl, hb⟩
  have hT1 := hT.below hb (glob_lt hT)
  have hA1 := hA.below hb (Nat.le_refl _)
  clear hw
  by_cases hl : 60 < l.length
  · have hl2 : (60 : Int) < l.length := by omega
    have HB := Lib.hid hb
    clear hA hA1 hb
    go_wp2_with fail
    go_ret
    exact ⟨rfl, HB.out⟩
  · have hl2 : ¬ (60 : Int) < l.length := by omega
    by_cases hok : NewOk P bits
    · obtain ⟨bn, rfl⟩ := Int.eq_ofNat_of_zero_le (show 0 ≤ bits by have := hok.2.2.1; omega)
      have hbn : bn ≤ 6 := by have := hok.2.2.2; omega
      have z := slotsN_ok hok
      have hn := hbuilt_ok P bn base A l c w1 hok (fun i hi => by obtain ⟨b, o, e, h1, h2⟩ := hA1 i hi; exact ⟨b, o, e, Nat.lt_of_lt_of_le h1 hb.size, h2⟩) ha ub (by omega) hT1
      have uA := baseA_u64 ub l ha
      clear hA hA1 ha
      go_wp2_with fail
      refine hn.mono ?_
      rintro e w2 ⟨q, tb, c2, nb, lk, rfl, hq, hx, g1, g2, g3, g4⟩
      have hsz := hb.size
      have hb2 := hb.trans (Below.mono hx hb.size)
      have hT2 := hT.below hb2 (glob_lt hT)
      generalize behindL P l = m at *
      generalize baseA base l = b at *
      have hmP := hq.len
      have h1 := z.hP
      have hln := hq_len q tb c2 nb P.toNat (slotsN bn) b lk m w2 hq
      have hba := hq_base q tb c2 nb P.toNat (slotsN bn) b lk m w2 hq
      have hdu := hq_due q tb c2 nb P.toNat (slotsN bn) b lk now m w2 hq z uA un hT2
      have hlens := due_lens m now
      have hlk0 := hq.look_le z now
      clear hn hx hq hb hT2 hT1
      go_wp2_with fail
      refine hln.mono ?_
      rintro e wx ⟨rfl, rfl⟩
      go_wp2_with fail
      refine hba.mono ?_
      rintro e wx ⟨rfl, rfl⟩
      go_wp2_with fail
      refine hdu.mono ?_
      rintro e w3 ⟨v, rfl, ho, hq, hx⟩
      have hb3 := below_chg hb2 (Nat.le_refl _) hx (fun i e => by unfold HS at e; omega)
      obtain ⟨A3, c3, rfl, _⟩ := ho.at
      have hlk := hq_looked q tb c2 nb P.toNat (slotsN bn) _ _ _ w3 hq
      have hln := hq_len q tb c2 nb P.toNat (slotsN bn) _ _ _ w3 hq
      have hba := hq_base q tb c2 nb P.toNat (slotsN bn) _ _ _ w3 hq
      have HB := Lib.hid hb3
      clear hb2 hb3 hx hq ho hdu g1 g2 g3 g4
      obtain ⟨k1, k2⟩ := hlk0
      unfold spanN at k2
      generalize hk : lookL m b (slotsN bn) now = k at *
      generalize (dueL m now true).length = nd at *
      generalize (dueL m now false).length = nr at *
      have hk' := Lib.hid hk
      have i1 : ¬ ((k : Int) < 0) := by omega
      have i2 : ¬ ((m.length : Int) < (k : Int)) := by omega
      have i3 : IntKind.i64.wrap ((m.length : Int) - (nd : Int)) = (nr : Int) := by rw [IntWalk.i64_in _ (by omega)]; omega
      go_wp2_with fail
      refine hlk.mono ?_
      rintro e wx ⟨rfl, rfl⟩
      go_wp2_with fail
      refine hln.mono ?_
      rintro e wx ⟨rfl, rfl⟩
      by_cases hnb : now ≤ b
      · have hk0 : k = 0 := by rw [← hk'.out]; unfold lookL; rw [if_pos hnb]
        subst hk0
        have hmx : max b now = b := by omega
        rw [hmx] at hba
        clear hlk hln hlens k1 k2 hk
        go_wp2_with fail
        refine hba.mono ?_
        rintro e wx ⟨rfl, rfl⟩
        go_wp2_with fail
        go_ret
        exact ⟨rfl, HB.out⟩
      · have hmx : max b now = now := by omega
        rw [hmx] at hba
        rw [if_neg hnb] at k2
        have hsl := rslots_any bn w3 hbn
        have hS6 : slotsN bn ≤ 256 := slots_small bn bn (Nat.le_refl _) hbn
        have j1 : IntKind.u64.wrap (k : Int) = (k : Int) := IntWalk.u64_in _ (by omega)
        have j2 : IntKind.u64.wrap (now - b) = now - b := IntWalk.u64_in _ (by unfold U64 at *; omega)
        have j3 : (k : Int) ≤ now - b := by omega
        have j4 : (k : Int) ≤ (slotsN bn : Nat) := by omega
        clear hlk hln hlens k1 hk k2 ub uA un
        go_wp2_with fail
        refine hsl.mono ?_
        rintro e wx ⟨rfl, rfl⟩
        generalize slotsN bn = S at *
        go_wp2_with fail
        refine hba.mono ?_
        rintro e wx ⟨rfl, rfl⟩
        go_wp2_with fail
        go_ret
        exact ⟨rfl, HB.out⟩
    · have hn := hbuilt_bad P bits base A l.length c w1 hok (by omega)
      have HB := Lib.hid hb
      clear hok hA hA1 hb ha
      go_wp2_with fail
      refine hn.mono ?_
      rintro e w2 ⟨rfl, rfl⟩
      unfold nilE
      go_wp2_with fail
      go_ret
      exact ⟨rfl, HB.out⟩
end Go.Proofs.YtckkfbepclogcaaDoor
