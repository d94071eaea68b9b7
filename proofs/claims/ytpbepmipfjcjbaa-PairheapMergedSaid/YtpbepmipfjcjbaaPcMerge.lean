/- The law: the texts Merge, laid end to end by a program. -/
import Derived.Test.YtpbepmipfjcjbaaPcNeed
namespace Go.Proofs.Ytpbepmipfjcjbaa
open Go.RowKit
structure MB (P : Option Addr) (L : List (List Timer)) (w w' : World) : Prop where
  ll : LL w' P L
  out : Blk w' w.heap.size 28 #[.slice none 0 0]
  err : Blk w' (w.heap.size + 1) 25 #[.int .i64 0]
  below : Below w.heap.size w w'
theorem MB.kept {P : Option Addr} {L : List (List Timer)} {w x y : World} (h : MB P L w x) (k : Below x.heap.size x y) : MB P L w y :=
  ⟨h.ll.on k, h.out.below k h.out.lt, h.err.below k h.err.lt, h.below.trans (Below.mono k h.below.size)⟩
set_option maxRecDepth 100000 in
set_option maxHeartbeats 4000000 in
theorem merge_bad (P : Option Addr) (L : List (List Timer)) (c : Nat) (w : World) (h : LL w P L) (hL : L.length ≤ 1000000) (hl : ∀ l ∈ L, l.length ≤ 1000000) (hbad : ∃ l ∈ L, srtB l = false) :
    Calls Try.prog 24 #[.slice P L.length c] w fun e w' => e = .returned (.tuple #[.slice none 0 0, .int .i64 12]) ∧ Below w.heap.size w w' := by
  have hmf : ∀ (fn : Fn) (first cap : Array Value) (w : World), (Instr.makeFunc fn first cap).run Try.prog w = .ok (.func fn first cap) w := fun _ _ _ _ => rfl
  have k0 : MB P L w ((w.alloc (.cells #[.slice none 0 0] 28)).alloc (.cells #[.int .i64 0] 25)) := by
    have hb0 : Below w.heap.size w ((w.alloc (.cells #[.slice none 0 0] 28)).alloc (.cells #[.int .i64 0] 25)) := ((Below.refl _ _).alloc (Nat.le_refl _) _).alloc (by simp) _
    exact ⟨h.on hb0, (Blk.new _ _ _).alloc _, by simpa using Blk.new (w.alloc (.cells #[.slice none 0 0] 28)) 25 #[.int .i64 0], hb0⟩
  clear h
  have HBAD := Lib.hid hbad
  clear hbad
  go_enter_defers Try.func24, Try.ntmps24
  go_wp2
  go_loopw [10] (fun i wr => ∃ k : Nat, k ≤ L.length ∧ i = .int .i64 k ∧ (∀ j (h : j < L.length), j < k → srtB L[j] = true) ∧ MB P L w wr) (fun i _ => L.length - (intOf i).toNat)
  case atStart => exact ⟨0, Nat.zero_le _, rfl, fun j _ h => absurd h (by omega), k0⟩
  case round =>
    obtain ⟨k, hk, rfl, hsj, hmb⟩ := hrel
    clear k0
    by_cases hlt : k < L.length
    · obtain ⟨b, o, v, rfl, hbw, hc, hla⟩ := hmb.ll k hlt
      have hlk := hl L[k] (List.getElem_mem _)
      cases hs : srtB L[k] with
      | true =>
        have hcon := need_ok v L[k] wr hla hlk hs
        have HMB := Lib.hid hmb
        have HSJ := Lib.hid hsj
        clear hmb hsj hla
        go_wp2_with fail
        refine hcon.mono ?_
        rintro e w1 ⟨rfl, hx⟩
        have hm1 := HMB.out.kept hx
        clear hcon hx hc
        go_wp2_with fail
        go_roundw
        case rel =>
          refine ⟨k + 1, by omega, by go_num, ?_, hm1⟩
          intro j hj hjk
          by_cases hjk2 : j < k
          · exact HSJ.out j hj hjk2
          · have : j = k := by omega
            subst this
            exact hs
        case measure => simp [intOf]; omega
      | false =>
        have hcon := need_bad v L[k] wr hla hlk hs
        have HMB := Lib.hid hmb
        clear hmb hsj hla
        go_wp2_with fail
        refine hcon.mono ?_
        rintro e w1 ⟨rfl, hx⟩
        have hm1 := HMB.out.kept hx
        have hne : w.heap.size ≠ w.heap.size + 1 := by omega
        have hb2 : Below w.heap.size w ((w1.setCell ⟨w.heap.size, 0, none⟩ (.slice none 0 0)).setCell ⟨w.heap.size + 1, 0, none⟩ (.int .i64 12)) := (hm1.below.setCell (Nat.le_refl _) _).setCell (Nat.le_succ _) _
        have r1 := (((hm1.out.put 0 (.slice none 0 0)).far (p := ⟨w.heap.size + 1, 0, none⟩) hne (.int .i64 12))).cell 0
        have r2 := ((hm1.err.far (p := ⟨w.heap.size, 0, none⟩) (by simp) (.slice none 0 0)).put 0 (.int .i64 12)).cell 0
        clear hcon hx hc HMB
        go_wp2_with fail
        refine leaves_cons (f := 41) (args := #[.pointer (some ⟨w.heap.size, 0, none⟩), .pointer (some ⟨w.heap.size + 1, 0, none⟩)]) (by simp) (by simp [go_sem]) ?_
        refine (catch_panicking _ _ _ _ [] _ hm1.out hm1.err hne).mono ?_
        rintro e u' w'' ⟨rfl, rfl, rfl⟩
        simp only [List.setIfInBounds_toArray, List.set_cons_zero] at r1 r2
        simp [Leaves, settle, results, Try.results24, go_sem, r1, r2]
        exact hb2
    · exfalso
      obtain ⟨l, hlm, hls⟩ := HBAD.out
      obtain ⟨j, hj, rfl⟩ := List.getElem_of_mem hlm
      have := hsj j hj (by omega)
      rw [this] at hls
      cases hls
set_option maxRecDepth 100000 in
set_option maxHeartbeats 4000000 in
theorem merge_ok (P : Option Addr) (L : List (List Timer)) (c : Nat) (w : World) (h : LL w P L) (hL : L.length ≤ 1000000) (hl : ∀ l ∈ L, l.length ≤ 1000000) (hc : L.length ≤ c) (hcm : c ≤ maxLen) (hfl : L.flatten.length ≤ 1000000) (hok : ∀ l ∈ L, srtB l = true) :
    Calls Try.prog 24 #[.slice P L.length c] w fun e w' => ∃ v', e = .returned (.tuple #[v', .int .i64 0]) ∧ OwnT w' w.heap.size v' (sortL L.flatten) ∧ Below w.heap.size w w' := by
  have hmf : ∀ (fn : Fn) (first cap : Array Value) (w : World), (Instr.makeFunc fn first cap).run Try.prog w = .ok (.func fn first cap) w := fun _ _ _ _ => rfl
  have k0 : MB P L w ((w.alloc (.cells #[.slice none 0 0] 28)).alloc (.cells #[.int .i64 0] 25)) := by
    have hb0 : Below w.heap.size w ((w.alloc (.cells #[.slice none 0 0] 28)).alloc (.cells #[.int .i64 0] 25)) := ((Below.refl _ _).alloc (Nat.le_refl _) _).alloc (by simp) _
    exact ⟨h.on hb0, (Blk.new _ _ _).alloc _, by simpa using Blk.new (w.alloc (.cells #[.slice none 0 0] 28)) 25 #[.int .i64 0], hb0⟩
  clear h
  go_enter_defers Try.func24, Try.ntmps24
  go_wp2
  go_loopw [10] (fun i wr => ∃ k : Nat, k ≤ L.length ∧ i = .int .i64 k ∧ True ∧ MB P L w wr) (fun i _ => L.length - (intOf i).toNat)
  case atStart => exact ⟨0, Nat.zero_le _, rfl, trivial, k0⟩
  case round =>
    obtain ⟨k, hk, rfl, hsj, hmb⟩ := hrel
    clear k0
    by_cases hlt : k < L.length
    · obtain ⟨b, o, v, rfl, hbw, hcl, hla⟩ := hmb.ll k hlt
      have hlk := hl L[k] (List.getElem_mem _)
      have hs := hok L[k] (List.getElem_mem _)
      have hcon := need_ok v L[k] wr hla hlk hs
      have HMB := Lib.hid hmb
      clear hmb hsj hla hs
      go_wp2_with fail
      refine hcon.mono ?_
      rintro e w1 ⟨rfl, hx⟩
      have hm1 := HMB.out.kept hx
      clear hcon hx
      go_wp2_with fail
      go_roundw
      case rel => exact ⟨k + 1, by omega, by go_num, trivial, hm1⟩
      case measure => simp [intOf]; omega
    · clear hsj
      have HMB := Lib.hid hmb
      have hbB : w.heap.size + 1 < wr.heap.size := hmb.err.lt
      clear hmb
      have hN0 := Blk.new wr 90 #[.nilFunc]
      have hN := Blk.new wr 90 #[hV wr.heap.size]
      have hb1 : Below wr.heap.size wr (wr.alloc (.cells #[hV wr.heap.size] 90)) := (Below.refl _ _).alloc (Nat.le_refl _) _
      have hm1 := HMB.out.kept hb1
      have hcon := half_any L.length L P c wr.heap.size _ rfl (fun l hl => (srtB_iff l).1 (hok l hl)) hfl hc hcm hL hm1.ll hN
      have HM1 := Lib.hid hm1
      have hc0 := hN0.cell
      have hz0 := hN0.frozen
      clear hN hN0 hb1 hm1
      unfold hV at *
      have hst : (store ⟨wr.heap.size, 0, none⟩ (.func (.func 43) #[] #[.pointer (some ⟨wr.heap.size, 0, none⟩)])).run Try.prog (wr.alloc (.cells #[.nilFunc] 90)) = .ok () ((wr.alloc (.cells #[.nilFunc] 90)).setCell ⟨wr.heap.size, 0, none⟩ (.func (.func 43) #[] #[.pointer (some ⟨wr.heap.size, 0, none⟩)])) := by
        rw [run_store _ _ _ _ _ (by rfl), hc0 0]
        simp [hz0 0]
      go_wp2_with fail
      refine hcon.mono ?_
      rintro e w2 ⟨v2, rfl, ho, hx⟩
      have hm2 := HM1.out.kept hx
      have hsz : w.heap.size + 2 ≤ wr.heap.size := by omega
      have r1 := hm2.out.cell
      have r2 := hm2.err.cell
      have z1 := hm2.out.frozen
      have z2 := hm2.err.frozen
      have hne : ¬ w.heap.size + 1 = w.heap.size := by omega
      have hne2 : w.heap.size ≠ w.heap.size + 1 := by omega
      have hb3 : Below w.heap.size w ((w2.setCell ⟨w.heap.size, 0, none⟩ v2).setCell ⟨w.heap.size + 1, 0, none⟩ (.int .i64 0)) := (hm2.below.setCell (Nat.le_refl _) _).setCell (Nat.le_succ _) _
      have q1 := (((hm2.out.put 0 v2).far (p := ⟨w.heap.size + 1, 0, none⟩) hne2 (.int .i64 0))).cell 0
      have q2 := ((hm2.err.far (p := ⟨w.heap.size, 0, none⟩) (by simp) v2).put 0 (.int .i64 0)).cell 0
      simp only [List.setIfInBounds_toArray, List.set_cons_zero] at q1 q2
      have ho3 : OwnT ((w2.setCell ⟨w.heap.size, 0, none⟩ v2).setCell ⟨w.heap.size + 1, 0, none⟩ (.int .i64 0)) w.heap.size v2 (sortL L.flatten) := by
        refine OwnT.mono (ownsRow_keep ho ?_) (by simp; omega)
        intro g hg hgo
        have hge := own_base ho g hgo
        simp only [World.size_alloc] at hge
        rw [Below.heap_setCell _ _ _ _ (by simp; omega), Below.heap_setCell _ _ _ _ (by simp; omega)]
      obtain ⟨A2, c2, hv2, _⟩ := ho.at
      have HO3 := Lib.hid ho3
      have HB3 := Lib.hid hb3
      have HQ1 := Lib.hid q1
      have HQ2 := Lib.hid q2
      clear hcon hx hst hc0 hz0 HM1 HMB hm2 ho ho3 hb3 q1 q2
      generalize (sortL L.flatten).length = nr at *
      subst hv2
      go_wp2_with fail
      refine leaves_cons (f := 41) (args := #[.pointer (some ⟨w.heap.size, 0, none⟩), .pointer (some ⟨w.heap.size + 1, 0, none⟩)]) (by simp) (by simp [go_sem]) ?_
      refine (catch_idle w.heap.size (w.heap.size + 1) _).mono ?_
      rintro e u' w'' ⟨rfl, rfl, rfl⟩
      have q1 := HQ1.out
      have q2 := HQ2.out
      simp [Leaves, settle, results, Try.results24, go_sem, q1, q2]
      exact ⟨HO3.out, HB3.out⟩
end Go.Proofs.Ytpbepmipfjcjbaa
