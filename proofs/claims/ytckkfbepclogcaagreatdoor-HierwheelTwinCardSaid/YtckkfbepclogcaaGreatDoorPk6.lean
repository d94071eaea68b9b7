/- Part 6: the texts Cm Cm2 Cm3 CmK, laid end to end by a program. -/
import Derived.BigRegion
import Derived.Test.YtckkfbepclogcaaGreatDoorPk1
namespace Go.Proofs.YtckkfbepclogcaaGreatDoor
open Go.RowKit
/-- The chains at block c, whose M nodes lie at block nb. -/
structure CNod (w : World) (c nb M P N : Nat) (nx pv : Nat → Nat) (inn : Nat → Option Nat) : Prop where
  blk : Blk w c 110 #[.int .i64 P, .int .i64 N, .slice (some ⟨nb, 0, none⟩) M M]
  nod : Blk w nb 114 (nodeC M nx pv inn)
section
variable {w w' : World} {c nb M P N : Nat} {nx pv : Nat → Nat} {inn : Nat → Option Nat}
theorem CNod.below (h : CNod w c nb M P N nx pv inn) (k : Below w.heap.size w w') : CNod w' c nb M P N nx pv inn := ⟨h.blk.below k h.blk.lt, h.nod.below k h.nod.lt⟩
theorem CNod.drew (h : CNod w c nb M P N nx pv inn) : CNod w.drew c nb M P N nx pv inn := ⟨h.blk.drew, h.nod.drew⟩
theorem CNod.ne (h : CNod w c nb M P N nx pv inn) : c ≠ nb := Blk.ne h.blk h.nod (by decide)
theorem CNod.chg {S : Nat → Prop} (h : CNod w c nb M P N nx pv inn) (k : Chg S w w') (h1 : ¬ S c) (h2 : ¬ S nb) : CNod w' c nb M P N nx pv inn := ⟨h.blk.chg k h1, h.nod.chg k h2⟩
end
def cin (n : Nat) (p : Int) : Bool := decide (0 ≤ p) && decide (p < n)
theorem cplace_any (c nb M P N : Nat) (nx pv : Nat → Nat) (inn : Nat → Option Nat) (p : Int) (w : World) (h : CNod w c nb M P N nx pv inn) :
    Calls Tryz.prog 66 #[.pointer (some ⟨c, 0, none⟩), .int .i64 p] w fun e w' => e = .returned (.bool (cin P p)) ∧ w = w' := by
  have hc := h.blk.cell
  by_cases h0 : 0 ≤ p
  · have HW := Lib.hid (show cin P p = decide (p < P) by simp [cin, h0])
    go_enter Tryz.func66, Tryz.ntmps66
    go_wp2
    go_ret
    exact ⟨ret_bool HW.out.symm, rfl⟩
  · have HW := Lib.hid (show cin P p = false by simp [cin, h0])
    go_enter Tryz.func66, Tryz.ntmps66
    go_wp2
    go_ret
    exact ⟨ret_bool HW.out.symm, rfl⟩
theorem clist_any (c nb M P N : Nat) (nx pv : Nat → Nat) (inn : Nat → Option Nat) (p : Int) (w : World) (h : CNod w c nb M P N nx pv inn) :
    Calls Tryz.prog 70 #[.pointer (some ⟨c, 0, none⟩), .int .i64 p] w fun e w' => e = .returned (.bool (cin N p)) ∧ w = w' := by
  have hc := h.blk.cell
  by_cases h0 : 0 ≤ p
  · have HW := Lib.hid (show cin N p = decide (p < N) by simp [cin, h0])
    go_enter Tryz.func70, Tryz.ntmps70
    go_wp2
    go_ret
    exact ⟨ret_bool HW.out.symm, rfl⟩
  · have HW := Lib.hid (show cin N p = false by simp [cin, h0])
    go_enter Tryz.func70, Tryz.ntmps70
    go_wp2
    go_ret
    exact ⟨ret_bool HW.out.symm, rfl⟩
set_option maxRecDepth 100000 in
set_option maxHeartbeats 2000000 in
theorem cjoin_any (c nb M P N a b : Nat) (nx pv : Nat → Nat) (inn : Nat → Option Nat) (w : World) (h : CNod w c nb M P N nx pv inn) (ha : a < M) (hb : b < M) (_hM : M ≤ 4096) :
    Calls Tryz.prog 73 #[.pointer (some ⟨c, 0, none⟩), .int .i64 a, .int .i64 b] w fun e w' => e = .returned (.tuple #[]) ∧ CNod w' c nb M P N (upd nx a b) (upd pv b a) inn ∧ Chg (fun g => g = nb) w w' := by
  have hc := h.blk.cell
  have hne := h.ne
  have hn := h.nod.cell
  have hz := h.nod.frozen
  have hl := h.nod.lt
  have ca : w.cell? ⟨nb, a * 3, none⟩ = some (.int .i64 (nx a)) := (hn _).trans (nodeC_nx M nx pv inn a ha)
  have cb : w.cell? ⟨nb, b * 3 + 1, none⟩ = some (.int .i64 (pv b)) := (hn _).trans (nodeC_pv M nx pv inn b hb)
  have hs1 := nodeC_set_nx M nx pv inn a b ha
  have hs2 := nodeC_set_pv M (upd nx a b) pv inn b a hb
  clear hn
  have fin : ∀ w2, w2 = (w.drew.setCell ⟨nb, a * 3, none⟩ (.int .i64 b)).setCell ⟨nb, b * 3 + 1, none⟩ (.int .i64 a) → CNod w2 c nb M P N (upd nx a b) (upd pv b a) inn ∧ Chg (fun g => g = nb) w w2 := by
    rintro w2 rfl
    refine ⟨⟨(h.blk.drew.far hne _).far hne _, ?_⟩, ((Chg.refl (fun g => g = nb) w).drew.setCell (fun _ => rfl) _).setCell (fun _ => rfl) _⟩
    rw [← hs2, ← hs1]
    exact (h.nod.drew.put _ _).put _ _
  clear hs1 hs2 h
  go_enter Tryz.func73, Tryz.ntmps73
  go_wp2_with fail
  go_region
  go_end0
  exact ⟨rfl, fin _ rfl⟩
end Go.Proofs.YtckkfbepclogcaaGreatDoor
namespace Go.Proofs.YtckkfbepclogcaaGreatDoor
open Go.RowKit
set_option maxRecDepth 100000 in
set_option maxHeartbeats 2000000 in
theorem cput_any (c nb M P N i b a j : Nat) (nx pv : Nat → Nat) (inn : Nat → Option Nat) (w : World) (h : CNod w c nb M P N nx pv inn) (hi : i < M) (hb : b < M) (ha : a < M) (hpa : pv b = a) (hM : M ≤ 4096) :
    Calls Tryz.prog 71 #[.pointer (some ⟨c, 0, none⟩), .int .i64 i, .int .i64 b, .int .i64 j] w fun e w' => e = .returned (.tuple #[]) ∧ CNod w' c nb M P N (upd (upd nx a i) i b) (upd (upd pv i a) b i) (updO inn i (some j)) ∧ Chg (fun g => g = nb) w w' := by
  have hc := h.blk.cell
  have cb : w.cell? ⟨nb, b * 3 + 1, none⟩ = some (.int .i64 a) := ((h.nod.cell _).trans (nodeC_pv M nx pv inn b hb)).trans (by rw [hpa])
  have hj1 := cjoin_any c nb M P N a i nx pv inn w h ha hi hM
  go_enter Tryz.func71, Tryz.ntmps71
  go_wp2_with fail
  refine hj1.mono ?_
  rintro e w1 ⟨rfl, h1, k1⟩
  have hj2 := cjoin_any c nb M P N i b _ _ inn w1 h1 hi hb hM
  clear hc cb hj1 h
  go_wp2_with fail
  refine hj2.mono ?_
  rintro e w2 ⟨rfl, h2, k2⟩
  have hc := h2.blk.cell
  have hz := h2.nod.frozen
  have hl := h2.nod.lt
  have ci := (h2.nod.cell _).trans (nodeC_in M _ _ inn i hi)
  have hs := nodeC_set_in M (upd (upd nx a i) i b) (upd (upd pv i a) b i) inn i (some j) hi
  have fin : ∀ w3, w3 = w2.setCell ⟨nb, i * 3 + 2, none⟩ (.int .i64 (innI (some j))) → CNod w3 c nb M P N (upd (upd nx a i) i b) (upd (upd pv i a) b i) (updO inn i (some j)) ∧ Chg (fun g => g = nb) w w3 := by
    rintro w3 rfl
    refine ⟨⟨h2.blk.far h2.ne _, ?_⟩, (k1.trans k2 (fun _ _ h => h)).setCell (fun _ => rfl) _⟩
    rw [← hs]
    exact h2.nod.put _ _
  clear hs h1 hj2 k1 k2
  go_wp2
  go_end0
  exact ⟨rfl, fin _ rfl⟩
/-- The chains: P places in N lists; inn tells in which a place is, L what stands in each. -/
structure CM (w : World) (c nb P N : Nat) (inn : Nat → Option Nat) (L : Nat → List Nat) : Prop where
  st : ∃ nx pv, CNod w c nb (P + N) P N nx pv inn ∧ ChOk P N nx pv inn L
section
variable {w w' : World} {c nb P N : Nat} {inn : Nat → Option Nat} {L : Nat → List Nat}
theorem CM.below (h : CM w c nb P N inn L) (k : Below w.heap.size w w') : CM w' c nb P N inn L := by
  obtain ⟨nx, pv, h1, h2⟩ := h.st
  exact ⟨nx, pv, h1.below k, h2⟩
theorem CM.drew (h : CM w c nb P N inn L) : CM w.drew c nb P N inn L := by
  obtain ⟨nx, pv, h1, h2⟩ := h.st
  exact ⟨nx, pv, h1.drew, h2⟩
theorem CM.chg {S : Nat → Prop} (h : CM w c nb P N inn L) (k : Chg S w w') (h1 : ¬ S c) (h2 : ¬ S nb) : CM w' c nb P N inn L := by
  obtain ⟨nx, pv, g1, g2⟩ := h.st
  exact ⟨nx, pv, g1.chg k h1 h2, g2⟩
theorem CM.lt (h : CM w c nb P N inn L) : c < w.heap.size ∧ nb < w.heap.size := by
  obtain ⟨nx, pv, g1, g2⟩ := h.st
  exact ⟨g1.blk.lt, g1.nod.lt⟩
end
def appC (P N : Nat) (inn : Nat → Option Nat) (j p : Int) : Int := if cin N j = false ∨ cin P p = false then 1 else if (inn p.toNat).isSome then 4 else 0
def dropC (P : Nat) (inn : Nat → Option Nat) (p : Int) : Int := if cin P p = false then 1 else if (inn p.toNat).isSome then 0 else 5
def whichO (P : Nat) (inn : Nat → Option Nat) (p : Int) : Option Int := if cin P p = false then none else (inn p.toNat).map fun j => (j : Int)
theorem cin_nat {n : Nat} {p : Int} (h : cin n p = true) : ∃ k : Nat, p = k ∧ k < n := by
  simp only [cin, Bool.and_eq_true, decide_eq_true_eq] at h
  exact ⟨p.toNat, by omega, by omega⟩
theorem cin_of {n k : Nat} (h : k < n) : cin n (k : Int) = true := by
  simp only [cin, Bool.and_eq_true, decide_eq_true_eq]
  omega
theorem innI_ne (o : Option Nat) : (innI o != -1) = o.isSome := by
  cases o with
  | none => rfl
  | some j =>
    have : ((j : Int) != -1) = true := by rw [bne_iff_ne]; omega
    exact this
theorem innI_eq (o : Option Nat) : (innI o == -1) = !o.isSome := by
  cases o with
  | none => rfl
  | some j =>
    have : ((j : Int) == -1) = false := by rw [beq_eq_false_iff_ne]; omega
    exact this
set_option maxRecDepth 100000 in
set_option maxHeartbeats 2000000 in
theorem cwhich_any (c nb P N : Nat) (inn : Nat → Option Nat) (L : Nat → List Nat) (p : Int) (w : World) (h : CM w c nb P N inn L) (_hM : P + N ≤ 4096) :
    Calls Tryz.prog 40 #[.pointer (some ⟨c, 0, none⟩), .int .i64 p] w fun e w' => e = .returned (pairV (whichO P inn p)) ∧ w = w' := by
  obtain ⟨nx, pv, h1, h2⟩ := h.st
  have hp := cplace_any c nb (P + N) P N nx pv inn p w h1
  have hc := h1.blk.cell
  cases hq : cin P p with
  | false =>
    have HW := Lib.hid (show whichO P inn p = none by simp [whichO, hq])
    rw [hq] at hp
    go_enter Tryz.func40, Tryz.ntmps40
    go_wp2_with (go_at_call 66; refine hp.mono ?_; rintro e w' ⟨rfl, rfl⟩)
    refine bodyPost_ret (v := pairV none) (by simp [results, Tryz.results40, go_sem, pairV]) rfl ⟨by rw [HW.out], rfl⟩
  | true =>
    obtain ⟨k, rfl, hk⟩ := cin_nat hq
    have ci := (h1.nod.cell _).trans (nodeC_in (P + N) nx pv inn k (by omega))
    have HW := Lib.hid (show whichO P inn k = (inn k).map fun j => (j : Int) by simp [whichO, hq])
    have e1 := innI_eq (inn k)
    rw [hq] at hp
    have hkM : k < P + N := by omega
    clear h h1 h2 hq
    cases ho : inn k with
    | none =>
      rw [ho] at ci e1
      have HO := Lib.hid ho
      simp only [Option.isSome_none, Bool.not_false, innI] at e1 ci
      clear ho
      go_enter Tryz.func40, Tryz.ntmps40
      go_wp2_with (go_at_call 66; refine hp.mono ?_; rintro e w' ⟨rfl, rfl⟩)
      refine bodyPost_ret (v := pairV none) (by simp [results, Tryz.results40, go_sem, pairV]) rfl ⟨by rw [HW.out, HO.out]; rfl, rfl⟩
    | some j =>
      rw [ho] at ci e1
      have HO := Lib.hid ho
      simp only [Option.isSome_some, Bool.not_true, innI] at e1 ci
      clear ho
      go_enter Tryz.func40, Tryz.ntmps40
      go_wp2_with (go_at_call 66; refine hp.mono ?_; rintro e w' ⟨rfl, rfl⟩)
      refine bodyPost_ret (v := pairV (some (j : Int))) (by simp [results, Tryz.results40, go_sem, pairV]) rfl ⟨by rw [HW.out, HO.out]; rfl, rfl⟩
set_option maxRecDepth 100000 in
set_option maxHeartbeats 2000000 in
theorem cappend_bad (c nb P N : Nat) (inn : Nat → Option Nat) (L : Nat → List Nat) (j p : Int) (w : World) (h : CM w c nb P N inn L) (_hM : P + N ≤ 4096) (hq : cin N j = false ∨ cin P p = false) :
    Calls Tryz.prog 45 #[.pointer (some ⟨c, 0, none⟩), .int .i64 j, .int .i64 p] w fun e w' => e = .returned (.int .i64 1) ∧ w = w' := by
  obtain ⟨nx, pv, h1, h2⟩ := h.st
  have hp := cplace_any c nb (P + N) P N nx pv inn p w h1
  have hl := clist_any c nb (P + N) P N nx pv inn j w h1
  have hc := h1.blk.cell
  cases e1 : cin N j with
  | false =>
    rw [e1] at hl
    clear hq
    go_enter Tryz.func45, Tryz.ntmps45
    go_wp2_with (first | (go_at_call 70; refine hl.mono ?_; rintro e w' ⟨rfl, rfl⟩) | (go_at_call 66; refine hp.mono ?_; rintro e w' ⟨rfl, rfl⟩))
    go_ret
    exact ⟨rfl, rfl⟩
  | true =>
    have e2 : cin P p = false := hq.resolve_left (by rw [e1]; simp)
    rw [e1] at hl
    rw [e2] at hp
    clear hq e1 e2
    go_enter Tryz.func45, Tryz.ntmps45
    go_wp2_with (first | (go_at_call 70; refine hl.mono ?_; rintro e w' ⟨rfl, rfl⟩) | (go_at_call 66; refine hp.mono ?_; rintro e w' ⟨rfl, rfl⟩))
    go_ret
    exact ⟨rfl, rfl⟩
set_option maxRecDepth 100000 in
set_option maxHeartbeats 2000000 in
theorem cappend_twice (c nb P N j i k : Nat) (inn : Nat → Option Nat) (L : Nat → List Nat) (w : World) (h : CM w c nb P N inn L) (hM : P + N ≤ 4096) (hj : j < N) (hi : i < P) (ho : inn i = some k) :
    Calls Tryz.prog 45 #[.pointer (some ⟨c, 0, none⟩), .int .i64 j, .int .i64 i] w fun e w' => e = .returned (.int .i64 4) ∧ w = w' := by
  obtain ⟨nx, pv, h1, h2⟩ := h.st
  have hp := cplace_any c nb (P + N) P N nx pv inn i w h1
  have hl := clist_any c nb (P + N) P N nx pv inn j w h1
  rw [cin_of hi] at hp
  rw [cin_of hj] at hl
  have hc := h1.blk.cell
  have ci := (h1.nod.cell _).trans (nodeC_in (P + N) nx pv inn i (by omega))
  have e1 := innI_ne (inn i)
  rw [ho] at ci e1
  simp only [Option.isSome_some, innI] at e1 ci
  have hkM : i < P + N := by omega
  clear h h1 h2 ho
  go_enter Tryz.func45, Tryz.ntmps45
  go_wp2_with (first | (go_at_call 70; refine hl.mono ?_; rintro e w' ⟨rfl, rfl⟩) | (go_at_call 66; refine hp.mono ?_; rintro e w' ⟨rfl, rfl⟩))
  go_ret
  exact ⟨rfl, rfl⟩
set_option maxRecDepth 100000 in
set_option maxHeartbeats 2000000 in
theorem cappend_ok (c nb P N j i : Nat) (inn : Nat → Option Nat) (L : Nat → List Nat) (w : World) (h : CM w c nb P N inn L) (hM : P + N ≤ 4096) (hj : j < N) (hi : i < P) (ho : inn i = none) :
    Calls Tryz.prog 45 #[.pointer (some ⟨c, 0, none⟩), .int .i64 j, .int .i64 i] w fun e w' => e = .returned (.int .i64 0) ∧ CM w' c nb P N (updO inn i (some j)) (updL L j (L j ++ [i])) ∧ Chg (fun g => g = nb) w w' := by
  obtain ⟨nx, pv, h1, h2⟩ := h.st
  have hp := cplace_any c nb (P + N) P N nx pv inn i w h1
  have hl := clist_any c nb (P + N) P N nx pv inn j w h1
  rw [cin_of hi] at hp
  rw [cin_of hj] at hl
  have hc := h1.blk.cell
  have ci := (h1.nod.cell _).trans (nodeC_in (P + N) nx pv inn i (by omega))
  have e1 := innI_ne (inn i)
  rw [ho] at ci e1
  simp only [Option.isSome_none, innI] at e1 ci
  have hkM : i < P + N := by omega
  have hla : lastOf (P + j) (L j) < P + N := lastOf_lt (by omega) fun x hx => by have := h2.lt hj hx; omega
  have hpu := cput_any c nb (P + N) P N i (P + j) (lastOf (P + j) (L j)) j nx pv inn w h1 hkM (by omega) hla (h2.last hj) hM
  have HK := Lib.hid (h2.put (l1 := L j) (l2 := []) hj (by simp) hi ho)
  have ePj : ((P + j : Nat) : Int) = (P : Int) + (j : Int) := by omega
  rw [ePj] at hpu
  have hwi : (P : Int) + (j : Int) ≤ 9223372036854775807 := by omega
  clear h h1 h2 ho ePj
  go_enter Tryz.func45, Tryz.ntmps45
  go_wp2_with (first | (go_at_call 70; refine hl.mono ?_; rintro e w' ⟨rfl, rfl⟩) | (go_at_call 66; refine hp.mono ?_; rintro e w' ⟨rfl, rfl⟩))
  refine hpu.mono ?_
  rintro e w1 ⟨rfl, g1, k1⟩
  go_wp2_with fail
  go_ret
  exact ⟨rfl, ⟨_, _, g1, HK.out⟩, k1⟩
end Go.Proofs.YtckkfbepclogcaaGreatDoor
namespace Go.Proofs.YtckkfbepclogcaaGreatDoor
open Go.RowKit
set_option maxRecDepth 100000 in
set_option maxHeartbeats 2000000 in
theorem cdrop_bad (c nb P N : Nat) (inn : Nat → Option Nat) (L : Nat → List Nat) (p : Int) (w : World) (h : CM w c nb P N inn L) (_hM : P + N ≤ 4096) (hq : cin P p = false) :
    Calls Tryz.prog 47 #[.pointer (some ⟨c, 0, none⟩), .int .i64 p] w fun e w' => e = .returned (.int .i64 1) ∧ w = w' := by
  obtain ⟨nx, pv, h1, h2⟩ := h.st
  have hp := cplace_any c nb (P + N) P N nx pv inn p w h1
  rw [hq] at hp
  go_enter Tryz.func47, Tryz.ntmps47
  go_wp2_with fail
  refine hp.mono ?_
  rintro e w' ⟨rfl, rfl⟩
  go_wp2_with fail
  go_ret
  exact ⟨rfl, rfl⟩
set_option maxRecDepth 100000 in
set_option maxHeartbeats 2000000 in
theorem cdrop_none (c nb P N i : Nat) (inn : Nat → Option Nat) (L : Nat → List Nat) (w : World) (h : CM w c nb P N inn L) (_hM : P + N ≤ 4096) (hi : i < P) (ho : inn i = none) :
    Calls Tryz.prog 47 #[.pointer (some ⟨c, 0, none⟩), .int .i64 i] w fun e w' => e = .returned (.int .i64 5) ∧ Below w.heap.size w w' := by
  obtain ⟨nx, pv, h1, h2⟩ := h.st
  have hp := cplace_any c nb (P + N) P N nx pv inn i w h1
  rw [cin_of hi] at hp
  have hc := h1.blk.cell
  have hkM : i < P + N := by omega
  have c0 := (h1.nod.cell _).trans (nodeC_nx (P + N) nx pv inn i hkM)
  have c1 := (h1.nod.cell _).trans (nodeC_pv (P + N) nx pv inn i hkM)
  have c2 := (h1.nod.cell _).trans (nodeC_in (P + N) nx pv inn i hkM)
  rw [ho] at c2
  simp only [innI] at c2
  have hl := h1.nod.lt
  clear h h1 h2 ho
  go_enter Tryz.func47, Tryz.ntmps47
  go_wp2_with fail
  refine hp.mono ?_
  rintro e w' ⟨rfl, rfl⟩
  go_wp2_with fail
  go_ret
  exact ⟨rfl, (Below.refl _ _).alloc (Nat.le_refl _) _⟩
set_option maxRecDepth 100000 in
set_option maxHeartbeats 2000000 in
theorem cdrop_ok (c nb P N i j : Nat) (inn : Nat → Option Nat) (L : Nat → List Nat) (w : World) (h : CM w c nb P N inn L) (hM : P + N ≤ 4096) (hi : i < P) (ho : inn i = some j) :
    Calls Tryz.prog 47 #[.pointer (some ⟨c, 0, none⟩), .int .i64 i] w fun e w' => e = .returned (.int .i64 0) ∧ CM w' c nb P N (updO inn i none) (updL L j ((L j).erase i)) ∧ Chg (fun g => g = nb) w w' := by
  obtain ⟨nx, pv, h1, h2⟩ := h.st
  have hp := cplace_any c nb (P + N) P N nx pv inn i w h1
  rw [cin_of hi] at hp
  have hc := h1.blk.cell
  have hkM : i < P + N := by omega
  have c0 := (h1.nod.cell _).trans (nodeC_nx (P + N) nx pv inn i hkM)
  have c1 := (h1.nod.cell _).trans (nodeC_pv (P + N) nx pv inn i hkM)
  have c2 := (h1.nod.cell _).trans (nodeC_in (P + N) nx pv inn i hkM)
  rw [ho] at c2
  simp only [innI] at c2
  obtain ⟨hj, him⟩ := h2.out i hi j ho
  have hl := h1.nod.lt
  obtain ⟨l1, l2, e⟩ := List.append_of_mem him
  have hs := h2.sides hj e
  have hnd := h2.nodup j hj
  have HK := Lib.hid (h2.drop hj e)
  have hL : (L j).erase i = l1 ++ l2 := by
    rw [e] at hnd ⊢
    have hni : i ∉ l1 := fun hx => (List.nodup_append.1 hnd).2.2 i hx i (by simp) rfl
    rw [List.erase_append_right _ hni, List.erase_cons_head]
  have hpa : pv i < P + N := by
    rw [hs.1]
    exact lastOf_lt (by omega) fun x hx => by have := h2.lt hj (show x ∈ L j by rw [e]; simp [hx]); omega
  have hnb : nx i < P + N := by
    rw [hs.2]
    exact headOf_lt (by omega) fun x hx => by have := h2.lt hj (show x ∈ L j by rw [e]; simp [hx]); omega
  rw [← hs.1, ← hs.2, ← hL] at HK
  have hjo := fun (w1 : World) (h3 : CNod w1 c nb (P + N) P N nx pv inn) => cjoin_any c nb (P + N) P N (pv i) (nx i) nx pv inn w1 h3 hpa hnb hM
  generalize pv i = a at *
  generalize nx i = b at *
  have hji : ((j : Int) == -1) = false := by rw [beq_eq_false_iff_ne]; omega
  clear h h2 ho hs hL hnd e him
  go_enter Tryz.func47, Tryz.ntmps47
  go_wp2_with fail
  refine hp.mono ?_
  rintro e w' ⟨rfl, rfl⟩
  have h3 := hjo _ (h1.below ((Below.refl w.heap.size w).alloc (Nat.le_refl _) (.cells #[.int .i64 b, .int .i64 a, .int .i64 j] 114)))
  have hk0 : Chg (fun g => g = nb) w (w.alloc (.cells #[.int .i64 b, .int .i64 a, .int .i64 j] 114)) := (Chg.refl _ w).alloc _
  clear hjo
  go_wp2_with fail
  refine h3.mono ?_
  rintro e w2 ⟨rfl, g1, k1⟩
  have hc2 := g1.blk.cell
  have hz := g1.nod.frozen
  have hl2 := g1.nod.lt
  have d0 := (g1.nod.cell _).trans (nodeC_nx (P + N) _ _ inn i hkM)
  have d1 := (g1.nod.cell _).trans (nodeC_pv (P + N) _ _ inn i hkM)
  have d2 := (g1.nod.cell _).trans (nodeC_in (P + N) _ _ inn i hkM)
  have hs0 := nodeC_set_nx (P + N) (upd nx a b) (upd pv b a) inn i i hkM
  have hs1 := nodeC_set_pv (P + N) (upd (upd nx a b) i i) (upd pv b a) inn i i hkM
  have hs2 := nodeC_set_in (P + N) (upd (upd nx a b) i i) (upd (upd pv b a) i i) inn i none hkM
  have fin : ∀ w3, w3 = ((w2.setCell ⟨nb, i * 3, none⟩ (.int .i64 i)).setCell ⟨nb, i * 3 + 1, none⟩ (.int .i64 i)).setCell ⟨nb, i * 3 + 2, none⟩ (.int .i64 (innI none)) → CM w3 c nb P N (updO inn i none) (updL L j ((L j).erase i)) ∧ Chg (fun g => g = nb) w w3 := by
    rintro w3 rfl
    refine ⟨⟨_, _, ⟨((g1.blk.far g1.ne _).far g1.ne _).far g1.ne _, ?_⟩, HK.out⟩, (((hk0.trans k1 (fun _ _ h => h)).setCell (fun _ => rfl) _).setCell (fun _ => rfl) _).setCell (fun _ => rfl) _⟩
    rw [← hs2, ← hs1, ← hs0]
    exact ((g1.nod.put _ _).put _ _).put _ _
  clear hs0 hs1 hs2 h1 h3 hk0 k1 hc c0 c1 c2
  go_wp2
  go_ret
  exact ⟨rfl, fin _ rfl⟩
end Go.Proofs.YtckkfbepclogcaaGreatDoor
namespace Go.Proofs.YtckkfbepclogcaaGreatDoor
open Go.RowKit
def toldO (P : Nat) (p : Int) : Option Int := if cin P p then some p else none
theorem ctold_any (c nb M P N : Nat) (nx pv : Nat → Nat) (inn : Nat → Option Nat) (p : Int) (w : World) (h : CNod w c nb M P N nx pv inn) :
    Calls Tryz.prog 121 #[.pointer (some ⟨c, 0, none⟩), .int .i64 p] w fun e w' => e = .returned (pairV (toldO P p)) ∧ w = w' := by
  have hp := cplace_any c nb M P N nx pv inn p w h
  unfold toldO
  cases hq : cin P p with
  | false =>
    rw [hq] at hp
    go_enter Tryz.func121, Tryz.ntmps121
    go_wp2_with (go_at_call 66; refine hp.mono ?_; rintro e w' ⟨rfl, rfl⟩)
    refine bodyPost_ret (v := pairV none) (by simp [results, Tryz.results121, go_sem, pairV]) rfl ⟨rfl, rfl⟩
  | true =>
    rw [hq] at hp
    go_enter Tryz.func121, Tryz.ntmps121
    go_wp2_with (go_at_call 66; refine hp.mono ?_; rintro e w' ⟨rfl, rfl⟩)
    refine bodyPost_ret (v := pairV (some p)) (by simp [results, Tryz.results121, go_sem, pairV]) rfl ⟨rfl, rfl⟩
def lastI (l : List Nat) : Option Int := l.getLast?.map fun x => (x : Int)
theorem lastI_nil : lastI [] = none := rfl
theorem lastI_snoc (l : List Nat) (i : Nat) : lastI (l ++ [i]) = some (i : Int) := by simp [lastI]
/-- What is told of the last one of a list, or of what is ahead of one in it. -/
theorem told_last {P j : Nat} {l : List Nat} (h : ∀ x ∈ l, x < P) : toldO P (lastOf (P + j) l : Nat) = lastI l := by
  rcases List.eq_nil_or_concat l with rfl | ⟨r, z, rfl⟩
  · rw [lastOf_nil, lastI_nil]
    unfold toldO cin
    rw [if_neg (by simp; omega)]
  · rw [List.concat_eq_append, lastOf_snoc, lastI_snoc]
    have hz := h z (by simp)
    unfold toldO
    rw [if_pos (cin_of hz)]
set_option maxRecDepth 100000 in
set_option maxHeartbeats 1000000 in
theorem clast_any (c nb P N j : Nat) (inn : Nat → Option Nat) (L : Nat → List Nat) (w : World) (h : CM w c nb P N inn L) (_hM : P + N ≤ 4096) (hj : j < N) :
    Calls Tryz.prog 99 #[.pointer (some ⟨c, 0, none⟩), .int .i64 j] w fun e w' => e = .returned (pairV (lastI (L j))) ∧ Below w.heap.size w w' := by
  obtain ⟨nx, pv, h1, h2⟩ := h.st
  have hl := clist_any c nb (P + N) P N nx pv inn j w h1
  rw [cin_of hj] at hl
  have hc := h1.blk.cell
  have cp := (h1.nod.cell _).trans (nodeC_pv (P + N) nx pv inn (P + j) (by omega))
  have ht := ctold_any c nb (P + N) P N nx pv inn (pv (P + j) : Nat) w.drew h1.drew
  have hbd : Below w.heap.size w w.drew := (Below.refl _ _).drew
  have HL := Lib.hid (told_last (j := j) (l := L j) fun x hx => h2.lt hj hx)
  rw [h2.last hj] at ht cp
  rw [HL.out] at ht
  have cp2 : w.cell? ⟨nb, ((P : Int) + (j : Int)).toNat * 3 + 1, none⟩ = some (.int .i64 (lastOf (P + j) (L j) : Nat)) := by rw [show ((P : Int) + (j : Int)).toNat = P + j by omega]; exact cp
  have hwi : (P : Int) + (j : Int) ≤ 9223372036854775807 := by omega
  have hMj : P + j < P + N := by omega
  have hwj : IntKind.i64.wrap ((P : Int) + (j : Int)) = (P : Int) + (j : Int) := IntWalk.i64_in _ (by omega)
  have hMk : (0 : Int) ≤ (P : Int) + (j : Int) ∧ (P : Int) + (j : Int) < (P : Int) + (N : Int) := by omega
  have hMt : ((P : Int) + (j : Int)).toNat = P + j := by omega
  generalize lastOf (P + j) (L j) = z at *
  generalize lastI (L j) = o at *
  clear h h1 h2 HL
  cases o with
  | none =>
    unfold pairV at ht
    go_enter Tryz.func99, Tryz.ntmps99
    go_wp2_with fail
    refine hl.mono ?_
    rintro e w' ⟨rfl, rfl⟩
    go_wp2_with fail
    refine still_all (by kernel_rfl) (by kernel_rfl) ?_
    iterate 15 still_step
    still_call (flip ht)
    repeat still_step
    refine wpStill_nil ?_
    go_wp2_with fail
    refine bodyPost_ret (v := pairV none) (by simp [results, Tryz.results99, go_sem, pairV]) rfl ⟨rfl, hbd⟩
  | some y =>
    unfold pairV at ht
    go_enter Tryz.func99, Tryz.ntmps99
    go_wp2_with fail
    refine hl.mono ?_
    rintro e w' ⟨rfl, rfl⟩
    go_wp2_with fail
    refine still_all (by kernel_rfl) (by kernel_rfl) ?_
    iterate 15 still_step
    still_call (flip ht)
    repeat still_step
    refine wpStill_nil ?_
    go_wp2_with fail
    refine bodyPost_ret (v := pairV (some y)) (by simp [results, Tryz.results99, go_sem, pairV]) rfl ⟨rfl, hbd⟩
set_option maxRecDepth 100000 in
set_option maxHeartbeats 1000000 in
theorem cprev_any (c nb P N i j : Nat) (l1 l2 : List Nat) (inn : Nat → Option Nat) (L : Nat → List Nat) (w : World) (h : CM w c nb P N inn L) (_hM : P + N ≤ 4096) (hi : i < P) (hin : inn i = some j) (e : L j = l1 ++ i :: l2) :
    Calls Tryz.prog 100 #[.pointer (some ⟨c, 0, none⟩), .int .i64 i] w fun e w' => e = .returned (pairV (lastI l1)) ∧ w = w' := by
  obtain ⟨nx, pv, h1, h2⟩ := h.st
  have hj : j < N := ((h2.inn_some hi).1 hin).1
  have hp := cplace_any c nb (P + N) P N nx pv inn i w h1
  rw [cin_of hi] at hp
  have hc := h1.blk.cell
  have ci := (h1.nod.cell _).trans (nodeC_in (P + N) nx pv inn i (by omega))
  have cp := (h1.nod.cell _).trans (nodeC_pv (P + N) nx pv inn i (by omega))
  have e1 := innI_eq (inn i)
  rw [hin] at ci e1
  simp only [Option.isSome_some, Bool.not_true, innI] at e1 ci
  have ht := ctold_any c nb (P + N) P N nx pv inn (pv i : Nat) w h1
  have HL := Lib.hid (told_last (j := j) (l := l1) fun x hx => h2.lt hj (by rw [e]; exact List.mem_append_left _ hx))
  rw [(h2.sides hj e).1] at ht cp
  rw [HL.out] at ht
  have hiM : i < P + N := by omega
  generalize lastOf (P + j) l1 = z at *
  generalize lastI l1 = o at *
  clear h h1 h2 HL hin e
  cases o with
  | none =>
    unfold pairV at ht
    go_enter Tryz.func100, Tryz.ntmps100
    go_wp2_with fail
    refine hp.mono ?_
    rintro e w' ⟨rfl, rfl⟩
    go_wp2_with fail
    refine ht.mono ?_
    rintro e w' ⟨rfl, rfl⟩
    go_wp2_with fail
    refine bodyPost_ret (v := pairV none) (by simp [results, Tryz.results100, go_sem, pairV]) rfl ⟨rfl, rfl⟩
  | some y =>
    unfold pairV at ht
    go_enter Tryz.func100, Tryz.ntmps100
    go_wp2_with fail
    refine hp.mono ?_
    rintro e w' ⟨rfl, rfl⟩
    go_wp2_with fail
    refine ht.mono ?_
    rintro e w' ⟨rfl, rfl⟩
    go_wp2_with fail
    refine bodyPost_ret (v := pairV (some y)) (by simp [results, Tryz.results100, go_sem, pairV]) rfl ⟨rfl, rfl⟩
set_option maxRecDepth 100000 in
set_option maxHeartbeats 2000000 in
theorem cinsert_ok (c nb P N j i x : Nat) (l1 l2 : List Nat) (inn : Nat → Option Nat) (L : Nat → List Nat) (w : World) (h : CM w c nb P N inn L) (hM : P + N ≤ 4096) (hi : i < P) (hx : x < P) (ho : inn i = none) (hin : inn x = some j) (e : L j = l1 ++ x :: l2) :
    Calls Tryz.prog 101 #[.pointer (some ⟨c, 0, none⟩), .int .i64 i, .int .i64 x] w fun e w' => e = .returned (.int .i64 0) ∧ CM w' c nb P N (updO inn i (some j)) (updL L j (l1 ++ i :: x :: l2)) ∧ Chg (fun g => g = nb) w w' := by
  obtain ⟨nx, pv, h1, h2⟩ := h.st
  have hj : j < N := ((h2.inn_some hx).1 hin).1
  have hp := cplace_any c nb (P + N) P N nx pv inn i w h1
  have hp2 := cplace_any c nb (P + N) P N nx pv inn x w h1
  rw [cin_of hi] at hp
  rw [cin_of hx] at hp2
  have hc := h1.blk.cell
  have ci := (h1.nod.cell _).trans (nodeC_in (P + N) nx pv inn i (by omega))
  have cx := (h1.nod.cell _).trans (nodeC_in (P + N) nx pv inn x (by omega))
  have e1 := innI_ne (inn i)
  have e2 := innI_eq (inn x)
  rw [ho] at ci e1
  rw [hin] at cx e2
  simp only [Option.isSome_none, innI] at e1 ci
  simp only [Option.isSome_some, Bool.not_true, innI] at e2 cx
  have hiM : i < P + N := by omega
  have hxM : x < P + N := by omega
  have hla : lastOf (P + j) l1 < P + N := lastOf_lt (by omega) fun y hy => by have := h2.lt hj (show y ∈ L j by rw [e]; exact List.mem_append_left _ hy); omega
  have hpu := cput_any c nb (P + N) P N i x (lastOf (P + j) l1) j nx pv inn w h1 hiM hxM hla (h2.sides hj e).1 hM
  have HK := Lib.hid (h2.put (l1 := l1) (l2 := x :: l2) hj e hi ho)
  clear h h1 h2 ho hin e
  go_enter Tryz.func101, Tryz.ntmps101
  go_wp2_with fail
  refine hp.mono ?_
  rintro e w' ⟨rfl, rfl⟩
  go_wp2_with fail
  refine hp2.mono ?_
  rintro e w' ⟨rfl, rfl⟩
  go_wp2_with fail
  refine hpu.mono ?_
  rintro e w1 ⟨rfl, g1, k1⟩
  go_wp2_with fail
  go_ret
  exact ⟨rfl, ⟨_, _, g1, HK.out⟩, k1⟩
end Go.Proofs.YtckkfbepclogcaaGreatDoor
