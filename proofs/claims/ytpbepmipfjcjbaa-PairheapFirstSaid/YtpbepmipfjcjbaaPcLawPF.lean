/- The law: the texts LawPF, laid end to end by a program. -/
import Derived.Test.YtpbepmipfjcjbaaPk19
namespace Go.Proofs.Ytpbepmipfjcjbaa
open Go.RowKit

theorem LAt.takeP {w : World} {A : Option Addr} {n c : Nat} {l : List Timer} (h : LAt w (.slice A n c) l) (k : Nat) (hk : k ≤ l.length) : LAt w (.slice A k c) (l.take k) := by
  obtain ⟨A', c', e, hT, hc, hm, hA, hg⟩ := h
  injection e with e1 e2 e3
  subst e1 e3
  have hkl : (l.take k).length = k := by simp; omega
  exact ⟨A, c, by rw [hkl], hT.take k, by omega, hm, hA, hg⟩
theorem LAt.dropP {w : World} {a : Addr} {n c : Nat} {l : List Timer} (h : LAt w (.slice (some a) n c) l) (k : Nat) (hk : k ≤ l.length) : LAt w (.slice (if c = k then some a else some (a.add (k * 3))) (n - k) (c - k)) (l.drop k) := by
  obtain ⟨A', c', e, hT, hc, hm, hA, hg⟩ := h
  injection e with e1 e2 e3
  subst e1 e2 e3
  refine ⟨_, c - k, by rw [List.length_drop], ?_, by rw [List.length_drop]; omega, by omega, ?_, ?_⟩
  · by_cases hkl : k < l.length
    · obtain ⟨b, o, e, hb⟩ := hT.form (by omega)
      injection e with e
      subst e
      rw [if_neg (by omega), Addr.add_lit]
      exact hT.drop k
    · rw [List.drop_eq_nil_of_le (by omega)]
      exact TmAt.nil
  · intro e
    split at e <;> cases e
  · intro g e
    refine hg g ?_
    split at e
    · exact e
    · rw [← e]
      simp [Addr.add]
      split <;> rfl
theorem LAt.dropOP {w : World} {A : Option Addr} {n c : Nat} {l : List Timer} (h : LAt w (.slice A n c) l) (k : Nat) (hk : k ≤ l.length) : LAt w (.slice (A.map fun a => if c = k then a else a.add (k * 3)) (n - k) (c - k)) (l.drop k) := by
  cases A with
  | none =>
    obtain ⟨A', c', ee, _, e2, _, e3', _⟩ := id h
    injection ee with ee1 e1 ee3
    have e3 := e3' ee1.symm
    subst ee3
    replace e3 : (none : Option Addr) = none → c = 0 := fun _ => e3
    have := e3 rfl
    have hl0 : l = [] := List.eq_nil_of_length_eq_zero (by omega)
    subst hl0
    have hk0 : k = 0 := by simpa using hk
    subst hk0
    have : n = 0 := by simpa using e1
    subst this
    subst c
    simpa using h
  | some a =>
    have := h.dropP k hk
    by_cases hck : c = k
    · simpa [hck] using this
    · simpa [hck] using this
theorem LAt.dropQ {w : World} {A : Option Addr} {n c : Nat} {l : List Timer} (h : LAt w (.slice A n c) l) (k : Nat) (hk : k ≤ l.length) : LAt w (.slice (if c = k then A else A.map fun a => a.add (k * 3)) (n - k) (c - k)) (l.drop k) := by
  have := h.dropOP k hk
  cases A with
  | none => by_cases hck : c = k <;> simpa [hck] using this
  | some a => by_cases hck : c = k <;> simpa [hck] using this
/-- The first one of those that pend. -/
theorem PQ.first {w : World} {q P : Nat} {x : Timer} {r : List Timer} {G : Nat → Prop} (h : PQ w q P (x :: r) G) : canC P (x :: r) x.place = 0 ∧ canL P (x :: r) x.place = r := by
  obtain ⟨nb, on, nd, tm, f, D, h1, h2, h3, h4, h5⟩ := h.ex
  obtain ⟨i, hi, ho, e⟩ := h4.mem.1 (List.mem_cons_self (a := x) (l := r))
  have hpl := h4.place i hi ho
  rw [e] at hpl
  have hC : canC P (x :: r) x.place = 0 := by
    rw [h4.canC, hpl, if_neg (by omega), Int.toNat_natCast, if_pos ho]
  refine ⟨hC, ?_⟩
  unfold canL
  rw [hC]
  exact without_head h4
theorem OwnT.tm {w : World} {base : Nat} {A : Option Addr} {n c : Nat} {l : List Timer} (h : OwnT w base (.slice A n c) l) : TmAt w w.heap.size A l := by
  obtain ⟨A', c', e, hT, _⟩ := h.at
  injection e with e1
  subst e1
  exact hT
theorem len60 (n : Nat) : (60 < (n : Int)) ∨ ¬ (60 < (n : Int)) := by omega
def FLf (m : List Timer) (l : List Value) (j : Nat) (v : Value) (w : World) : Prop := if j = 1 ∨ j = 7 then LAt w v m else v = l.getD j undef
theorem FLf.keep {m : List Timer} {l : List Value} (i j : Nat) (v : Value) (w w' : World) (_ : j ≠ i) (h : FLf m l j v w) (r : Below w.heap.size w w') : FLf m l j v w' := by
  unfold FLf at h ⊢
  split at h
  · rename_i hj; rw [if_pos hj]; exact h.on r
  · rename_i hj; rw [if_neg hj]; exact h
attribute [local irreducible] Calls
set_option linter.unusedSimpArgs false in
set_option maxRecDepth 100000 in
set_option maxHeartbeats 4000000 in
theorem pfirst (P n : Int) (A : Option Addr) (l : List Act) (c : Nat) (w : World) (hA : AcAt w w.heap.size A l) (hl : l.length ≤ 2 ^ 63 - 1) :
    Calls Try.prog 6 #[.int .i64 P, .slice A l.length c, .int .i64 n] w fun e w' => e = .returned (.bool true) ∧ Below w.heap.size w w' := by
  have hw := pworks w
  go_enter Try.func6, Try.ntmps6
  go_wp2_with fail
  refine hw.mono ?_
  rintro e w1 ⟨rfl, hb1⟩
  clear hw
  have hA1 := hA.below hb1 (Nat.le_refl _)
  by_cases h60 : 60 < l.length ∨ n < 0 ∨ 60 < n
  · have HB := Lib.hid hb1
    clear hA hA1 hb1
    rcases h60 with h60 | h60 | h60
    · go_wp2_with fail
      go_ret
      exact ⟨rfl, HB.out⟩
    · by_cases h : 60 < l.length
      · go_wp2_with fail
        go_ret
        exact ⟨rfl, HB.out⟩
      · go_wp2_with fail
        go_ret
        exact ⟨rfl, HB.out⟩
    · by_cases h : 60 < l.length
      · go_wp2_with fail
        go_ret
        exact ⟨rfl, HB.out⟩
      · go_wp2_with fail
        go_ret
        exact ⟨rfl, HB.out⟩
  · have h1 : ¬ 60 < l.length := fun e => h60 (.inl e)
    have h2 : ¬ n < 0 := fun e => h60 (.inr (.inl e))
    have h3 : ¬ 60 < n := fun e => h60 (.inr (.inr e))
    obtain ⟨k, rfl⟩ : ∃ k : Nat, n = k := ⟨n.toNat, by omega⟩
    clear h60
    by_cases hP : P < 0 ∨ 1024 < P
    · have hbu := pbuilt_bad P A l.length c w1 hP (by omega)
      have HB := Lib.hid hb1
      clear hP hA hA1 hb1
      go_wp2_with fail
      refine hbu.mono ?_
      rintro e wx ⟨rfl, rfl⟩
      clear hbu
      unfold nilE
      go_wp2_with fail
      go_ret
      exact ⟨rfl, HB.out⟩
    · obtain ⟨Pn, rfl⟩ : ∃ p : Nat, P = p := ⟨P.toNat, by omega⟩
      have hP1 : Pn ≤ 1024 := by omega
      have hbu := pbuilt_ok Pn A l c w1 hP1 (by
        intro i hi
        obtain ⟨b, o, e, hb, r⟩ := hA1 i hi
        exact ⟨b, o, e, Nat.lt_of_lt_of_le hb hb1.size, r⟩) (by omega)
      go_wp2_with fail
      refine hbu.mono ?_
      rintro e w2 ⟨q, rfl, hq2, hb2⟩
      clear hbu hA hA1
      generalize hm : behindL Pn l = m at *
      have hq3 := hq2.mono (G' := fun b => w1.heap.size ≤ b ∧ b < w2.heap.size) fun b hb e => ⟨e, hb⟩
      have hal := pq_all hq3 hP1
      have hb2' := hb1.trans (Below.mono hb2 hb1.size)
      have h12 := hb2.size
      clear hq2 hm hb2
      go_wp2_with fail
      refine hal.mono ?_
      rintro e w3 ⟨v, rfl, ho, hx3⟩
      have hq4 := hq3.below hx3
      have hb3 := hb2'.trans (Below.mono hx3 hb2'.size)
      obtain ⟨A3, c3, rfl, _⟩ := id ho.at
      have hml := hq3.len
      clear hal hq3 hb2' hP
      go_wp2_with fail
      have hq4' := Lib.hid hq4
      go_loopw [11] (fun i wr => ∃ j : Nat, j ≤ m.length ∧ j ≤ k ∧ i = .int .i64 j ∧ PQ wr q Pn (m.drop j) (fun b => w1.heap.size ≤ b ∧ b < w2.heap.size) ∧ OwnT wr w2.heap.size (.slice A3 m.length c3) m ∧ Below w.heap.size w wr ∧ w2.heap.size ≤ wr.heap.size) (fun i _ => k - (intOf i).toNat)
      case atStart => exact ⟨0, Nat.zero_le _, Nat.zero_le _, rfl, by simpa using hq4, ho, hb3, hx3.size⟩
      case round =>
        clear hq4 hq4' ho hb3 hx3
        obtain ⟨j, hjm, hjk, rfl, hq, ho, hb, hwz⟩ := hrel
        by_cases hlt : j < k ∧ j < m.length
        · obtain ⟨hl1, hl2⟩ := hlt
          have hdr : m.drop j = m[j] :: m.drop (j + 1) := List.drop_eq_getElem_cons hl2
          rw [hdr] at hq
          obtain ⟨hcc, hcl⟩ := hq.first
          have hmi := pq_min hq
          have hca := fun y (hy : PQ y q Pn (m[j] :: m.drop (j + 1)) (fun b => w1.heap.size ≤ b ∧ b < w2.heap.size)) => pq_can hy hP1 m[j].place
          rw [hcc, hcl] at hca
          rw [show pairT (m[j] :: m.drop (j + 1)).head? = .tuple #[.agg #[.int .u64 m[j].at_, .int .u64 m[j].seq, .int .i64 m[j].place], .bool true] from rfl] at hmi
          obtain ⟨b0, o0, hAe, hb0, c0', c1', c2'⟩ := ho.tm j hl2
          have H0 := Lib.hid ho
          have HB := Lib.hid hb
          have HQ := Lib.hid hq
          have hmn : ((j : Nat) : Int) < m.length := by omega
          have hkn : ((j : Nat) : Int) < k := by omega
          have hbw := hb.size
          generalize hx : m[j] = x at *
          have HX := Lib.hid hx
          clear hx hb ho
          go_wp2_with fail
          refine hmi.mono ?_
          rintro e w4 ⟨rfl, hx4⟩
          have hq5 := (hq.below hx4).below (alloc_kept' w4 (.cells #[.int .u64 x.at_, .int .u64 x.seq, .int .i64 x.place] 35))
          have hca5 := hca _ hq5
          have bx := Blk.new w4 35 #[.int .u64 x.at_, .int .u64 x.seq, .int .i64 x.place]
          have hk5 : Below wr.heap.size wr (w4.alloc (.cells #[.int .u64 x.at_, .int .u64 x.seq, .int .i64 x.place] 35)) := hx4.alloc hx4.size _
          have hs4 := hx4.size
          clear hca hmi hq hx4
          go_upto_region 14 with fail
          generalize w4.alloc (.cells #[.int .u64 x.at_, .int .u64 x.seq, .int .i64 x.place] 35) = w5 at *
          have bxc := bx.cell
          go_wp2_with fail
          refine hca5.mono ?_
          rintro e w6 ⟨rfl, hq6, hc6⟩
          have hO5 : OwnT w5 w2.heap.size (.slice A3 m.length c3) m := ownsRow_keep H0.out fun g hg hv => hk5.block g hg
          have hO6 : OwnT w6 w2.heap.size (.slice A3 m.length c3) m := ownsRow_keep hO5 fun g hg hv => hc6.block g hg fun e => by have := own_base hO5 g hv; omega
          have bx6 := bx.chg hc6 fun e => by omega
          have hb6 : Below w.heap.size w w6 := (HB.out.trans (Below.mono hk5 HB.out.size)).trans (Chg.to_below (hc6.mono (S' := fun b => w1.heap.size ≤ b) fun b _ e => e.1) (by have := hk5.size; have := hbw; have := hwz; omega) |> fun k => Below.mono k hb1.size)
          unfold teV Timer.val
          generalize canT Pn (x :: m.drop (j + 1)) x.place = y at *
          have hk7 := alloc_kept' w6 (.cells #[.int .u64 y.at_, .int .u64 y.seq, .int .i64 y.place] 35)
          have hq7 := hq6.below hk7
          have hO7 := own_below hO6 hk7 (Nat.le_refl _)
          have bx7 := bx6.below hk7 bx6.lt
          have hb7 := hb6.trans (Below.mono hk7 hb6.size)
          have hz7 : w2.heap.size ≤ (w6.alloc (.cells #[.int .u64 y.at_, .int .u64 y.seq, .int .i64 y.place] 35)).heap.size := by have := hk7.size; have := hc6.size; have := hk5.size; omega
          clear hca5 hc6 hO5 hO6 bx bx6 hb6 hk7 hq6 hk5 hq5 bxc
          go_upto_region 15 with fail
          generalize w6.alloc (.cells #[.int .u64 y.at_, .int .u64 y.seq, .int .i64 y.place] 35) = w7 at *
          obtain ⟨b0', o0', hAe', hb0', d0, d1, d2⟩ := (show OwnT w7 w2.heap.size (.slice A3 m.length c3) m from hO7).tm j (by omega)
          rw [hAe] at hAe'
          injection hAe' with hAe'
          injection hAe' with e1 e2
          subst e1 e2
          rw [HX.out] at d0 d1 d2
          subst hAe
          clear c0' c1' c2' hb0 hcl hcc
          generalize hw4 : w4.heap.size = g4 at *
          clear hw4
          have hs0 : Below w7.heap.size w7 w7.drew := (Below.refl _ _).drew
          refine region_facts_set 14 (fun _ => false) (FV [.bool true, .bool false, .bool false, .int .i64 0, .bool false, .bool false, .bool false, .agg #[.int .u64 x.at_, .int .u64 x.seq, .int .i64 x.place], .slice (some ⟨b0, o0, none⟩) m.length c3, .int .i64 j, .pointer (some ⟨b0, o0 + j * 3, none⟩), .agg #[.int .u64 x.at_, .int .u64 x.seq, .int .i64 x.place], .bool false, .bool false]) (fun _ x => Below w7.heap.size w7 x) (fun _ x y => x.heap.size ≤ y.heap.size) [70, 71, 72, 73, 74, 75, 76, 77, 78, 79, 80, 81, 82, 83] (by kernel_rfl) (by kernel_rfl) (by kernel_rfl) (by decide) (by kernel_rfl) (by kernel_rfl) (fun _ _ _ _ _ _ h _ => h) (fun _ _ _ h => h) hs0 ?_ ?_
          · intro fr hfr
            have f13 : fr.getD 13 undef = .bool true := by rw [hfr]; rfl
            have f15 : fr.getD 15 undef = .int .i64 0 := by rw [hfr]; rfl
            have f12 : fr.getD 12 undef = .pointer (some ⟨g4, 0, none⟩) := by rw [hfr]; rfl
            have f10 : fr.getD 10 undef = .slice (some ⟨b0, o0, none⟩) m.length c3 := by rw [hfr]; rfl
            have f11 : fr.getD 11 undef = .int .i64 j := by rw [hfr]; rfl
            clear hfr
            iterate 14
              refine ⟨⟨by first | trivial | exact ⟨rfl, fun _ _ h => h⟩, ?_⟩, ?_⟩
              · intro ρ w' p hp hdq hρ hd hSt
                simp only [DepF, Region.binds, List.getD_cons_zero, List.getD_cons_succ, FV, forall_const, and_true, true_and] at hd
                have hcon := hρ.con
                (have e13 := (hρ.slot 13 (by kernel_rfl)).trans f13; have e15 := (hρ.slot 15 (by kernel_rfl)).trans f15; have e12 := (hρ.slot 12 (by kernel_rfl)).trans f12; have e10 := (hρ.slot 10 (by kernel_rfl)).trans f10; have e11 := (hρ.slot 11 (by kernel_rfl)).trans f11)
                (have eb := (bx7.below hSt bx7.lt).cell; have g0 := (hSt.cell (p := ⟨b0, o0 + j * 3, none⟩) (by exact hb0')).trans d0; have g1 := (hSt.cell (p := ⟨b0, o0 + j * 3 + 1, none⟩) (by exact hb0')).trans d1; have g2 := (hSt.cell (p := ⟨b0, o0 + j * 3 + 2, none⟩) (by exact hb0')).trans d2)
                (try rw [execOp_call_fn _ _ _ _ _ _ _ _ _ (hρ.fn _)])
                go_simp
                (try simp only [GoodQ, FV, List.getD_cons_zero, List.getD_cons_succ])
                first
                  | exact ⟨rfl, Nat.le_refl _, fun h => absurd h (by decide), hSt⟩
                  | exact ⟨trivial, Nat.le_refl _, fun h => absurd h (by decide), hSt⟩
                  | fail
            trivial
          · intro vs w8 hSt hF _
            have h13 : vs 13 = .bool false := hF 13 (by decide)
            have hq8 := hq7.below hSt
            have hO8 := own_below hO7 hSt (Nat.le_refl _)
            have hb8 := hb7.trans (Below.mono hSt hb7.size)
            have hz8 := Nat.le_trans hz7 hSt.size
            simp only [setAll, List.setIfInBounds_toArray, List.set_cons_zero, List.set_cons_succ, Nat.reduceAdd]
            rw [h13]
            simp only [List.drop_succ_cons, List.drop_zero, List.drop_nil]
            clear h13 hF hs0 hSt hq7 hO7 bx7 hb7 hz7 d0 d1 d2
            go_wp2_with fail
            go_roundw
            case rel => exact ⟨j + 1, by omega, by omega, by go_num, hq8, hO8, hb8, hz8⟩
            case measure => simp [intOf]; omega
        · have HQ := Lib.hid hq
          have HO := Lib.hid ho
          have HB := Lib.hid hb
          have hmin : ∃ t : Nat, t ≤ m.length ∧ m.drop j = m.drop t ∧ min (k : Int) m.length = t := by
            by_cases hkm : (k : Int) < m.length
            · exact ⟨k, by omega, by rw [show j = k by omega], by omega⟩
            · exact ⟨m.length, Nat.le_refl _, by rw [show j = m.length by omega], by omega⟩
          have hlt2 : ((j : Nat) : Int) < k ∧ ¬ ((j : Nat) : Int) < m.length ∨ ¬ ((j : Nat) : Int) < k := by omega
          rcases hlt2 with ⟨hl1, hl2⟩ | hl1
          · obtain ⟨t, htm, hdt, hmi⟩ := hmin
            rw [hdt] at hq
            clear ho hb HQ hdt
            go_wp2_with fail
            have hs0 : PQ wr.drew q Pn (m.drop t) (fun b => w1.heap.size ≤ b ∧ b < w2.heap.size) ∧ OwnT wr.drew w2.heap.size (.slice A3 m.length c3) m ∧ Below w.heap.size w wr.drew := ⟨hq.drew, ownsRow_keep HO.out fun g hg hv => rfl, HB.out.drew⟩
            clear hq HB HO
            refine region_facts_set 8 (fun _ => false) (FLf (m.drop t) [.pointer (some ⟨q, 0, none⟩), undef, .slice A3 m.length c3, .int .i64 k, .slice A3 m.length c3, .int .i64 m.length, .int .i64 t]) (fun _ x => PQ x q Pn (m.drop t) (fun b => w1.heap.size ≤ b ∧ b < w2.heap.size) ∧ OwnT x w2.heap.size (.slice A3 m.length c3) m ∧ Below w.heap.size w x) (fun _ x y => Below x.heap.size x y) [84, 85, 86, 87, 88, 89, 90, 91] (by kernel_rfl) (by kernel_rfl) (by kernel_rfl) (by decide) (by kernel_rfl) (by kernel_rfl) FLf.keep (fun _ _ _ h => h.size) hs0 ?_ ?_
            · intro fr hfr
              have f8 : fr.getD 8 undef = .pointer (some ⟨q, 0, none⟩) := by rw [hfr]; rfl
              have f10 : fr.getD 10 undef = .slice A3 m.length c3 := by rw [hfr]; rfl
              have f2 : fr.getD 2 undef = .int .i64 k := by rw [hfr]; rfl
              clear hfr
              iterate 8
                refine ⟨⟨trivial, ?_⟩, ?_⟩
                · intro ρ w' p hp hdq hρ hd hSt
                  simp only [DepF, Region.binds, List.getD_cons_zero, List.getD_cons_succ, FLf, forall_const, and_true, true_and, Nat.reduceEqDiff, if_false, if_true, reduceIte, reduceCtorEq, or_false, false_or, or_self] at hd
                  have hcon := hρ.con
                  have e8 := (hρ.slot 8 (by kernel_rfl)).trans f8
                  have e10 := (hρ.slot 10 (by kernel_rfl)).trans f10
                  have e2 := (hρ.slot 2 (by kernel_rfl)).trans f2
                  (try rw [execOp_call_fn _ _ _ _ _ _ _ _ _ (hρ.fn _)])
                  go_simp
                  (try simp only [GoodQ, FLf, List.getD_cons_zero, List.getD_cons_succ, Nat.reduceEqDiff, if_false, if_true, reduceIte, reduceCtorEq, or_false, false_or, or_self, or_true, true_or])
                  first
                    | exact ⟨rfl, Below.refl _ _, fun h => absurd h (by decide), hSt⟩
                    | exact ⟨trivial, Below.refl _ _, fun h => absurd h (by decide), hSt⟩
                    | exact ⟨LAt.dropQ (OwnT.lat hSt.2.1) t htm, Below.refl _ _, fun h => absurd h (by decide), hSt⟩
                    | exact ⟨congrArg (Value.int .i64) hmi, Below.refl _ _, fun h => absurd h (by decide), hSt⟩
                    | (refine (pq_all hSt.1 hP1).mono ?_
                       rintro e w'' ⟨v', rfl, ho', hk⟩
                       exact ⟨v', rfl, ho'.lat, hk, fun h => absurd h (by decide), hSt.1.below hk, own_below hSt.2.1 hk (Nat.le_refl _), hSt.2.2.trans (Below.mono hk hSt.2.2.size)⟩)
              trivial
            · intro vs w8 hSt hF _
              have h1 : LAt w8 (vs 1) (m.drop t) := hF 1 (by decide)
              have h7 : LAt w8 (vs 7) (m.drop t) := hF 7 (by decide)
              have hsm := same_refl (vs 1) (vs 7) _ w8 h1 h7 (by simp; omega)
              have hb8 := hSt.2.2
              clear hF h1 h7 hs0 hSt
              simp only [setAll, List.setIfInBounds_toArray, List.set_cons_zero, List.set_cons_succ, Nat.reduceAdd]
              simp only [List.drop_succ_cons, List.drop_zero, List.drop_nil]
              go_wp2_with fail
              refine hsm.mono ?_
              rintro e w9 ⟨rfl, hx9⟩
              have HB9 := Lib.hid (hb8.trans (Below.mono hx9 hb8.size))
              clear hsm hx9 hb8
              go_wp2_with fail
              go_ret
              exact ⟨rfl, HB9.out⟩
          · obtain ⟨t, htm, hdt, hmi⟩ := hmin
            rw [hdt] at hq
            clear ho hb HQ hdt
            go_wp2_with fail
            have hs0 : PQ wr.drew q Pn (m.drop t) (fun b => w1.heap.size ≤ b ∧ b < w2.heap.size) ∧ OwnT wr.drew w2.heap.size (.slice A3 m.length c3) m ∧ Below w.heap.size w wr.drew := ⟨hq.drew, ownsRow_keep HO.out fun g hg hv => rfl, HB.out.drew⟩
            clear hq HB HO
            refine region_facts_set 8 (fun _ => false) (FLf (m.drop t) [.pointer (some ⟨q, 0, none⟩), undef, .slice A3 m.length c3, .int .i64 k, .slice A3 m.length c3, .int .i64 m.length, .int .i64 t]) (fun _ x => PQ x q Pn (m.drop t) (fun b => w1.heap.size ≤ b ∧ b < w2.heap.size) ∧ OwnT x w2.heap.size (.slice A3 m.length c3) m ∧ Below w.heap.size w x) (fun _ x y => Below x.heap.size x y) [84, 85, 86, 87, 88, 89, 90, 91] (by kernel_rfl) (by kernel_rfl) (by kernel_rfl) (by decide) (by kernel_rfl) (by kernel_rfl) FLf.keep (fun _ _ _ h => h.size) hs0 ?_ ?_
            · intro fr hfr
              have f8 : fr.getD 8 undef = .pointer (some ⟨q, 0, none⟩) := by rw [hfr]; rfl
              have f10 : fr.getD 10 undef = .slice A3 m.length c3 := by rw [hfr]; rfl
              have f2 : fr.getD 2 undef = .int .i64 k := by rw [hfr]; rfl
              clear hfr
              iterate 8
                refine ⟨⟨trivial, ?_⟩, ?_⟩
                · intro ρ w' p hp hdq hρ hd hSt
                  simp only [DepF, Region.binds, List.getD_cons_zero, List.getD_cons_succ, FLf, forall_const, and_true, true_and, Nat.reduceEqDiff, if_false, if_true, reduceIte, reduceCtorEq, or_false, false_or, or_self] at hd
                  have hcon := hρ.con
                  have e8 := (hρ.slot 8 (by kernel_rfl)).trans f8
                  have e10 := (hρ.slot 10 (by kernel_rfl)).trans f10
                  have e2 := (hρ.slot 2 (by kernel_rfl)).trans f2
                  (try rw [execOp_call_fn _ _ _ _ _ _ _ _ _ (hρ.fn _)])
                  go_simp
                  (try simp only [GoodQ, FLf, List.getD_cons_zero, List.getD_cons_succ, Nat.reduceEqDiff, if_false, if_true, reduceIte, reduceCtorEq, or_false, false_or, or_self, or_true, true_or])
                  first
                    | exact ⟨rfl, Below.refl _ _, fun h => absurd h (by decide), hSt⟩
                    | exact ⟨trivial, Below.refl _ _, fun h => absurd h (by decide), hSt⟩
                    | exact ⟨LAt.dropQ (OwnT.lat hSt.2.1) t htm, Below.refl _ _, fun h => absurd h (by decide), hSt⟩
                    | exact ⟨congrArg (Value.int .i64) hmi, Below.refl _ _, fun h => absurd h (by decide), hSt⟩
                    | (refine (pq_all hSt.1 hP1).mono ?_
                       rintro e w'' ⟨v', rfl, ho', hk⟩
                       exact ⟨v', rfl, ho'.lat, hk, fun h => absurd h (by decide), hSt.1.below hk, own_below hSt.2.1 hk (Nat.le_refl _), hSt.2.2.trans (Below.mono hk hSt.2.2.size)⟩)
              trivial
            · intro vs w8 hSt hF _
              have h1 : LAt w8 (vs 1) (m.drop t) := hF 1 (by decide)
              have h7 : LAt w8 (vs 7) (m.drop t) := hF 7 (by decide)
              have hsm := same_refl (vs 1) (vs 7) _ w8 h1 h7 (by simp; omega)
              have hb8 := hSt.2.2
              clear hF h1 h7 hs0 hSt
              simp only [setAll, List.setIfInBounds_toArray, List.set_cons_zero, List.set_cons_succ, Nat.reduceAdd]
              simp only [List.drop_succ_cons, List.drop_zero, List.drop_nil]
              go_wp2_with fail
              refine hsm.mono ?_
              rintro e w9 ⟨rfl, hx9⟩
              have HB9 := Lib.hid (hb8.trans (Below.mono hx9 hb8.size))
              clear hsm hx9 hb8
              go_wp2_with fail
              go_ret
              exact ⟨rfl, HB9.out⟩
end Go.Proofs.Ytpbepmipfjcjbaa
