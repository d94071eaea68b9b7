/- The law: the texts LawHS, laid end to end by a program. -/
import Derived.Test.YtckkfbepclogcaaDoorPk19
namespace Go.Proofs.YtckkfbepclogcaaDoor
open Go.RowKit
def FS (g B q : Nat) (t : Timer) (j : Nat) (v : Value) (w : World) : Prop := match j with
  | 0 => v = .pointer (some ⟨q, 0, none⟩)
  | 1 => v = .pointer (some ⟨g, 0, none⟩)
  | 2 => v = .int .u64 t.at_
  | 3 => LF B w v [t]
  | 4 => v = tv t
  | _ => LF B w v [t]
theorem FS.keep {g B q tb nb : Nat} {t : Timer} (h1 : q < B) (h2 : tb < B) (h3 : nb < B) (i j : Nat) (v : Value) (w w' : World) (_ : j ≠ i) (h : FS g B q t j v w) (r : Chg (HS q tb nb) w w') : FS g B q t j v w' := by
  unfold FS at h ⊢
  split at h
  · exact h
  · exact h
  · exact h
  · exact h.chg r (hs_lt h1 h2 h3)
  · exact h
  · exact h.chg r (hs_lt h1 h2 h3)
structure SS (g B q tb c nb n S : Nat) (t : Timer) (b lk : Int) (w0 : World) (p : Nat → Bool) (w : World) : Prop where
  k : Blk w g 37 #[.int .u64 t.at_, .int .u64 t.seq, .int .i64 t.place]
  q0 : p 3 = false → HQ w q tb c nb n S b lk [t]
  q1 : p 3 = true → ∃ b' lk', HQ w q tb c nb n S b' lk' []
  size : B ≤ w.heap.size
  below : Below w0.heap.size w0 w
  tab : TabAt w
/-- Where the wheel's blocks lie. -/
structure QL (g : Nat) (w0 : World) (q tb c nb : Nat) : Prop where
  lg : w0.heap.size ≤ g
  lq : g < q
  lt : g < tb
  lc : g < c
  ln : g < nb
theorem QL.out {g q tb c nb : Nat} {w0 : World} (h : QL g w0 q tb c nb) {i : Nat} (hi : i ≤ g) : ¬ HS q tb nb i := fun e => by
  have := h.lq; have := h.lt; have := h.ln
  unfold HS at e
  omega
theorem SS.quiet {g B q tb c nb n S : Nat} {t : Timer} {b lk : Int} {w0 w w' : World} {p : Nat → Bool} (i : Nat) (h : SS g B q tb c nb n S t b lk w0 p w) (r : Below w.heap.size w w') (hi : i ≠ 3) : SS g B q tb c nb n S t b lk w0 (also p i) w' := by
  have e : also p i 3 = p 3 := also_ne p (fun x => hi x.symm)
  refine ⟨h.k.below r h.k.lt, fun x => (h.q0 (e ▸ x)).below r, fun x => ?_, Nat.le_trans h.size r.size, h.below.trans (Below.mono r h.below.size), h.tab.below r (glob_lt h.tab)⟩
  obtain ⟨b', lk', y⟩ := h.q1 (e ▸ x)
  exact ⟨b', lk', y.below r⟩
theorem due_one (t : Timer) : dueL [t] t.at_ true = [t] ∧ dueL [t] t.at_ false = [] := by simp [dueL]
theorem due_soon (t : Timer) {now : Int} (h : now < t.at_) : dueL [t] now true = [] ∧ dueL [t] now false = [t] := by simp [dueL]; omega
theorem SS.due {g B q tb c nb n S : Nat} {t : Timer} {b lk : Int} {w0 w : World} {p : Nat → Bool} (hT : TabAt w0) (hl : QL g w0 q tb c nb) (z : HSz n S) (h : SS g B q tb c nb n S t b lk w0 p w) (hp : p 3 = false) (ub : U64 b) (ut : U64 t.at_) :
    Calls Tryd.prog 28 #[.pointer (some ⟨q, 0, none⟩), .int .u64 t.at_] w fun e w' => ∃ v, e = .returned v ∧ LF B w' v [t] ∧ Chg (HS q tb nb) w w' ∧ (false = true → Frsh v w w') ∧ SS g B q tb c nb n S t b lk w0 (also p 3) w' := by
  refine (hq_due q tb c nb n S b lk t.at_ [t] w (h.q0 hp) z ub ut h.tab).mono ?_
  rintro e w' ⟨v, rfl, ho, hq, hk⟩
  rw [(due_one t).1] at ho
  rw [(due_one t).2] at hq
  have hg := glob_lt hT
  have l0 := hl.lg
  refine ⟨v, rfl, ho.lf.mono h.size, hk, (fun h => by cases h), h.k.chg hk (hl.out (Nat.le_refl _)), fun x => ?_, fun _ => ⟨_, _, hq⟩, Nat.le_trans h.size hk.size, below_chg h.below (Nat.le_refl _) hk (fun i e => ?_), h.tab.chg hk (hl.out (by omega))⟩
  · rw [also_at] at x
    cases x
  · rcases Nat.lt_or_ge i w0.heap.size with hlt | hge
    · exact absurd e (hl.out (by omega))
    · exact hge
attribute [local irreducible] Calls
set_option maxRecDepth 100000 in
set_option maxHeartbeats 4000000 in
theorem hsoon (P bits base on : Int) (t : Timer) (w : World) (hT : TabAt w) (ub : U64 base) (ut : U64 t.at_) (uo : U64 on) :
    Calls Tryd.prog 5 #[.int .i64 P, .int .i64 bits, .int .u64 base, t.val, .int .u64 on] w fun e w' => e = .returned (.bool true) ∧ Below w.heap.size w w' := by
  have hb0 := alloc_kept' w (.cells #[.int .u64 t.at_, .int .u64 t.seq, .int .i64 t.place] 37)
  have hk0 : Blk (w.alloc (.cells #[.int .u64 t.at_, .int .u64 t.seq, .int .i64 t.place] 37)) w.heap.size 37 #[.int .u64 t.at_, .int .u64 t.seq, .int .i64 t.place] := Blk.new _ _ _
  have hw := hworks (w.alloc (.cells #[.int .u64 t.at_, .int .u64 t.seq, .int .i64 t.place] 37)) (hT.below hb0 (glob_lt hT))
  unfold Timer.val
  go_enter Tryd.func5, Tryd.ntmps5
  go_wp2_with fail
  refine hw.mono ?_
  rintro e w1 ⟨rfl, hx⟩
  have hk := hk0.below hx hk0.lt
  have hb := hb0.trans (Below.mono hx hb0.size)
  have hlt := hk.lt
  clear hw hk0 hb0 hx
  by_cases hok : NewOk P bits
  · have hn := hnew_ok P bits base w1 hok
    have z := slotsN_ok hok
    go_wp2_with fail
    refine hn.mono ?_
    rintro e w2 ⟨q, tb, c, nb, rfl, hq, hx, g1, g2, g3, g4⟩
    replace hk := hk.below hx hlt
    replace hb := hb.trans (Below.mono hx hb.size)
    have hl : QL w.heap.size w q tb c nb := ⟨Nat.le_refl _, by omega, by omega, by omega, by omega⟩
    have hin := hq_ins q tb c nb P.toNat (slotsN bits) base 0 [] t w2 hq z ub ut
    unfold Timer.val at hin
    have hc2 := hk.cell
    clear hn hx g1 g2 g3 g4 hlt hq
    go_wp2_with fail
    refine hin.mono ?_
    rintro e w3 ⟨rfl, hq, hx⟩
    clear hc2
    replace hk := hk.chg hx (hl.out (Nat.le_refl _))
    replace hb := below_chg hb (Nat.le_refl _) hx (fun i e => (by
      rcases Nat.lt_or_ge i w.heap.size with hlt | hge
      · exact absurd e (hl.out (by have := hl.lg; omega))
      · exact hge))
    have hT1 := hT.below hb (glob_lt hT)
    have hc3 := hk.cell
    have hlt := hk.lt
    clear hx hin
    by_cases hc : insC P.toNat [] t = 0
    · have e2 : insL P.toNat [] t = [t] := by unfold insL; rw [if_pos hc]; rfl
      rw [e2] at hq
      rw [hc]
      clear e2 hc
      by_cases hon : on < t.at_
      · have hdu := hq_due q tb c nb P.toNat (slotsN bits) base 0 on [t] w3 hq z ub uo hT1
        rw [(due_soon t hon).1, (due_soon t hon).2] at hdu
        have hs := due_soon t (show t.at_ - 1 < t.at_ by omega)
        have um : U64 (max base on) := by unfold U64 at *; omega
        have ut1 : U64 (t.at_ - 1) := by unfold U64 at *; omega
        have ew : IntKind.u64.wrap (t.at_ - 1) = t.at_ - 1 := IntWalk.u64_in _ (by unfold U64 at *; omega)
        clear hq
        go_wp2_with fail
        refine hdu.mono ?_
        rintro e w4 ⟨v4, rfl, ho4, hq, hx⟩
        obtain ⟨A4, c4, rfl, _⟩ := ho4.at
        clear hc3 hT1 hlt hdu ho4
        replace hk := hk.chg hx (hl.out (Nat.le_refl _))
        replace hb := below_chg hb (Nat.le_refl _) hx (fun i e => (by
          rcases Nat.lt_or_ge i w.heap.size with hlt | hge
          · exact absurd e (hl.out (by have := hl.lg; omega))
          · exact hge))
        have hT1 := hT.below hb (glob_lt hT)
        have hc3 := hk.cell
        have hlt := hk.lt
        have hdu := hq_due q tb c nb P.toNat (slotsN bits) (max base on) (lookL [t] base (slotsN bits) on : Nat) (t.at_ - 1) [t] w4 hq z um ut1 hT1
        rw [hs.1, hs.2] at hdu
        have um2 : U64 (max (max base on) (t.at_ - 1)) := by unfold U64 at *; omega
        clear hs hx hq
        generalize (lookL [t] base (slotsN bits) on : Nat) = lk1 at *
        go_wp2_with fail
        refine hdu.mono ?_
        rintro e w5 ⟨v5, rfl, ho5, hq, hx⟩
        obtain ⟨A5, c5, rfl, _⟩ := ho5.at
        clear hc3 hT1 hlt hdu ho5
        replace hk := hk.chg hx (hl.out (Nat.le_refl _))
        replace hb := below_chg hb (Nat.le_refl _) hx (fun i e => (by
          rcases Nat.lt_or_ge i w.heap.size with hlt | hge
          · exact absurd e (hl.out (by have := hl.lg; omega))
          · exact hge))
        have hT1 := hT.below hb (glob_lt hT)
        have hc3 := hk.cell
        have hlt := hk.lt
        generalize (lookL [t] (max base on) (slotsN bits) (t.at_ - 1) : Nat) = lk2 at *
        generalize max (max base on) (t.at_ - 1) = b2 at *
        have hln : Calls Tryd.prog 20 #[.pointer (some ⟨q, 0, none⟩)] w5 (fun e w' => e = .returned (.int .i64 1) ∧ w5 = w') := hq_len q tb c nb P.toNat (slotsN bits) b2 lk2 [t] w5 hq
        clear hx
        go_wp2_with fail
        refine hln.mono ?_
        rintro e wx ⟨rfl, rfl⟩
        clear hln
        go_upto_region 15 with fail
        clear hc3
        have l5 := hq.lts
        obtain ⟨l5, l6, l7, l8⟩ := l5
        have hs0 : SS w.heap.size w5.heap.size q tb c nb P.toNat (slotsN bits) t b2 lk2 w (fun _ => false) w5.drew := ⟨hk.drew, fun _ => hq.drew, (fun h => by cases h), Nat.le_refl _, hb.drew, hT1.below (Below.refl _ _).drew (glob_lt hT1)⟩
        clear hq hk hb hT1
        generalize hB : w5.heap.size = B at *
        have HB := Lib.hid hB
        clear hB
        refine region_facts_set 6 (fun _ => false) (FS w.heap.size B q t) (SS w.heap.size B q tb c nb P.toNat (slotsN bits) t b2 lk2 w) (fun _ x y => Chg (HS q tb nb) x y) (List.range' 77 6 ++ []) (by kernel_rfl) (by kernel_rfl) (by kernel_rfl) (by decide) (by kernel_rfl) (by kernel_rfl) (FS.keep l5 l6 l8) (fun _ _ _ h => h.size) hs0 ?_ ?_
        · intro fr hfr
          have f1 : fr.getD 12 undef = .pointer (some ⟨q, 0, none⟩) := by rw [hfr]; rfl
          have f3 : fr.getD 8 undef = .pointer (some ⟨w.heap.size, 0, none⟩) := by rw [hfr]; rfl
          clear hfr
          iterate 6
            refine ⟨⟨trivial, ?_⟩, ?_⟩
            · intro ρ w' p hp hdq hρ hd hS
              simp only [DepF, Region.binds, dat, Nat.reduceLT, Nat.reduceAdd, FS, tv, forall_const, and_true, true_and] at hd
              have hcon := hρ.con
              have e1 := (hρ.slot 12 (by kernel_rfl)).trans f1
              have e3 := (hρ.slot 8 (by kernel_rfl)).trans f3
              have hc1 := hS.k.cell
              (try rw [execOp_call_fn _ _ _ _ _ _ _ _ _ (hρ.fn _)])
              go_simp
              (try simp only [GoodQ, FS])
              first
                | exact ⟨rfl, Chg.refl _ _, fun h => absurd h (by decide), hS.quiet _ (Below.refl _ _) (by decide)⟩
                | exact ⟨trivial, Chg.refl _ _, fun h => absurd h (by decide), hS.quiet _ (Below.refl _ _) (by decide)⟩
                | exact ⟨LF.built B w' [t] (by simp [maxLen]) (by simp) hS.size, (Chg.refl _ _).alloc _, fun h => absurd h (by decide), hS.quiet _ (alloc_kept' _ _) (by decide)⟩
                | exact hS.due hT hl z hp (by assumption) ut
          trivial
        · intro vs wa hs hF _
          have h1 : LF B wa (vs 3) [t] := hF 3 (by decide)
          have h3 : LF B wa (vs 5) [t] := hF 5 (by decide)
          have hsm := same_refl (vs 3) (vs 5) _ wa h1.at_ h3.at_ (by simp)
          obtain ⟨b', lk', hqa⟩ := hs.q1 (by decide)
          have hba := hs.below
          clear hF h1 h3 hs0 hs
          simp only [List.range'_succ, List.range'_zero, List.cons_append, List.nil_append, List.append_nil, setAll, List.setIfInBounds_toArray, List.set_cons_zero, List.set_cons_succ, Nat.reduceAdd]
          simp only [List.drop_succ_cons, List.drop_zero]
          go_wp2_with fail
          refine hsm.mono ?_
          rintro e wb ⟨rfl, hx⟩
          have hln : Calls Tryd.prog 20 #[.pointer (some ⟨q, 0, none⟩)] wb (fun e w' => e = .returned (.int .i64 0) ∧ wb = w') := hq_len q tb c nb P.toNat (slotsN bits) b' lk' [] wb (hqa.below hx)
          have HK := Lib.hid (hba.trans (Below.mono hx hba.size))
          clear hsm hx hqa hba
          go_wp2_with fail
          refine hln.mono ?_
          rintro e wx ⟨rfl, rfl⟩
          go_wp2_with fail
          go_ret
          exact ⟨rfl, HK.out⟩
      · go_upto_region 15 with fail
        clear hc3
        have l5 := hq.lts
        obtain ⟨l5, l6, l7, l8⟩ := l5
        have hs0 : SS w.heap.size w3.heap.size q tb c nb P.toNat (slotsN bits) t base 0 w (fun _ => false) w3.drew := ⟨hk.drew, fun _ => hq.drew, (fun h => by cases h), Nat.le_refl _, hb.drew, hT1.below (Below.refl _ _).drew (glob_lt hT1)⟩
        clear hq hk hb hT1
        generalize hB : w3.heap.size = B at *
        have HB := Lib.hid hB
        clear hB
        refine region_facts_set 6 (fun _ => false) (FS w.heap.size B q t) (SS w.heap.size B q tb c nb P.toNat (slotsN bits) t base 0 w) (fun _ x y => Chg (HS q tb nb) x y) (List.range' 77 6 ++ []) (by kernel_rfl) (by kernel_rfl) (by kernel_rfl) (by decide) (by kernel_rfl) (by kernel_rfl) (FS.keep l5 l6 l8) (fun _ _ _ h => h.size) hs0 ?_ ?_
        · intro fr hfr
          have f1 : fr.getD 12 undef = .pointer (some ⟨q, 0, none⟩) := by rw [hfr]; rfl
          have f3 : fr.getD 8 undef = .pointer (some ⟨w.heap.size, 0, none⟩) := by rw [hfr]; rfl
          clear hfr
          iterate 6
            refine ⟨⟨trivial, ?_⟩, ?_⟩
            · intro ρ w' p hp hdq hρ hd hS
              simp only [DepF, Region.binds, dat, Nat.reduceLT, Nat.reduceAdd, FS, tv, forall_const, and_true, true_and] at hd
              have hcon := hρ.con
              have e1 := (hρ.slot 12 (by kernel_rfl)).trans f1
              have e3 := (hρ.slot 8 (by kernel_rfl)).trans f3
              have hc1 := hS.k.cell
              (try rw [execOp_call_fn _ _ _ _ _ _ _ _ _ (hρ.fn _)])
              go_simp
              (try simp only [GoodQ, FS])
              first
                | exact ⟨rfl, Chg.refl _ _, fun h => absurd h (by decide), hS.quiet _ (Below.refl _ _) (by decide)⟩
                | exact ⟨trivial, Chg.refl _ _, fun h => absurd h (by decide), hS.quiet _ (Below.refl _ _) (by decide)⟩
                | exact ⟨LF.built B w' [t] (by simp [maxLen]) (by simp) hS.size, (Chg.refl _ _).alloc _, fun h => absurd h (by decide), hS.quiet _ (alloc_kept' _ _) (by decide)⟩
                | exact hS.due hT hl z hp (by assumption) ut
          trivial
        · intro vs wa hs hF _
          have h1 : LF B wa (vs 3) [t] := hF 3 (by decide)
          have h3 : LF B wa (vs 5) [t] := hF 5 (by decide)
          have hsm := same_refl (vs 3) (vs 5) _ wa h1.at_ h3.at_ (by simp)
          obtain ⟨b', lk', hqa⟩ := hs.q1 (by decide)
          have hba := hs.below
          clear hF h1 h3 hs0 hs
          simp only [List.range'_succ, List.range'_zero, List.cons_append, List.nil_append, List.append_nil, setAll, List.setIfInBounds_toArray, List.set_cons_zero, List.set_cons_succ, Nat.reduceAdd]
          simp only [List.drop_succ_cons, List.drop_zero]
          go_wp2_with fail
          refine hsm.mono ?_
          rintro e wb ⟨rfl, hx⟩
          have hln : Calls Tryd.prog 20 #[.pointer (some ⟨q, 0, none⟩)] wb (fun e w' => e = .returned (.int .i64 0) ∧ wb = w') := hq_len q tb c nb P.toNat (slotsN bits) b' lk' [] wb (hqa.below hx)
          have HK := Lib.hid (hba.trans (Below.mono hx hba.size))
          clear hsm hx hqa hba
          go_wp2_with fail
          refine hln.mono ?_
          rintro e wx ⟨rfl, rfl⟩
          go_wp2_with fail
          go_ret
          exact ⟨rfl, HK.out⟩
    · have e2 : insL P.toNat [] t = [] := by unfold insL; rw [if_neg hc]
      rw [e2] at hq
      have hln : Calls Tryd.prog 20 #[.pointer (some ⟨q, 0, none⟩)] w3 (fun e w' => e = .returned (.int .i64 0) ∧ w3 = w') := hq_len q tb c nb P.toNat (slotsN bits) base 0 [] w3 hq
      have hc2 : (insC P.toNat [] t != 0) = true := by rw [bne_iff_ne]; exact hc
      generalize insC P.toNat [] t = x at *
      have HK := Lib.hid hb
      clear hq e2 hc
      go_wp2_with fail
      refine hln.mono ?_
      rintro e wx ⟨rfl, rfl⟩
      clear hln
      go_wp2_with fail
      go_ret
      exact ⟨rfl, HK.out⟩
  · have hn := hnew_bad P bits base w1 hok
    have HB := Lib.hid hb
    clear hok
    go_wp2_with fail
    refine hn.mono ?_
    rintro e w2 ⟨rfl, rfl⟩
    unfold nilE
    go_wp2_with fail
    go_ret
    exact ⟨rfl, HB.out⟩
end Go.Proofs.YtckkfbepclogcaaDoor
