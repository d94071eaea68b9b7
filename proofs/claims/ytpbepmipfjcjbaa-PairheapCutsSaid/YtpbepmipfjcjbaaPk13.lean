/- Part 13: the texts PhH, laid end to end by a program. -/
import Derived.DefersIn
import Derived.Test.YtpbepmipfjcjbaaPk12
namespace Go.Proofs.Ytpbepmipfjcjbaa
open Go.RowKit

/-- What the memory is in a region with one meld in it (operation m). -/
structure SMe (V : Nat → Prop) (nd : Nat → Nat) (tm : Nat → Timer) (f f2 : Lk) (we : World) (m : Nat) (p : Nat → Bool) (w : World) : Prop where
  nm : NM w V nd tm (if p m = true then f2 else f)
  chg : Chg (NB V nd) we w
section
variable {V : Nat → Prop} {nd : Nat → Nat} {tm : Nat → Timer} {f f2 : Lk} {we w w' : World} {m i : Nat} {p : Nat → Bool}
theorem SMe.other (h : SMe V nd tm f f2 we m p w) (hi : i ≠ m) : SMe V nd tm f f2 we m (also p i) w := by
  have e : also p i m = p m := by simp [also, Ne.symm hi]
  exact ⟨by rw [e]; exact h.nm, h.chg⟩
theorem SMe.meld (h : SMe V nd tm f f2 we m p w) (k : MO V nd tm f2 w w') : SMe V nd tm f f2 we m (also p m) w' :=
  ⟨by simpa [also] using k.nm, h.chg.trans k.chg fun _ _ e => e⟩
end
/-- The closure that gather puts off, behind a range in which nothing else was put off. -/
def GaP (V : Nat → Prop) (nd : Nat → Nat) (tm : Nat → Timer) (f : Lk) (L : List (Nat × BT)) (tb bt : Nat) (w : World) (e : Ending) (w' : World) : Prop :=
  (∃ v, e = .returned v) ∧ ∃ f' M, Forest f' tm M ∧ M.length ≤ 1 ∧ (fids M).Perm (fids L) ∧ (∀ i, i ∉ fids L → f.Eq f' i) ∧ NM w' V nd tm f' ∧ Blk w' bt 69 #[ptrN nd (rootL M)] ∧ Chg (fun g => NB V nd g ∨ g = tb ∨ g = bt) w w'
attribute [local irreducible] Calls
set_option linter.unusedSimpArgs false in
set_option maxRecDepth 100000 in
set_option maxHeartbeats 2000000 in
theorem ph_gather1 (n : Nat) (V : Nat → Prop) (nd : Nat → Nat) (tm : Nat → Timer) (lo : Nat) (f : Lk) (L : List (Nat × BT)) (v : Value) (tb bt : Nat) (w : World) (hF : Forest f tm L) (hV : ∀ i ∈ fids L, V i) (hN : NM w V nd tm f) (hL : PL nd w lo w.heap.size v (L.map (·.1))) (hlo : ∀ i, V i → nd i < lo) (hlw : lo ≤ w.heap.size) (hlen : L.length ≤ 1024)
    (hT : Blk w tb 68 #[v]) (hP : Blk w bt 69 #[.pointer none]) (hne : tb ≠ bt) (ht : lo ≤ tb) (hb : lo ≤ bt) (u : FrameMode) :
    CallsDIn Fence.wide n Try.prog 63 #[.pointer (some ⟨tb, 0, none⟩), .pointer (some ⟨bt, 0, none⟩)] u w fun e u' w' => u' = u ∧ GaP V nd tm f L tb bt w e w' := by
  refine callsDIn_of_wp Try.func63 rfl trivial (wpIn_wide.2 ?_) rfl
  simp only [Try.ntmps63, List.size_toArray, List.length_cons, List.length_nil, Nat.reduceAdd, Nat.reduceSub, Array.replicate_succ, Array.replicate_zero, List.push_toArray, List.append_toArray, List.nil_append, List.cons_append]
  have hpr := ph_pairs V nd tm lo f L v w hF hV hN hL hlo hlw hlen
  have hc := hT.cell
  clear hL
  go_wp2_with fail
  refine hpr.mono ?_
  rintro e w1 ⟨v1, L1, f1, rfl, hF1, hp1, hle1, hEq1, hN1, ho1, hC1⟩
  have hN0 : ∀ g, NB V nd g → g < lo := fun g ⟨i, hi, e⟩ => by have := hlo i hi; omega
  have hT1 := hT.chg hC1 fun e => by have := hN0 _ e; omega
  have hP1 := hP.chg hC1 fun e => by have := hN0 _ e; omega
  have hC1' : Chg (fun g => NB V nd g ∨ g = tb ∨ g = bt) w w1 := hC1.mono fun _ _ e => .inl e
  have hpl1 := ho1.pl (Nat.le_refl _)
  have hwb := hC1.size
  have htl := hT.lt
  have hbl := hP.lt
  have hVf : ∀ i ∈ fids L1, V i := fun i hi => hV i (hp1.mem_iff.1 hi)
  clear hpr hc hT hP hC1 ho1 hF hN
  obtain ⟨A1, c1, rfl, hlc1, hc1m, _, hAb, hAc⟩ := id hpl1
  have HPL := Lib.hid hpl1
  clear hpl1 hAc
  generalize hn1 : (L1.map (·.1)).length = n1 at *
  have HN1 := Lib.hid hn1
  clear hn1
  have hc := hT1.cell
  have hz := hT1.frozen
  have hl := hT1.lt
  have hT2 := hT1.put 0 (.slice A1 n1 c1)
  have hP2 := hP1.far (p := ⟨tb, 0, none⟩) (fun e => hne e.symm) (.slice A1 n1 c1)
  have hK2 := chg_cell w1 tb 0 (.slice A1 n1 c1)
  have hN2 := hN1.chg hK2 fun i hi e => by have := hlo i hi; omega
  have hC2 : Chg (fun g => NB V nd g ∨ g = tb ∨ g = bt) w (w1.setCell ⟨tb, 0, none⟩ (.slice A1 n1 c1)) := hC1'.trans hK2 fun _ _ e => .inr (.inl e)
  have HPL2 := Lib.hid (HPL.out.chg hK2 (fun g g1 _ e => by omega) (Nat.le_refl _))
  have hs2 : (w1.setCell ⟨tb, 0, none⟩ (.slice A1 n1 c1)).heap.size = w1.heap.size := by simp [World.setCell]
  have hc2 := hT2.cell
  simp only [Array.set!_eq_setIfInBounds, List.setIfInBounds_toArray, List.set_cons_zero] at hT2 hc2
  have hz2 := hT2.frozen
  have hsm : n1 ≤ 1024 := by have := HN1.out; simp at this; omega
  clear hN1 hT1 hP1 hC1' hK2 HPL hz2
  go_wp2_with fail
  generalize w1.setCell ⟨tb, 0, none⟩ (.slice A1 n1 c1) = w2 at *
  go_loopw [2] (fun i wr => ∃ (l top : List (Nat × BT)) (f2 : Lk), i = .int .i64 ((l.length : Int) - 1) ∧ l <+: L1 ∧ Forest f2 tm (top ++ l) ∧ top.length ≤ 1 ∧ (fids (top ++ l)).Perm (fids L) ∧ (∀ i, i ∉ fids L → f.Eq f2 i) ∧ NM wr V nd tm f2 ∧ Blk wr bt 69 #[ptrN nd (rootL top)] ∧ Chg (fun g => NB V nd g ∨ g = bt) w2 wr) (fun i _ => (intOf i + 1).toNat)
  case atStart => exact ⟨L1, [], f1, by have := HN1.out; simp at this; rw [this], List.prefix_refl _, by simpa using hF1, by simp, by simpa using hp1, hEq1, hN2, hP2, Chg.refl _ _⟩
  case round =>
    obtain ⟨l, top, f2, rfl, hpre, hF, htop, hp, hEq, hN, hP, hC⟩ := hrel
    have hCw : Chg (fun g => NB V nd g ∨ g = tb ∨ g = bt) w wr := hC2.trans hC fun _ _ e => by
      rcases e with e | e
      · exact .inl e
      · exact .inr (.inr e)
    have hTr := hT2.chg hC fun e => by
      rcases e with e | e
      · have := hN0 _ e; omega
      · exact hne e
    have hcT := hTr.cell
    have hcP := hP.cell
    have hlc := List.eq_nil_or_concat l
    simp only [List.concat_eq_append] at hlc
    rcases hlc with rfl | ⟨l', x, rfl⟩
    · have e0 : (((([] : List (Nat × BT)).length : Nat) : Int) - 1) = -1 := by simp
      rw [e0]
      have HR : Hid (GaP V nd tm f L tb bt w (.returned (.tuple #[])) wr) := Lib.hid ⟨⟨_, rfl⟩, f2, top, by simpa using hF, htop, by simpa using hp, hEq, hN, hP, hCw⟩
      clear hF htop hp hEq hN hP hCw hC hTr hcT hcP hc hN2 hP2 hT2 hc2 hF1 hp1 hEq1 hC2
      go_wp2_with fail
      go_end0
      exact HR.out
    · have e0 : ((((l' ++ [x]).length : Nat) : Int) - 1) = (l'.length : Int) := by simp
      have hF' : Forest f2 tm (top ++ [x] ++ l') := hF.perm (by rw [List.append_assoc]; exact List.perm_append_comm.append_left top)
      have hme := fun w' (hn : NM w' V nd tm f2) => ph_meld_roots hn (A := top) (B := [x]) hF' fun i hi => hV i (hp.mem_iff.1 ((fids_perm (by rw [List.append_assoc]; exact List.perm_append_comm.append_left top)).mem_iff.1 hi))
      have er : rootL [x] = some x.1 := rfl
      rw [er] at hme
      simp only [ptrN_some] at hme
      obtain ⟨D, d1, d2, d3, d4, d5⟩ := hF.fold htop
      obtain ⟨t, ht3⟩ := hpre
      have hk1 : l'.length < L1.length := by rw [← ht3]; simp
      have hxe : L1[l'.length]'hk1 = x := by simp [← ht3]
      obtain ⟨A5, _, e5, _, _, _, hAb5, hAc5⟩ := HPL2.out
      obtain ⟨b, o, hA5, hcx⟩ := hAc5 l'.length (by simpa using hk1)
      injection e5 with e5 e6 e7
      subst e5 e7
      obtain ⟨hb1, hb2⟩ := hAb5 b (by rw [hA5]; rfl)
      subst hA5
      simp only [List.getElem_map, hxe] at hcx
      have hn1 : l'.length < n1 := by have := HN1.out; simp at this; omega
      have hbN : ¬ NB V nd b := fun e => by have := hN0 _ e; omega
      have hbt : b ≠ bt := by omega
      generalize hmo : meldO tm f2 (rootL top) (some x.1) = mo at *
      obtain ⟨f3, rv⟩ := mo
      rw [e0]
      generalize hpv : ptrN nd (rootL top) = pv at *
      generalize hkk : l'.length = k at *
      generalize nd x.1 = gx at *
      have hs0 : SMe V nd tm f2 f3 wr 5 (fun _ => false) wr.drew := ⟨by simpa using hN.drew, (Chg.refl _ _).drew⟩
      have HD := Lib.hid (And.intro d2 (And.intro d3 (And.intro d4 d5)))
      have HPm := Lib.hid hp
      have HE := Lib.hid hEq
      have HL := Lib.hid ht3
      have HK := Lib.hid hkk
      have hcxr : wr.cell? ⟨b, o + k, none⟩ = some (.pointer (some ⟨gx, 0, none⟩)) := (hC.cell (p := ⟨b, o + k, none⟩) (by show b < w2.heap.size; omega) (fun e => by
        rcases e with e | e
        · exact hbN e
        · exact hbt e)).trans hcx
      have hrs := hC.size
      have HMO := Lib.hid hmo
      clear hmo e0 er hxe hk1 hAb hAb5 e6
      have hPb := hP
      clear hpv d2 d3 d4 d5 hp hEq hF hF' ht3 hkk hcx hc hc2 hF1 hp1 hEq1 hN2 hP2 hT2
      go_wp2_with fail
      refine region_facts_set 6 (fun _ => false) (FV [pv, .slice (some ⟨b, o, none⟩) n1 c1, .int .i64 k, .pointer (some ⟨b, o + k, none⟩), .pointer (some ⟨gx, 0, none⟩), ptrN nd rv]) (SMe V nd tm f2 f3 wr 5) (fun _ x y => x.heap.size ≤ y.heap.size) [12, 13, 14, 15, 16, 17] (by kernel_rfl) (by kernel_rfl) (by kernel_rfl) (by decide) (by kernel_rfl) (by kernel_rfl) (fun _ _ _ _ _ _ h _ => h) (fun _ _ _ h => h) hs0 ?_ ?_
      · intro fr hfr
        have f0 : fr.getD 0 undef = .pointer (some ⟨tb, 0, none⟩) := by rw [hfr]; rfl
        have f1 : fr.getD 1 undef = .pointer (some ⟨bt, 0, none⟩) := by rw [hfr]; rfl
        have f2 : fr.getD 2 undef = .int .i64 k := by rw [hfr]; rfl
        clear hfr
        iterate 6
          refine ⟨⟨trivial, ?_⟩, ?_⟩
          · intro ρ w' p hp hdq hρ hd hSt
            simp only [DepF, Region.binds, List.getD_cons_zero, List.getD_cons_succ, FV, forall_const, and_true, true_and] at hd
            have hcon := hρ.con
            have e0 := (hρ.slot 0 (by kernel_rfl)).trans f0
            have e1 := (hρ.slot 1 (by kernel_rfl)).trans f1
            have e2 := (hρ.slot 2 (by kernel_rfl)).trans f2
            have ct := (hTr.chg hSt.chg fun e => by have := hN0 _ e; omega).cell
            have cp := (hPb.chg hSt.chg fun e => by have := hN0 _ e; omega).cell
            have cx := (hSt.chg.cell (p := ⟨b, o + k, none⟩) (by show b < wr.heap.size; omega) hbN).trans hcxr
            (try rw [execOp_call_fn _ _ _ _ _ _ _ _ _ (hρ.fn _)])
            go_simp
            (try simp only [GoodQ, FV, List.getD_cons_zero, List.getD_cons_succ])
            first
              | exact ⟨rfl, Nat.le_refl _, fun h => absurd h (by decide), hSt.other (by decide)⟩
              | exact ⟨trivial, Nat.le_refl _, fun h => absurd h (by decide), hSt.other (by decide)⟩
              | (refine (hme w' (by have := hSt.nm; rw [hp] at this; simpa using this)).mono ?_; rintro e w'' ⟨rfl, hx⟩; exact ⟨_, rfl, rfl, hx.chg.size, fun h => absurd h (by decide), hSt.meld hx⟩)
        trivial
      · intro vs w6 hSt hF _
        have h5 : vs 5 = ptrN nd rv := hF 5 (by decide)
        have hN6 : NM w6 V nd tm f3 := by simpa using hSt.nm
        have hT6 := hTr.chg hSt.chg fun e => by have := hN0 _ e; omega
        have hP6 := hPb.chg hSt.chg fun e => by have := hN0 _ e; omega
        have hC6 : Chg (fun g => NB V nd g ∨ g = bt) w2 w6 := hC.trans hSt.chg fun _ _ e => .inl e
        have hNM7 := hN6.chg (chg_cell w6 bt 0 (ptrN nd rv)) fun i hi e => by have := hlo i hi; omega
        have hP7 := hP6.put 0 (ptrN nd rv)
        have hC7 := hC6.trans (chg_cell w6 bt 0 (ptrN nd rv)) fun _ _ e => .inr e
        simp only [List.setIfInBounds_toArray, List.set_cons_zero] at hP7
        have REL : Hid (∃ (l top : List (Nat × BT)) (f2 : Lk), Value.int .i64 ((k : Int) - 1) = .int .i64 ((l.length : Int) - 1) ∧ l <+: L1 ∧ Forest f2 tm (top ++ l) ∧ top.length ≤ 1 ∧ (fids (top ++ l)).Perm (fids L) ∧ (∀ i, i ∉ fids L → f.Eq f2 i) ∧ NM (w6.setCell ⟨bt, 0, none⟩ (ptrN nd rv)) V nd tm f2 ∧ Blk (w6.setCell ⟨bt, 0, none⟩ (ptrN nd rv)) bt 69 #[ptrN nd (rootL top)] ∧ Chg (fun g => NB V nd g ∨ g = bt) w2 (w6.setCell ⟨bt, 0, none⟩ (ptrN nd rv))) := Lib.hid (by
          obtain ⟨d2, d3, d4, d5⟩ := HD.out
          refine ⟨l', D, f3, by rw [HK.out], ⟨[x] ++ t, by rw [← HL.out]; simp⟩, d2, d1, d4.trans HPm.out, fun i hi => (HE.out i hi).trans (d5 i fun e => hi (HPm.out.mem_iff.1 e)), hNM7, ?_, hC7⟩
          rw [d3]
          exact hP7)
        have cp := hP6.cell
        have zp := hP6.frozen
        have lp := hP6.lt
        simp only [setAll, List.setIfInBounds_toArray, List.set_cons_zero, List.set_cons_succ, Nat.reduceAdd]
        rw [h5]
        simp only [List.drop_succ_cons, List.drop_zero, List.drop_nil]
        clear h5 hF hSt hN6 hT6 hP6 hC6 hNM7 hP7 hC7 hN hP hPb hTr hcT hcP hC hCw hC2 hme hs0 hcxr
        cases rv with
        | none =>
          simp only [ptrN] at REL ⊢
          go_wp2_with fail
          go_roundw
          case rel => exact REL.out
          case measure => simp [intOf]
        | some j =>
          simp only [ptrN] at REL ⊢
          go_wp2_with fail
          go_roundw
          case rel => exact REL.out
          case measure => simp [intOf]
end Go.Proofs.Ytpbepmipfjcjbaa
