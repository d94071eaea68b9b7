/- Part 8: the texts PhX PhY, laid end to end by a program. -/
import Derived.LaidEql
import Derived.Test.YtpbepmipfjcjbaaPk7
import Derived.Test.YtpbepmipfjcjbaaPk3
namespace Go.Proofs.Ytpbepmipfjcjbaa
open Go.RowKit
/-- The queue's own block. -/
def QB (w : World) (q nb P : Nat) (nd : Nat → Nat) (root : Option Nat) (n : Int) : Prop := Blk w q 71 #[.slice (some ⟨nb, 0, none⟩) P P, ptrN nd root, .int .i64 n]
theorem under_ptr : Try.prog.underlying 69 = some (.pointer 82) := by kernel_rfl
theorem info_node : (Try.prog.info? 82).map (·.size) = some 6 := by kernel_rfl
set_option linter.unusedSimpArgs false in
theorem eqP_same (a : Addr) (w : World) : (binOp .eql 69 (.pointer (some a)) (.pointer (some a))).run Try.prog w = .ok (.bool true) w := by
  obtain ⟨i, hi, hs⟩ : ∃ i, Try.prog.info? 82 = some i ∧ i.size = 6 := by
    have := info_node
    cases h : Try.prog.info? 82 with
    | none => rw [h] at this; cases this
    | some i => rw [h] at this; exact ⟨i, rfl, by simpa using this⟩
  have hd : ∀ d : Nat, (Op.equalIn (d + 1) 69 (.pointer (some a)) (.pointer (some a))).run Try.prog w = .ok true w := fun d => by simp [Op.equalIn, run_underlying under_ptr, sizeOf, typeInfo, hi, hs, run_sameAddr_same]
  simp only [binOp]
  simp [Op.equal, Op.maxDepth, hd 9999]
theorem eqP_nil (a : Addr) (w : World) : (binOp .eql 69 (.pointer none) (.pointer (some a))).run Try.prog w = .ok (.bool false) w := by
  have hd : ∀ d : Nat, (Op.equalIn (d + 1) 69 (.pointer none) (.pointer (some a))).run Try.prog w = .ok false w := fun d => by simp [Op.equalIn, run_underlying under_ptr]
  simp only [binOp]
  simp [Op.equal, Op.maxDepth, hd 9999]
theorem eqP_other {w : World} {g h : Nat} {t u : TypeId} {cs ds : Array Value} (hg : Blk w g t cs) (hh : Blk w h u ds) (hne : g ≠ h) : (binOp .eql 69 (.pointer (some ⟨g, 0, none⟩)) (.pointer (some ⟨h, 0, none⟩))).run Try.prog w = .ok (.bool false) w := by
  obtain ⟨i, hi, hs⟩ : ∃ i, Try.prog.info? 82 = some i ∧ i.size = 6 := by
    have := info_node
    cases h : Try.prog.info? 82 with
    | none => rw [h] at this; cases this
    | some i => rw [h] at this; exact ⟨i, rfl, by simpa using this⟩
  have h1 := run_sameAddr_other (P := Try.prog) (a := ⟨g, 0, none⟩) (b := ⟨h, 0, none⟩) w (fun e => hne (by injection e)) hg hh
  have hd : ∀ d : Nat, (Op.equalIn (d + 1) 69 (.pointer (some ⟨g, 0, none⟩)) (.pointer (some ⟨h, 0, none⟩))).run Try.prog w = .ok false w := fun d => by simp [Op.equalIn, run_underlying under_ptr, sizeOf, typeInfo, hi, hs, h1]
  simp only [binOp]
  simp [Op.equal, Op.maxDepth, hd 9999]
set_option maxRecDepth 100000 in
theorem ph_cut_top (q nb P : Nat) (nd : Nat → Nat) (x : Nat) (n : Int) (w : World) (hq : QB w q nb P nd (some x) n) :
    Calls Try.prog 49 #[.pointer (some ⟨q, 0, none⟩), ptrN nd (some x)] w fun e w' => e = .returned (.tuple #[]) ∧ w' = w.setCell ⟨q, 1, none⟩ (.pointer none) := by
  have hc := hq.cell
  have hz := hq.frozen
  have hl := hq.lt
  have hE := fun g => eqP_same ⟨g, 0, none⟩ w
  simp only [ptrN] at hc ⊢
  generalize nd x = gx at *
  clear hq
  go_enter Try.func49, Try.ntmps49
  go_wp2_with fail
  refine bodyPost_ret (results_none rfl _ _ _) rfl ?_
  exact ⟨rfl, rfl⟩
/-- The stores of cut. -/
theorem cut_stores {w : World} {V : Nat → Prop} {nd : Nat → Nat} {tm : Nat → Timer} {f g : Lk} {x : Nat} (h : NM w V nd tm g) (hx : V x) (hk : Chg (NB V nd) w w) (e : ({ bl := g.bl, bs := updO g.bs x none, bk := updO g.bk x none } : Lk) = cutF f x) :
    MO V nd tm (cutF f x) w ((w.setCell ⟨nd x, 4, none⟩ (.pointer none)).setCell ⟨nd x, 5, none⟩ (.pointer none)) := by
  have h1 := (h.bs hx none).bk hx none
  rw [← e]
  exact ⟨h1, (hk.setCell (p := ⟨nd x, 4, none⟩) (fun _ => ⟨x, hx, rfl⟩) _).setCell (p := ⟨nd x, 5, none⟩) (fun _ => ⟨x, hx, rfl⟩) _⟩
attribute [local irreducible] Calls
set_option linter.unusedSimpArgs false in
set_option maxRecDepth 100000 in
set_option maxHeartbeats 4000000 in
theorem ph_cut (q nb P : Nat) (V : Nat → Prop) (nd : Nat → Nat) (tm : Nat → Timer) (f : Lk) (root : Option Nat) (x p : Nat) (n : Int) (w : World) (h : NM w V nd tm f) (hq : QB w q nb P nd root n) (hx : V x) (hr : root ≠ some x) (hrv : ∀ r, root = some r → V r) (hk : f.bk x = some p) (hp : V p) (hpx : p ≠ x) (hc : ∀ c, f.bl p = some c → V c) (hy : ∀ y, f.bs x = some y → V y ∧ y ≠ x) :
    Calls Try.prog 49 #[.pointer (some ⟨q, 0, none⟩), ptrN nd (some x)] w fun e w' => e = .returned (.tuple #[]) ∧ MO V nd tm (cutF f x) w w' := by
  have cq := hq.cell
  have bx := (h.blk x hx).cell
  have bp := (h.blk p hp).cell
  unfold ndC at bx bp
  have npx : nd p ≠ nd x := fun e => hpx (h.inj p x hp hx e)
  have nxp := npx.symm
  have hR : (binOp .eql 69 (.pointer (some ⟨nd x, 0, none⟩)) (ptrN nd root)).run Try.prog w = .ok (.bool false) w := by
    cases root with
    | none => rw [ptrN]; rw [run_eql_pointer_nil w _ _ (by kernel_rfl)]; rfl
    | some r => exact eqP_other (h.blk x hx) (h.blk r (hrv r rfl)) fun e => hr (by rw [h.inj x r hx (hrv r rfl) e])
  generalize ptrN nd root = rv at *
  rw [hk] at bx
  simp only [ptrN_some] at bx ⊢
  by_cases hb : f.bl p = some x
  · have hE := eqP_same ⟨nd x, 0, none⟩ w
    rw [hb, ptrN_some] at bp
    clear hr hrv hc
    cases hs : f.bs x with
    | none =>
      rw [hs, ptrN] at bx
      go_enter Try.func49, Try.ntmps49
      go_wp2_with fail
      refine still_tail 10 (by kernel_rfl) (by kernel_rfl) ?_
      repeat still_step
      refine wpStill_nil ?_
      have hN := h.drew
      have hk1 : Chg (NB V nd) w w.drew := Chg.of_same (Below.refl _ _).drew _
      have bp := (hN.blk p hp).cell
      have zp := (hN.blk p hp).frozen
      have lp := (hN.blk p hp).lt
      unfold ndC at bp
      have hN2 := hN.bl hp (f.bs x)
      have hk2 := hk1.setCell (p := ⟨nd p, 3, none⟩) (fun _ => ⟨p, hp, rfl⟩) (.pointer none)
      obtain ⟨F, hF⟩ : ∃ F : Lk, F = { f with bl := updO f.bl p (f.bs x) } := ⟨_, rfl⟩
      rw [← hF, hs] at hN2
      have e1 : F.bs x = f.bs x := by subst hF; first | rfl | exact updO_ne _ _ hpx.symm
      have e2 : F.bk x = f.bk x := by subst hF; rfl
      clear h hq hN hk1
      change NM (w.drew.setCell ⟨nd p, 3, none⟩ (.pointer none)) V nd tm F at hN2
      generalize w.drew = w1 at *
      go_upto_region 5 with fail
      generalize w1.setCell ⟨nd p, 3, none⟩ (.pointer none) = w2 at *
      have bx := (hN2.blk x hx).cell
      have zx := (hN2.blk x hx).frozen
      have lx := (hN2.blk x hx).lt
      unfold ndC at bx
      rw [e1, e2, hs, hk, ptrN_some] at bx
      clear bp zp lp
      rw [ptrN] at bx
      have HM := Lib.hid (cut_stores (f := f) hN2 hx (Chg.refl _ _) (by rw [hF]; unfold cutF; simp [hk, hb, hs]))
      clear hN2
      go_wp2_with fail
      go_end0
      exact ⟨rfl, HM.out.nm, hk2.trans HM.out.chg (fun _ _ h => h)⟩
    | some y =>
      rw [hs, ptrN_some] at bx
      go_enter Try.func49, Try.ntmps49
      go_wp2_with fail
      refine still_tail 10 (by kernel_rfl) (by kernel_rfl) ?_
      repeat still_step
      refine wpStill_nil ?_
      have hN := h.drew
      have hk1 : Chg (NB V nd) w w.drew := Chg.of_same (Below.refl _ _).drew _
      have bp := (hN.blk p hp).cell
      have zp := (hN.blk p hp).frozen
      have lp := (hN.blk p hp).lt
      unfold ndC at bp
      have hN2 := hN.bl hp (f.bs x)
      have hk2 := hk1.setCell (p := ⟨nd p, 3, none⟩) (fun _ => ⟨p, hp, rfl⟩) (.pointer (some ⟨nd y, 0, none⟩))
      obtain ⟨F, hF⟩ : ∃ F : Lk, F = { f with bl := updO f.bl p (f.bs x) } := ⟨_, rfl⟩
      rw [← hF, hs] at hN2
      have e1 : F.bs x = f.bs x := by subst hF; first | rfl | exact updO_ne _ _ hpx.symm
      have e2 : F.bk x = f.bk x := by subst hF; rfl
      clear h hq hN hk1
      change NM (w.drew.setCell ⟨nd p, 3, none⟩ (.pointer (some ⟨nd y, 0, none⟩))) V nd tm F at hN2
      generalize w.drew = w1 at *
      go_upto_region 5 with fail
      generalize w1.setCell ⟨nd p, 3, none⟩ (.pointer (some ⟨nd y, 0, none⟩)) = w2 at *
      have bx := (hN2.blk x hx).cell
      have zx := (hN2.blk x hx).frozen
      have lx := (hN2.blk x hx).lt
      unfold ndC at bx
      rw [e1, e2, hs, hk, ptrN_some] at bx
      clear bp zp lp
      rw [ptrN_some] at bx
      have hyV := (hy y hs).1
      have hyx := (hy y hs).2
      have nyx : nd y ≠ nd x := fun e => hyx (hN2.inj y x hyV hx e)
      have nxy := nyx.symm
      go_wp2_with fail
      refine still_tail 10 (by kernel_rfl) (by kernel_rfl) ?_
      repeat still_step
      refine wpStill_nil ?_
      have hN := hN2.drew
      have zy := (hN.blk y hyV).frozen
      have ly := (hN.blk y hyV).lt
      have by_ := (hN.blk y hyV).cell
      have zx' := (hN.blk x hx).frozen
      have lx' := (hN.blk x hx).lt
      unfold ndC at by_
      have hN3 := hN.bk hyV (f.bk x)
      have hk3 := (hk2.trans (Chg.of_same (Below.refl _ _).drew _) (fun _ _ h => h)).setCell (p := ⟨nd y, 5, none⟩) (fun _ => ⟨y, hyV, rfl⟩) (.pointer (some ⟨nd p, 0, none⟩))
      rw [hk] at hN3
      change NM (w2.drew.setCell ⟨nd y, 5, none⟩ (.pointer (some ⟨nd p, 0, none⟩))) V nd tm { F with bk := updO F.bk y (some p) } at hN3
      clear hN2 hN hk2 bx zx lx
      generalize w2.drew = w3 at *
      go_upto_region 7 with fail
      generalize w3.setCell ⟨nd y, 5, none⟩ (.pointer (some ⟨nd p, 0, none⟩)) = w4 at *
      have bx := (hN3.blk x hx).cell
      have zx := (hN3.blk x hx).frozen
      have lx := (hN3.blk x hx).lt
      clear zy ly by_ zx' lx'
      have HM := Lib.hid (cut_stores (f := f) hN3 hx (Chg.refl _ _) (by rw [hF]; unfold cutF; simp [hk, hb, hs]))
      clear hN3
      go_wp2_with fail
      go_end0
      exact ⟨rfl, HM.out.nm, hk3.trans HM.out.chg (fun _ _ h => h)⟩
  · cases hc2 : f.bl p with
    | none =>
      have hE := eqP_nil ⟨nd x, 0, none⟩ w
      rw [hc2, ptrN] at bp
      clear hr hrv hc
      cases hs : f.bs x with
      | none =>
        rw [hs, ptrN] at bx
        go_enter Try.func49, Try.ntmps49
        go_wp2_with fail
        refine still_tail 10 (by kernel_rfl) (by kernel_rfl) ?_
        repeat still_step
        refine wpStill_nil ?_
        have hN := h.drew
        have hk1 : Chg (NB V nd) w w.drew := Chg.of_same (Below.refl _ _).drew _
        have bp := (hN.blk p hp).cell
        have zp := (hN.blk p hp).frozen
        have lp := (hN.blk p hp).lt
        unfold ndC at bp
        have hN2 := hN.bs hp (f.bs x)
        have hk2 := hk1.setCell (p := ⟨nd p, 4, none⟩) (fun _ => ⟨p, hp, rfl⟩) (.pointer none)
        obtain ⟨F, hF⟩ : ∃ F : Lk, F = { f with bs := updO f.bs p (f.bs x) } := ⟨_, rfl⟩
        rw [← hF, hs] at hN2
        have e1 : F.bs x = f.bs x := by subst hF; first | rfl | exact updO_ne _ _ hpx.symm
        have e2 : F.bk x = f.bk x := by subst hF; rfl
        clear h hq hN hk1
        change NM (w.drew.setCell ⟨nd p, 4, none⟩ (.pointer none)) V nd tm F at hN2
        generalize w.drew = w1 at *
        go_upto_region 5 with fail
        generalize w1.setCell ⟨nd p, 4, none⟩ (.pointer none) = w2 at *
        have bx := (hN2.blk x hx).cell
        have zx := (hN2.blk x hx).frozen
        have lx := (hN2.blk x hx).lt
        unfold ndC at bx
        rw [e1, e2, hs, hk, ptrN_some] at bx
        clear bp zp lp
        rw [ptrN] at bx
        have HM := Lib.hid (cut_stores (f := f) hN2 hx (Chg.refl _ _) (by rw [hF]; unfold cutF; simp [hk, hb, hs]))
        clear hN2
        go_wp2_with fail
        go_end0
        exact ⟨rfl, HM.out.nm, hk2.trans HM.out.chg (fun _ _ h => h)⟩
      | some y =>
        rw [hs, ptrN_some] at bx
        go_enter Try.func49, Try.ntmps49
        go_wp2_with fail
        refine still_tail 10 (by kernel_rfl) (by kernel_rfl) ?_
        repeat still_step
        refine wpStill_nil ?_
        have hN := h.drew
        have hk1 : Chg (NB V nd) w w.drew := Chg.of_same (Below.refl _ _).drew _
        have bp := (hN.blk p hp).cell
        have zp := (hN.blk p hp).frozen
        have lp := (hN.blk p hp).lt
        unfold ndC at bp
        have hN2 := hN.bs hp (f.bs x)
        have hk2 := hk1.setCell (p := ⟨nd p, 4, none⟩) (fun _ => ⟨p, hp, rfl⟩) (.pointer (some ⟨nd y, 0, none⟩))
        obtain ⟨F, hF⟩ : ∃ F : Lk, F = { f with bs := updO f.bs p (f.bs x) } := ⟨_, rfl⟩
        rw [← hF, hs] at hN2
        have e1 : F.bs x = f.bs x := by subst hF; first | rfl | exact updO_ne _ _ hpx.symm
        have e2 : F.bk x = f.bk x := by subst hF; rfl
        clear h hq hN hk1
        change NM (w.drew.setCell ⟨nd p, 4, none⟩ (.pointer (some ⟨nd y, 0, none⟩))) V nd tm F at hN2
        generalize w.drew = w1 at *
        go_upto_region 5 with fail
        generalize w1.setCell ⟨nd p, 4, none⟩ (.pointer (some ⟨nd y, 0, none⟩)) = w2 at *
        have bx := (hN2.blk x hx).cell
        have zx := (hN2.blk x hx).frozen
        have lx := (hN2.blk x hx).lt
        unfold ndC at bx
        rw [e1, e2, hs, hk, ptrN_some] at bx
        clear bp zp lp
        rw [ptrN_some] at bx
        have hyV := (hy y hs).1
        have hyx := (hy y hs).2
        have nyx : nd y ≠ nd x := fun e => hyx (hN2.inj y x hyV hx e)
        have nxy := nyx.symm
        go_wp2_with fail
        refine still_tail 10 (by kernel_rfl) (by kernel_rfl) ?_
        repeat still_step
        refine wpStill_nil ?_
        have hN := hN2.drew
        have zy := (hN.blk y hyV).frozen
        have ly := (hN.blk y hyV).lt
        have by_ := (hN.blk y hyV).cell
        have zx' := (hN.blk x hx).frozen
        have lx' := (hN.blk x hx).lt
        unfold ndC at by_
        have hN3 := hN.bk hyV (f.bk x)
        have hk3 := (hk2.trans (Chg.of_same (Below.refl _ _).drew _) (fun _ _ h => h)).setCell (p := ⟨nd y, 5, none⟩) (fun _ => ⟨y, hyV, rfl⟩) (.pointer (some ⟨nd p, 0, none⟩))
        rw [hk] at hN3
        change NM (w2.drew.setCell ⟨nd y, 5, none⟩ (.pointer (some ⟨nd p, 0, none⟩))) V nd tm { F with bk := updO F.bk y (some p) } at hN3
        clear hN2 hN hk2 bx zx lx
        generalize w2.drew = w3 at *
        go_upto_region 7 with fail
        generalize w3.setCell ⟨nd y, 5, none⟩ (.pointer (some ⟨nd p, 0, none⟩)) = w4 at *
        have bx := (hN3.blk x hx).cell
        have zx := (hN3.blk x hx).frozen
        have lx := (hN3.blk x hx).lt
        clear zy ly by_ zx' lx'
        have HM := Lib.hid (cut_stores (f := f) hN3 hx (Chg.refl _ _) (by rw [hF]; unfold cutF; simp [hk, hb, hs]))
        clear hN3
        go_wp2_with fail
        go_end0
        exact ⟨rfl, HM.out.nm, hk3.trans HM.out.chg (fun _ _ h => h)⟩
    | some c =>
      have hE : (binOp .eql 69 (.pointer (some ⟨nd c, 0, none⟩)) (.pointer (some ⟨nd x, 0, none⟩))).run Try.prog w = .ok (.bool false) w := eqP_other (h.blk c (hc c hc2)) (h.blk x hx) fun e => hb (by rw [hc2, h.inj c x (hc c hc2) hx e])
      rw [hc2, ptrN_some] at bp
      clear hr hrv hc
      cases hs : f.bs x with
      | none =>
        rw [hs, ptrN] at bx
        go_enter Try.func49, Try.ntmps49
        go_wp2_with fail
        refine still_tail 10 (by kernel_rfl) (by kernel_rfl) ?_
        repeat still_step
        refine wpStill_nil ?_
        have hN := h.drew
        have hk1 : Chg (NB V nd) w w.drew := Chg.of_same (Below.refl _ _).drew _
        have bp := (hN.blk p hp).cell
        have zp := (hN.blk p hp).frozen
        have lp := (hN.blk p hp).lt
        unfold ndC at bp
        have hN2 := hN.bs hp (f.bs x)
        have hk2 := hk1.setCell (p := ⟨nd p, 4, none⟩) (fun _ => ⟨p, hp, rfl⟩) (.pointer none)
        obtain ⟨F, hF⟩ : ∃ F : Lk, F = { f with bs := updO f.bs p (f.bs x) } := ⟨_, rfl⟩
        rw [← hF, hs] at hN2
        have e1 : F.bs x = f.bs x := by subst hF; first | rfl | exact updO_ne _ _ hpx.symm
        have e2 : F.bk x = f.bk x := by subst hF; rfl
        clear h hq hN hk1
        change NM (w.drew.setCell ⟨nd p, 4, none⟩ (.pointer none)) V nd tm F at hN2
        generalize w.drew = w1 at *
        go_upto_region 5 with fail
        generalize w1.setCell ⟨nd p, 4, none⟩ (.pointer none) = w2 at *
        have bx := (hN2.blk x hx).cell
        have zx := (hN2.blk x hx).frozen
        have lx := (hN2.blk x hx).lt
        unfold ndC at bx
        rw [e1, e2, hs, hk, ptrN_some] at bx
        clear bp zp lp
        rw [ptrN] at bx
        have HM := Lib.hid (cut_stores (f := f) hN2 hx (Chg.refl _ _) (by rw [hF]; unfold cutF; simp [hk, hb, hs]))
        clear hN2
        go_wp2_with fail
        go_end0
        exact ⟨rfl, HM.out.nm, hk2.trans HM.out.chg (fun _ _ h => h)⟩
      | some y =>
        rw [hs, ptrN_some] at bx
        go_enter Try.func49, Try.ntmps49
        go_wp2_with fail
        refine still_tail 10 (by kernel_rfl) (by kernel_rfl) ?_
        repeat still_step
        refine wpStill_nil ?_
        have hN := h.drew
        have hk1 : Chg (NB V nd) w w.drew := Chg.of_same (Below.refl _ _).drew _
        have bp := (hN.blk p hp).cell
        have zp := (hN.blk p hp).frozen
        have lp := (hN.blk p hp).lt
        unfold ndC at bp
        have hN2 := hN.bs hp (f.bs x)
        have hk2 := hk1.setCell (p := ⟨nd p, 4, none⟩) (fun _ => ⟨p, hp, rfl⟩) (.pointer (some ⟨nd y, 0, none⟩))
        obtain ⟨F, hF⟩ : ∃ F : Lk, F = { f with bs := updO f.bs p (f.bs x) } := ⟨_, rfl⟩
        rw [← hF, hs] at hN2
        have e1 : F.bs x = f.bs x := by subst hF; first | rfl | exact updO_ne _ _ hpx.symm
        have e2 : F.bk x = f.bk x := by subst hF; rfl
        clear h hq hN hk1
        change NM (w.drew.setCell ⟨nd p, 4, none⟩ (.pointer (some ⟨nd y, 0, none⟩))) V nd tm F at hN2
        generalize w.drew = w1 at *
        go_upto_region 5 with fail
        generalize w1.setCell ⟨nd p, 4, none⟩ (.pointer (some ⟨nd y, 0, none⟩)) = w2 at *
        have bx := (hN2.blk x hx).cell
        have zx := (hN2.blk x hx).frozen
        have lx := (hN2.blk x hx).lt
        unfold ndC at bx
        rw [e1, e2, hs, hk, ptrN_some] at bx
        clear bp zp lp
        rw [ptrN_some] at bx
        have hyV := (hy y hs).1
        have hyx := (hy y hs).2
        have nyx : nd y ≠ nd x := fun e => hyx (hN2.inj y x hyV hx e)
        have nxy := nyx.symm
        go_wp2_with fail
        refine still_tail 10 (by kernel_rfl) (by kernel_rfl) ?_
        repeat still_step
        refine wpStill_nil ?_
        have hN := hN2.drew
        have zy := (hN.blk y hyV).frozen
        have ly := (hN.blk y hyV).lt
        have by_ := (hN.blk y hyV).cell
        have zx' := (hN.blk x hx).frozen
        have lx' := (hN.blk x hx).lt
        unfold ndC at by_
        have hN3 := hN.bk hyV (f.bk x)
        have hk3 := (hk2.trans (Chg.of_same (Below.refl _ _).drew _) (fun _ _ h => h)).setCell (p := ⟨nd y, 5, none⟩) (fun _ => ⟨y, hyV, rfl⟩) (.pointer (some ⟨nd p, 0, none⟩))
        rw [hk] at hN3
        change NM (w2.drew.setCell ⟨nd y, 5, none⟩ (.pointer (some ⟨nd p, 0, none⟩))) V nd tm { F with bk := updO F.bk y (some p) } at hN3
        clear hN2 hN hk2 bx zx lx
        generalize w2.drew = w3 at *
        go_upto_region 7 with fail
        generalize w3.setCell ⟨nd y, 5, none⟩ (.pointer (some ⟨nd p, 0, none⟩)) = w4 at *
        have bx := (hN3.blk x hx).cell
        have zx := (hN3.blk x hx).frozen
        have lx := (hN3.blk x hx).lt
        clear zy ly by_ zx' lx'
        have HM := Lib.hid (cut_stores (f := f) hN3 hx (Chg.refl _ _) (by rw [hF]; unfold cutF; simp [hk, hb, hs]))
        clear hN3
        go_wp2_with fail
        go_end0
        exact ⟨rfl, HM.out.nm, hk3.trans HM.out.chg (fun _ _ h => h)⟩
end Go.Proofs.Ytpbepmipfjcjbaa
namespace Go.Proofs.Ytpbepmipfjcjbaa
open Go.RowKit
/-- The places that are on. -/
def Liv (P : Nat) (on : Nat → Bool) (i : Nat) : Prop := i < P ∧ on i = true
/-- The nodes by place. -/
def naC (P : Nat) (on : Nat → Bool) (nd : Nat → Nat) : Array Value := (Array.range P).map fun i => if on i = true then .pointer (some ⟨nd i, 0, none⟩) else .pointer none
theorem naC_size (P : Nat) (on : Nat → Bool) (nd : Nat → Nat) : (naC P on nd).size = P := by simp [naC]
theorem naC_get (P : Nat) (on : Nat → Bool) (nd : Nat → Nat) (i : Nat) (h : i < P) : (naC P on nd)[i]? = some (if on i = true then .pointer (some ⟨nd i, 0, none⟩) else .pointer none) := by
  unfold naC
  rw [Array.getElem?_map]
  simp [h]
theorem naC_congr {P : Nat} {on on' : Nat → Bool} {nd nd' : Nat → Nat} (h : ∀ i, i < P → on i = on' i) (h2 : ∀ i, i < P → on i = true → nd i = nd' i) : naC P on nd = naC P on' nd' := by
  apply Array.ext_getElem?
  intro t
  by_cases ht : t < P
  · rw [naC_get _ _ _ _ ht, naC_get _ _ _ _ ht, ← h t ht]
    by_cases ho : on t = true
    · rw [if_pos ho, if_pos ho, h2 t ht ho]
    · rw [if_neg ho, if_neg ho]
  · rw [Array.getElem?_eq_none (by rw [naC_size]; omega), Array.getElem?_eq_none (by rw [naC_size]; omega)]
theorem naC_put (P : Nat) (on : Nat → Bool) (nd : Nat → Nat) (i g : Nat) (h : i < P) : (naC P on nd).setIfInBounds i (.pointer (some ⟨g, 0, none⟩)) = naC P (updB on i true) (updN nd i g) := by
  apply Array.ext_getElem?
  intro t
  rw [Array.getElem?_setIfInBounds, naC_size]
  by_cases ht : t < P
  · rw [naC_get _ _ _ _ ht, naC_get _ _ _ _ ht]
    by_cases hj : i = t
    · subst hj
      rw [if_pos rfl, if_pos h, updB_at, updN_at, if_pos rfl]
    · rw [if_neg hj, updB_ne _ _ (fun e => hj e.symm), updN_ne _ _ (fun e => hj e.symm)]
  · rw [Array.getElem?_eq_none (by rw [naC_size]; omega), Array.getElem?_eq_none (by rw [naC_size]; omega), if_neg (by omega)]
theorem naC_clear (P : Nat) (on : Nat → Bool) (nd : Nat → Nat) (i : Nat) (h : i < P) : (naC P on nd).setIfInBounds i (.pointer none) = naC P (updB on i false) nd := by
  apply Array.ext_getElem?
  intro t
  rw [Array.getElem?_setIfInBounds, naC_size]
  by_cases ht : t < P
  · rw [naC_get _ _ _ _ ht, naC_get _ _ _ _ ht]
    by_cases hj : i = t
    · subst hj
      rw [if_pos rfl, if_pos h, updB_at, if_neg (by decide)]
    · rw [if_neg hj, updB_ne _ _ (fun e => hj e.symm)]
  · rw [Array.getElem?_eq_none (by rw [naC_size]; omega), Array.getElem?_eq_none (by rw [naC_size]; omega), if_neg (by omega)]
/-- A queue in memory. -/
structure PM (w : World) (q nb P : Nat) (on : Nat → Bool) (nd : Nat → Nat) (tm : Nat → Timer) (f : Lk) (root : Option Nat) (n : Int) : Prop where
  nm : NM w (Liv P on) nd tm f
  qb : QB w q nb P nd root n
  ar : Blk w nb 69 (naC P on nd)
section
variable {w w' : World} {q nb P : Nat} {on : Nat → Bool} {nd : Nat → Nat} {tm : Nat → Timer} {f : Lk} {root : Option Nat} {n : Int}
theorem PM.below (h : PM w q nb P on nd tm f root n) (k : Below w.heap.size w w') : PM w' q nb P on nd tm f root n := ⟨h.nm.below k, Blk.below h.qb k (Blk.lt h.qb), h.ar.below k h.ar.lt⟩
theorem PM.drew (h : PM w q nb P on nd tm f root n) : PM w.drew q nb P on nd tm f root n := h.below (Below.refl _ _).drew
end
/-- What find tells. -/
def fndV (P : Nat) (on : Nat → Bool) (nd : Nat → Nat) (p : Int) : Value := if p < 0 ∨ (P : Int) ≤ p then .tuple #[.pointer none, .int .i64 1] else if on p.toNat = true then .tuple #[.pointer (some ⟨nd p.toNat, 0, none⟩), .int .i64 0] else .tuple #[.pointer none, .int .i64 5]
set_option maxRecDepth 100000 in
theorem ph_find (q nb P : Nat) (on : Nat → Bool) (nd : Nat → Nat) (tm : Nat → Timer) (f : Lk) (root : Option Nat) (n : Int) (p : Int) (w : World) (h : PM w q nb P on nd tm f root n) (_hP : P ≤ 1024) :
    Calls Try.prog 39 #[.pointer (some ⟨q, 0, none⟩), .int .i64 p] w fun e w' => e = .returned (fndV P on nd p) ∧ w = w' := by
  have hc := Blk.cell h.qb
  unfold fndV
  by_cases h0 : p < 0
  · rw [if_pos (.inl h0)]
    go_enter Try.func39, Try.ntmps39
    go_wp2_with fail
    exact bodyPost_ret (v := .tuple #[.pointer none, .int .i64 1]) (by simp [results, Try.results39, go_sem]) rfl ⟨rfl, rfl⟩
  · by_cases h1 : (P : Int) ≤ p
    · rw [if_pos (.inr h1)]
      go_enter Try.func39, Try.ntmps39
      go_wp2_with fail
      exact bodyPost_ret (v := .tuple #[.pointer none, .int .i64 1]) (by simp [results, Try.results39, go_sem]) rfl ⟨rfl, rfl⟩
    · rw [if_neg (by omega)]
      obtain ⟨k, rfl⟩ := Int.eq_ofNat_of_zero_le (show 0 ≤ p by omega)
      rw [Int.toNat_natCast]
      have hk : k < P := by omega
      have ha := (h.ar.cell k).trans (naC_get P on nd k hk)
      by_cases ho : on k = true
      · rw [if_pos ho] at ha ⊢
        clear h ho
        generalize nd k = g at *
        go_enter Try.func39, Try.ntmps39
        go_wp2_with fail
        exact bodyPost_ret (v := .tuple #[.pointer (some ⟨g, 0, none⟩), .int .i64 0]) (by simp [results, Try.results39, go_sem]) rfl ⟨rfl, rfl⟩
      · rw [if_neg ho] at ha ⊢
        clear h ho
        go_enter Try.func39, Try.ntmps39
        go_wp2_with fail
        exact bodyPost_ret (v := .tuple #[.pointer none, .int .i64 5]) (by simp [results, Try.results39, go_sem]) rfl ⟨rfl, rfl⟩
set_option maxRecDepth 100000 in
set_option maxHeartbeats 1000000 in
theorem ph_get (q nb P : Nat) (on : Nat → Bool) (nd : Nat → Nat) (tm : Nat → Timer) (f : Lk) (root : Option Nat) (n : Int) (p : Int) (w : World) (h : PM w q nb P on nd tm f root n) (hP : P ≤ 1024) :
    Calls Try.prog 29 #[.pointer (some ⟨q, 0, none⟩), .int .i64 p] w fun e w' => e = .returned (pairT (atP P on tm p)) ∧ Below w.heap.size w w' := by
  have HB := Lib.hid (show ∀ cs, Below w.heap.size w (w.alloc (.cells cs 35)) from fun cs => (Below.refl _ _).alloc (Nat.le_refl _) _)
  have hk := h.below (alloc_kept' w (.cells #[.int .u64 0, .int .u64 0, .int .i64 0] 35))
  have hf := ph_find q nb P on nd tm f root n p _ hk hP
  unfold fndV at hf
  by_cases hb : p < 0 ∨ (P : Int) ≤ p
  · rw [if_pos hb] at hf
    rw [show atP P on tm p = none from if_neg fun e => by omega]
    clear hb h hk
    go_enter Try.func29, Try.ntmps29
    go_wp2_with fail
    refine hf.mono ?_
    rintro e w1 ⟨rfl, rfl⟩
    clear hf
    go_wp2_with fail
    refine bodyPost_ret (v := pairT none) (by simp [results, Try.results29, go_sem, pairT, Timer.val, Timer.zero]) rfl ⟨rfl, ?_⟩
    first | exact HB.out _ | exact (((HB.out _).setCell (Nat.le_refl _) _).setCell (Nat.le_refl _) _).setCell (Nat.le_refl _) _
  · rw [if_neg hb] at hf
    by_cases ho : on p.toNat = true
    · rw [if_pos ho] at hf
      rw [atP_on hb ho]
      have hx := (hk.nm.blk p.toNat ⟨by omega, ho⟩).cell
      unfold ndC at hx
      have hn : nd p.toNat < w.heap.size := (h.nm.blk p.toNat ⟨by omega, ho⟩).lt
      generalize nd p.toNat = g at *
      generalize tm p.toNat = t at *
      clear hb h hk ho
      go_enter Try.func29, Try.ntmps29
      go_wp2_with fail
      refine hf.mono ?_
      rintro e w1 ⟨rfl, rfl⟩
      clear hf
      go_wp2_with fail
      refine bodyPost_ret (v := pairT (some t)) (by simp [results, Try.results29, go_sem, pairT, Timer.val, Timer.zero]) rfl ⟨rfl, ?_⟩
      first | exact HB.out _ | exact (((HB.out _).setCell (Nat.le_refl _) _).setCell (Nat.le_refl _) _).setCell (Nat.le_refl _) _
    · rw [if_neg ho] at hf
      rw [show atP P on tm p = none from if_neg fun e => ho e.2.2]
      clear hb h hk ho
      go_enter Try.func29, Try.ntmps29
      go_wp2_with fail
      refine hf.mono ?_
      rintro e w1 ⟨rfl, rfl⟩
      clear hf
      go_wp2_with fail
      refine bodyPost_ret (v := pairT none) (by simp [results, Try.results29, go_sem, pairT, Timer.val, Timer.zero]) rfl ⟨rfl, ?_⟩
      first | exact HB.out _ | exact (((HB.out _).setCell (Nat.le_refl _) _).setCell (Nat.le_refl _) _).setCell (Nat.le_refl _) _
set_option maxRecDepth 100000 in
set_option maxHeartbeats 1000000 in
theorem ph_min (q nb P : Nat) (on : Nat → Bool) (nd : Nat → Nat) (tm : Nat → Timer) (f : Lk) (root : Option Nat) (n : Int) (w : World) (h : PM w q nb P on nd tm f root n) (hr : ∀ r, root = some r → Liv P on r) :
    Calls Try.prog 23 #[.pointer (some ⟨q, 0, none⟩)] w fun e w' => e = .returned (pairT (root.map tm)) ∧ Below w.heap.size w w' := by
  have HB := Lib.hid (show ∀ cs, Below w.heap.size w (w.alloc (.cells cs 35)) from fun cs => (Below.refl _ _).alloc (Nat.le_refl _) _)
  have hk := h.below (alloc_kept' w (.cells #[.int .u64 0, .int .u64 0, .int .i64 0] 35))
  have hc := Blk.cell hk.qb
  have hl : q < w.heap.size := Blk.lt h.qb
  cases root with
  | none =>
    rw [ptrN] at hc
    clear h hk
    go_enter Try.func23, Try.ntmps23
    go_wp2_with fail
    refine bodyPost_ret (v := pairT none) (by simp [results, Try.results23, go_sem, pairT, Timer.val, Timer.zero]) rfl ⟨rfl, ?_⟩
    first | exact HB.out _ | exact (((HB.out _).setCell (Nat.le_refl _) _).setCell (Nat.le_refl _) _).setCell (Nat.le_refl _) _
  | some r =>
    rw [ptrN_some] at hc
    have hx := (hk.nm.blk r (hr r rfl)).cell
    unfold ndC at hx
    have hn : nd r < w.heap.size := (h.nm.blk r (hr r rfl)).lt
    simp only [Option.map_some]
    generalize nd r = g at *
    generalize tm r = t at *
    clear h hk hr
    go_enter Try.func23, Try.ntmps23
    go_wp2_with fail
    refine bodyPost_ret (v := pairT (some t)) (by simp [results, Try.results23, go_sem, pairT, Timer.val, Timer.zero]) rfl ⟨rfl, ?_⟩
    first | exact HB.out _ | exact (((HB.out _).setCell (Nat.le_refl _) _).setCell (Nat.le_refl _) _).setCell (Nat.le_refl _) _
theorem ph_len (q nb P : Nat) (on : Nat → Bool) (nd : Nat → Nat) (tm : Nat → Timer) (f : Lk) (root : Option Nat) (n : Int) (w : World) (h : PM w q nb P on nd tm f root n) :
    Calls Try.prog 22 #[.pointer (some ⟨q, 0, none⟩)] w fun e w' => e = .returned (.int .i64 n) ∧ w = w' := by
  have hc := Blk.cell h.qb
  clear h
  go_enter Try.func22, Try.ntmps22
  go_wp2
  go_ret
  exact ⟨rfl, rfl⟩
end Go.Proofs.Ytpbepmipfjcjbaa
