/- Part 7: the texts PhW, laid end to end by a program. -/
import Derived.Test.YtpbepmipfjcjbaaPk5
import Derived.Test.YtpbepmipfjcjbaaPk6
import Derived.Test.YtpbepmipfjcjbaaPk1
namespace Go.Proofs.Ytpbepmipfjcjbaa
open Go.RowKit

theorem below_grow' (w : World) {B : Nat} (hB : B ≤ w.heap.size) (n : Nat) (os : Array Obj) : Below B w (Sort.grow (w.drewN n) os) := by
  refine ⟨rfl, rfl, rfl, ?_, fun k hk => ?_⟩
  · unfold Sort.grow World.drewN
    simp
  · unfold Sort.grow World.drewN
    simp only []
    rw [Array.getElem?_append_left (by omega)]
theorem cmp_below (x y : Timer) (w : World) : Calls Try.prog 48 #[x.val, y.val] w fun e w' => e = .returned (.int .i64 (cmpT x y)) ∧ Below w.heap.size w w' := by
  refine (cmp_exact x y w).mono ?_
  rintro e w' ⟨rfl, q, os, rfl⟩
  exact ⟨rfl, below_grow' w (Nat.le_refl _) q os⟩
def FV (l : List Value) (j : Nat) (v : Value) (_ : World) : Prop := v = l.getD j undef
theorem ptrN_some (nd : Nat → Nat) (j : Nat) : ptrN nd (some j) = .pointer (some ⟨nd j, 0, none⟩) := rfl
theorem cmpT_neg (x y : Timer) : cmpT x y < 0 ↔ x.lt y = true := by
  rw [← cmpT_lt]
  simp
theorem meldO_lt {tm : Nat → Timer} {f : Lk} {a b : Nat} (h : (tm b).lt (tm a) = true) : meldO tm f (some a) (some b) = (meldF f b a, some b) := by simp [meldO, meldL, h]
theorem meldO_ge {tm : Nat → Timer} {f : Lk} {a b : Nat} (h : ¬ (tm b).lt (tm a) = true) : meldO tm f (some a) (some b) = (meldF f a b, some a) := by simp [meldO, meldL, h]
/-- What a call upon the heap's nodes leaves. -/
structure MO (V : Nat → Prop) (nd : Nat → Nat) (tm : Nat → Timer) (g : Lk) (w w' : World) : Prop where
  nm : NM w' V nd tm g
  chg : Chg (NB V nd) w w'
section
variable {w w' : World} {V : Nat → Prop} {nd : Nat → Nat} {tm : Nat → Timer} {f : Lk}
theorem chg_nd (i : Nat) (hi : V i) (w : World) (k : Nat) (v : Value) : Chg (NB V nd) w (w.setCell ⟨nd i, k, none⟩ v) := Chg.setCell (S := NB V nd) (Chg.refl _ w) (p := ⟨nd i, k, none⟩) (fun _ => ⟨i, hi, rfl⟩) v
/-- The stores of meld: b below a. -/
theorem meld_none (h : NM w V nd tm f) {a b : Nat} (ha : V a) (hb : V b) (hc : f.bl a = none) :
    MO V nd tm (meldF f a b) w (((w.setCell ⟨nd b, 5, none⟩ (ptrN nd (some a))).setCell ⟨nd b, 4, none⟩ (ptrN nd (f.bl a))).setCell ⟨nd a, 3, none⟩ (ptrN nd (some b))) := by
  have h1 := ((h.bk hb (some a)).bs hb (f.bl a)).bl ha (some b)
  refine ⟨?_, (((Chg.refl (NB V nd) w).setCell (p := ⟨nd b, 5, none⟩) (fun _ => ⟨b, hb, rfl⟩) _).setCell (p := ⟨nd b, 4, none⟩) (fun _ => ⟨b, hb, rfl⟩) _).setCell (p := ⟨nd a, 3, none⟩) (fun _ => ⟨a, ha, rfl⟩) _⟩
  have e : meldF f a b = { bl := updO f.bl a (some b), bs := updO f.bs b (f.bl a), bk := updO f.bk b (some a) } := by unfold meldF; rw [hc]
  rw [e]
  exact h1
theorem meld_some (h : NM w V nd tm f) {a b c : Nat} (ha : V a) (hb : V b) (hcv : V c) (hc : f.bl a = some c) :
    MO V nd tm (meldF f a b) w ((((w.setCell ⟨nd b, 5, none⟩ (ptrN nd (some a))).setCell ⟨nd b, 4, none⟩ (ptrN nd (f.bl a))).setCell ⟨nd c, 5, none⟩ (ptrN nd (some b))).setCell ⟨nd a, 3, none⟩ (ptrN nd (some b))) := by
  have h1 := (((h.bk hb (some a)).bs hb (f.bl a)).bk hcv (some b)).bl ha (some b)
  refine ⟨?_, ((((Chg.refl (NB V nd) w).setCell (p := ⟨nd b, 5, none⟩) (fun _ => ⟨b, hb, rfl⟩) _).setCell (p := ⟨nd b, 4, none⟩) (fun _ => ⟨b, hb, rfl⟩) _).setCell (p := ⟨nd c, 5, none⟩) (fun _ => ⟨c, hcv, rfl⟩) _).setCell (p := ⟨nd a, 3, none⟩) (fun _ => ⟨a, ha, rfl⟩) _⟩
  have e : meldF f a b = { bl := updO f.bl a (some b), bs := updO f.bs b (f.bl a), bk := updO (updO f.bk b (some a)) c (some b) } := by unfold meldF; rw [hc]
  rw [e]
  exact h1
end
attribute [local irreducible] Calls
set_option linter.unusedSimpArgs false in
set_option maxRecDepth 100000 in
set_option maxHeartbeats 4000000 in
theorem ph_meld (V : Nat → Prop) (nd : Nat → Nat) (tm : Nat → Timer) (f : Lk) (w : World) (h : NM w V nd tm f) (a b : Option Nat) (ha : ∀ i, a = some i → V i) (hb : ∀ i, b = some i → V i)
    (hV : ∀ i, (a = some i ∨ b = some i) → ∀ c, f.bl i = some c → V c) (hne : ∀ i, a = some i → b ≠ some i) (hcn : ∀ i, (a = some i ∨ b = some i) → ∀ c, f.bl i = some c → i ≠ c ∧ ∀ j, (a = some j ∨ b = some j) → c ≠ j) :
    Calls Try.prog 36 #[ptrN nd a, ptrN nd b] w fun e w' => e = .returned (ptrN nd (meldO tm f a b).2) ∧ MO V nd tm (meldO tm f a b).1 w w' := by
  cases a with
  | none =>
    unfold meldO
    have HM : Hid (MO V nd tm f w w) := Lib.hid ⟨h, Chg.refl _ _⟩
    clear h ha hb hne hcn
    cases b with
    | none =>
      simp only [ptrN]
      go_enter Try.func36, Try.ntmps36
      go_wp2
      go_ret
      exact ⟨rfl, HM.out⟩
    | some b =>
      simp only [ptrN]
      go_enter Try.func36, Try.ntmps36
      go_wp2
      go_ret
      exact ⟨rfl, HM.out⟩
  | some a =>
    cases b with
    | none =>
      unfold meldO
      have HM : Hid (MO V nd tm f w w) := Lib.hid ⟨h, Chg.refl _ _⟩
      clear h ha hb hne hcn
      simp only [ptrN]
      go_enter Try.func36, Try.ntmps36
      go_wp2
      go_ret
      exact ⟨rfl, HM.out⟩
    | some b =>
      have ha := ha a rfl
      have hb := hb b rfl
      have hab : a ≠ b := fun e => hne a rfl (by rw [e])
      have hV : ∀ i, (i = a ∨ i = b) → ∀ c, f.bl i = some c → V c := fun i hi c e => hV i (hi.imp (fun x => by rw [x]) fun x => by rw [x]) c e
      have hcn : ∀ i, (i = a ∨ i = b) → ∀ c, f.bl i = some c → i ≠ c ∧ c ≠ a ∧ c ≠ b := fun i hi c e => by
        obtain ⟨h1, h2⟩ := hcn i (hi.imp (fun x => by rw [x]) fun x => by rw [x]) c e
        exact ⟨h1, h2 a (.inl rfl), h2 b (.inr rfl)⟩
      by_cases hlt : (tm b).lt (tm a) = true
      · rw [meldO_lt hlt]
        simp only []
        have hcb : f.bl b ≠ some a := fun e => (hcn b (.inr rfl) a e).2.1 rfl
        have HVA := Lib.hid (hV b (.inr rfl))
        have HCA := Lib.hid (hcn b (.inr rfl))
        have hcm := fun w => cmp_below (tm b) (tm a) w
        have hcv := decide_eq_true ((cmpT_neg (tm b) (tm a)).2 hlt)
        have ba := h.blk a ha
        have bb := h.blk b hb
        unfold ndC at ba bb
        simp only [ptrN_some]
        generalize cmpT (tm b) (tm a) = cv at *
        go_enter Try.func36, Try.ntmps36
        go_wp2_with fail
        have hs0 : Below w.heap.size w w.drew := (Below.refl _ _).drew
        refine region_facts_set 10 (fun _ => false) (FV [.pointer (some ⟨nd b, 0, none⟩), .pointer (some ⟨nd b, 0, none⟩), .pointer (some ⟨nd b, 0, none⟩), (tm b).val, .pointer (some ⟨nd a, 0, none⟩), .pointer (some ⟨nd a, 0, none⟩), .pointer (some ⟨nd a, 0, none⟩), (tm a).val, .int .i64 cv, .bool (decide (cv < 0))]) (fun _ x => Below w.heap.size w x) (fun _ x y => x.heap.size ≤ y.heap.size) [11, 12, 13, 14, 15, 16, 17, 18, 19, 20] (by kernel_rfl) (by kernel_rfl) (by kernel_rfl) (by decide) (by kernel_rfl) (by kernel_rfl) (fun _ _ _ _ _ _ h _ => h) (fun _ _ _ h => h) hs0 ?_ ?_
        · intro fr hfr
          have f0 : fr.getD 0 undef = .pointer (some ⟨nd a, 0, none⟩) := by rw [hfr]; rfl
          have f1 : fr.getD 1 undef = .pointer (some ⟨nd b, 0, none⟩) := by rw [hfr]; rfl
          clear hfr hcv
          iterate 10
            refine ⟨⟨by first | trivial | exact ⟨rfl, fun _ _ h => h⟩, ?_⟩, ?_⟩
            · intro ρ w' p hp hdq hρ hd hSt
              simp only [DepF, Region.binds, List.getD_cons_zero, List.getD_cons_succ, FV, forall_const, and_true, true_and] at hd
              have hcon := hρ.con
              (have e0 := (hρ.slot 0 (by kernel_rfl)).trans f0; have e1 := (hρ.slot 1 (by kernel_rfl)).trans f1)
              (have ea := (ba.below hSt ba.lt).cell; have eb := (bb.below hSt bb.lt).cell)
              (try rw [execOp_call_fn _ _ _ _ _ _ _ _ _ (hρ.fn _)])
              go_simp
              (try simp only [GoodQ, FV, List.getD_cons_zero, List.getD_cons_succ])
              first
                | exact ⟨rfl, Nat.le_refl _, fun h => absurd h (by decide), hSt⟩
                | exact ⟨trivial, Nat.le_refl _, fun h => absurd h (by decide), hSt⟩
                | (refine (hcm w').mono ?_; rintro e w'' ⟨rfl, hx⟩; exact ⟨_, rfl, rfl, hx.size, fun h => absurd h (by decide), hSt.trans (Below.mono hx hSt.size)⟩)
          trivial
        · intro vs w5 hSt hF _
          have h9 : vs 9 = .bool (decide (cv < 0)) := hF 9 (by decide)
          have hN := h.below hSt
          have hk5 : Chg (NB V nd) w w5 := Chg.of_same hSt _
          simp only [setAll, List.setIfInBounds_toArray, List.set_cons_zero, List.set_cons_succ, Nat.reduceAdd]
          rw [h9, hcv]
          simp only [List.drop_succ_cons, List.drop_zero, List.drop_nil]
          clear h9 hF hs0 hSt h hcm ba bb hcv
          have eA := (hN.blk b hb).cell
          have eB := (hN.blk a ha).cell
          have zA := (hN.blk b hb).frozen
          have zB := (hN.blk a ha).frozen
          have lA := (hN.blk b hb).lt
          have lB := (hN.blk a ha).lt
          have nAB : nd b ≠ nd a := fun e => hab.symm (hN.inj _ _ hb ha e)
          have nBA := nAB.symm
          unfold ndC at eA eB
          cases hc : f.bl b with
          | none =>
            have HM := Lib.hid (meld_none hN hb ha hc)
            rw [hc] at eA HM
            simp only [ptrN] at eA HM
            generalize hgA : nd b = gA at *
            have HgA := Lib.hid hgA
            clear hgA
            generalize nd a = gB at *
            clear hN
            go_wp2_with fail
            go_ret
            exact ⟨by rw [HgA.out]; rfl, HM.out.nm, hk5.trans HM.out.chg (fun _ _ h => h)⟩
          | some c =>
            have hcv : V c := HVA.out c hc
            have eC := (hN.blk c hcv).cell
            have zC := (hN.blk c hcv).frozen
            have lC := (hN.blk c hcv).lt
            have nAC : nd b ≠ nd c := fun e => (HCA.out c hc).1 (hN.inj _ _ hb hcv e)
            have nBC : nd a ≠ nd c := fun e => hcb (by rw [← hN.inj _ _ ha hcv e] at hc; exact hc)
            have nCA := nAC.symm
            have nCB := nBC.symm
            unfold ndC at eC
            have HM := Lib.hid (meld_some hN hb ha hcv hc)
            rw [hc] at eA HM
            simp only [ptrN] at eA HM
            generalize hgA : nd b = gA at *
            have HgA := Lib.hid hgA
            clear hgA
            generalize nd a = gB at *
            generalize nd c = gC at *
            clear hN
            go_wp2_with fail
            go_ret
            exact ⟨by rw [HgA.out]; rfl, HM.out.nm, hk5.trans HM.out.chg (fun _ _ h => h)⟩
      · rw [meldO_ge hlt]
        simp only []
        have hcb : f.bl a ≠ some b := fun e => (hcn a (.inl rfl) b e).2.2 rfl
        have HVA := Lib.hid (hV a (.inl rfl))
        have HCA := Lib.hid (hcn a (.inl rfl))
        have hcm := fun w => cmp_below (tm b) (tm a) w
        have hcv := decide_eq_false (fun e => hlt ((cmpT_neg (tm b) (tm a)).1 e))
        have ba := h.blk a ha
        have bb := h.blk b hb
        unfold ndC at ba bb
        simp only [ptrN_some]
        generalize cmpT (tm b) (tm a) = cv at *
        go_enter Try.func36, Try.ntmps36
        go_wp2_with fail
        have hs0 : Below w.heap.size w w.drew := (Below.refl _ _).drew
        refine region_facts_set 10 (fun _ => false) (FV [.pointer (some ⟨nd b, 0, none⟩), .pointer (some ⟨nd b, 0, none⟩), .pointer (some ⟨nd b, 0, none⟩), (tm b).val, .pointer (some ⟨nd a, 0, none⟩), .pointer (some ⟨nd a, 0, none⟩), .pointer (some ⟨nd a, 0, none⟩), (tm a).val, .int .i64 cv, .bool (decide (cv < 0))]) (fun _ x => Below w.heap.size w x) (fun _ x y => x.heap.size ≤ y.heap.size) [11, 12, 13, 14, 15, 16, 17, 18, 19, 20] (by kernel_rfl) (by kernel_rfl) (by kernel_rfl) (by decide) (by kernel_rfl) (by kernel_rfl) (fun _ _ _ _ _ _ h _ => h) (fun _ _ _ h => h) hs0 ?_ ?_
        · intro fr hfr
          have f0 : fr.getD 0 undef = .pointer (some ⟨nd a, 0, none⟩) := by rw [hfr]; rfl
          have f1 : fr.getD 1 undef = .pointer (some ⟨nd b, 0, none⟩) := by rw [hfr]; rfl
          clear hfr hcv
          iterate 10
            refine ⟨⟨by first | trivial | exact ⟨rfl, fun _ _ h => h⟩, ?_⟩, ?_⟩
            · intro ρ w' p hp hdq hρ hd hSt
              simp only [DepF, Region.binds, List.getD_cons_zero, List.getD_cons_succ, FV, forall_const, and_true, true_and] at hd
              have hcon := hρ.con
              (have e0 := (hρ.slot 0 (by kernel_rfl)).trans f0; have e1 := (hρ.slot 1 (by kernel_rfl)).trans f1)
              (have ea := (ba.below hSt ba.lt).cell; have eb := (bb.below hSt bb.lt).cell)
              (try rw [execOp_call_fn _ _ _ _ _ _ _ _ _ (hρ.fn _)])
              go_simp
              (try simp only [GoodQ, FV, List.getD_cons_zero, List.getD_cons_succ])
              first
                | exact ⟨rfl, Nat.le_refl _, fun h => absurd h (by decide), hSt⟩
                | exact ⟨trivial, Nat.le_refl _, fun h => absurd h (by decide), hSt⟩
                | (refine (hcm w').mono ?_; rintro e w'' ⟨rfl, hx⟩; exact ⟨_, rfl, rfl, hx.size, fun h => absurd h (by decide), hSt.trans (Below.mono hx hSt.size)⟩)
          trivial
        · intro vs w5 hSt hF _
          have h9 : vs 9 = .bool (decide (cv < 0)) := hF 9 (by decide)
          have hN := h.below hSt
          have hk5 : Chg (NB V nd) w w5 := Chg.of_same hSt _
          simp only [setAll, List.setIfInBounds_toArray, List.set_cons_zero, List.set_cons_succ, Nat.reduceAdd]
          rw [h9, hcv]
          simp only [List.drop_succ_cons, List.drop_zero, List.drop_nil]
          clear h9 hF hs0 hSt h hcm ba bb hcv
          have eA := (hN.blk a ha).cell
          have eB := (hN.blk b hb).cell
          have zA := (hN.blk a ha).frozen
          have zB := (hN.blk b hb).frozen
          have lA := (hN.blk a ha).lt
          have lB := (hN.blk b hb).lt
          have nAB : nd a ≠ nd b := fun e => hab (hN.inj _ _ ha hb e)
          have nBA := nAB.symm
          unfold ndC at eA eB
          cases hc : f.bl a with
          | none =>
            have HM := Lib.hid (meld_none hN ha hb hc)
            rw [hc] at eA HM
            simp only [ptrN] at eA HM
            generalize hgA : nd a = gA at *
            have HgA := Lib.hid hgA
            clear hgA
            generalize nd b = gB at *
            clear hN
            go_wp2_with fail
            go_ret
            exact ⟨by rw [HgA.out]; rfl, HM.out.nm, hk5.trans HM.out.chg (fun _ _ h => h)⟩
          | some c =>
            have hcv : V c := HVA.out c hc
            have eC := (hN.blk c hcv).cell
            have zC := (hN.blk c hcv).frozen
            have lC := (hN.blk c hcv).lt
            have nAC : nd a ≠ nd c := fun e => (HCA.out c hc).1 (hN.inj _ _ ha hcv e)
            have nBC : nd b ≠ nd c := fun e => hcb (by rw [← hN.inj _ _ hb hcv e] at hc; exact hc)
            have nCA := nAC.symm
            have nCB := nBC.symm
            unfold ndC at eC
            have HM := Lib.hid (meld_some hN ha hb hcv hc)
            rw [hc] at eA HM
            simp only [ptrN] at eA HM
            generalize hgA : nd a = gA at *
            have HgA := Lib.hid hgA
            clear hgA
            generalize nd b = gB at *
            generalize nd c = gC at *
            clear hN
            go_wp2_with fail
            go_ret
            exact ⟨by rw [HgA.out]; rfl, HM.out.nm, hk5.trans HM.out.chg (fun _ _ h => h)⟩
end Go.Proofs.Ytpbepmipfjcjbaa
