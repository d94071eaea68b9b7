/- Part 12: the texts PhG, laid end to end by a program. -/
import Derived.Test.YtpbepmipfjcjbaaPk10
import Derived.Test.YtpbepmipfjcjbaaPk11
namespace Go.Proofs.Ytpbepmipfjcjbaa
open Go.RowKit

theorem grown_ch {w w' : World} {ob : Option Nat} (hg : w.grownBy w' ob) : Chg (fun g => ob = some g) w w' :=
  ⟨hg.os, hg.tape, hg.output, hg.size, fun k hk hn => hg.block k hk (fun e => hn e.symm)⟩
/-- What a round of pairs knows of each of its operations. -/
def FPr (nd : Nat → Nat) (base : Nat) (vo : Value) (d : Nat) (out : List Nat) (l : List Value) (j : Nat) (v : Value) (w : World) : Prop :=
  if j = 9 then ∃ k, v = .slice (some ⟨k, 0, none⟩) 1 1 ∧ base ≤ k ∧ k < w.heap.size ∧ vo.ownBlock ≠ some k ∧ w.cell? ⟨k, 0, none⟩ = some (.pointer (some ⟨nd d, 0, none⟩))
  else if j = 10 ∨ j = 13 then OwnP nd w base v (out ++ [d]) else v = l.getD j undef
/-- What the memory is in a round of pairs, of the operations p done. -/
structure SPr (V : Nat → Prop) (nd : Nat → Nat) (tm : Nat → Timer) (base lo : Nat) (vo vl : Value) (out l : List Nat) (f f2 : Lk) (we : World) (s0 : Nat) (p : Nat → Bool) (w : World) : Prop where
  nm : NM w V nd tm (if p 8 = true then f2 else f)
  pl : PL nd w lo base vl l
  own : p 10 = false → OwnP nd w base vo out
  chg : Chg (NB V nd) we w
  sz : s0 ≤ w.heap.size
def RPr (V : Nat → Prop) (nd : Nat → Nat) (base : Nat) (vo : Value) (i : Nat) (w w' : World) : Prop := Chg (fun g => (i = 8 ∧ NB V nd g) ∨ (i = 10 ∧ base ≤ g ∧ vo.ownBlock = some g)) w w'
section
variable {V : Nat → Prop} {nd : Nat → Nat} {tm : Nat → Timer} {base lo : Nat} {vo vl : Value} {lv : List Value} {d : Nat} {out l : List Nat} {f f2 : Lk} {we w w' : World} {s0 : Nat} {p : Nat → Bool} {i j : Nat} {v : Value}
theorem SPr.other (h : SPr V nd tm base lo vo vl out l f f2 we s0 p w) (h8 : i ≠ 8) (h10 : i ≠ 10) : SPr V nd tm base lo vo vl out l f f2 we s0 (also p i) w := by
  have e8 : also p i 8 = p 8 := by simp [also, Ne.symm h8]
  have e10 : also p i 10 = p 10 := by simp [also, Ne.symm h10]
  exact ⟨by rw [e8]; exact h.nm, h.pl, by rw [e10]; exact h.own, h.chg, h.sz⟩
/-- Operation 8 is done: two have been melded. -/
theorem SPr.meld (h : SPr V nd tm base lo vo vl out l f f2 we s0 p w) (hlo : ∀ i, V i → nd i < lo) (hb : lo ≤ base) (hwb : base ≤ w.heap.size) (k : MO V nd tm f2 w w') : SPr V nd tm base lo vo vl out l f f2 we s0 (also p 8) w' := by
  have hN : ∀ g, NB V nd g → g < lo := fun g ⟨i, hi, e⟩ => by have := hlo i hi; omega
  have e10 : also p 8 10 = p 10 := by simp [also]
  exact ⟨by simpa [also] using k.nm, h.pl.chg k.chg (fun g g1 _ e => by have := hN g e; omega) hwb, fun e => (h.own (by rw [← e10]; exact e)).chg k.chg fun g e => by have := hN g e; omega, h.chg.trans k.chg fun _ _ e => e, Nat.le_trans h.sz k.chg.size⟩
/-- Operation 9 is done: a block of one is laid. -/
theorem SPr.laid (h : SPr V nd tm base lo vo vl out l f f2 we s0 p w) (hb : base ≤ w.heap.size) (o : Obj) : SPr V nd tm base lo vo vl out l f f2 we s0 (also p 9) (w.alloc o) := by
  have hk : Below w.heap.size w (w.alloc o) := (Below.refl _ _).alloc (Nat.le_refl _) _
  have h2 := h.other (i := 9) (by decide) (by decide)
  exact ⟨h2.nm.below hk, h2.pl.keep fun g _ g2 => hk.block g (by omega), fun e => (h2.own e).alloc o, h2.chg.trans (Chg.of_same hk _) fun _ _ e => e, Nat.le_trans h.sz hk.size⟩
/-- Operation 10 is done: the list has been lengthened. -/
theorem SPr.app (h : SPr V nd tm base lo vo vl out l f f2 we s0 p w) (hlo : ∀ i, V i → nd i < lo) (hb : lo ≤ base) (hwe : we.heap.size = base) (ho : OwnP nd w base vo out) (k : w.grownBy w' vo.ownBlock) : SPr V nd tm base lo vo vl out l f f2 we s0 (also p 10) w' := by
  have hwb : base ≤ w.heap.size := by rw [← hwe]; exact h.chg.size
  have ho2 := own_base ho
  have hC := grown_ch k
  have e8 : also p 10 8 = p 8 := by simp [also]
  refine ⟨?_, h.pl.chg hC (fun g _ g2 e => by have := ho2 g e; omega) hwb, fun e => by simp [also] at e, ?_, Nat.le_trans h.sz hC.size⟩
  · rw [e8]
    exact h.nm.chg hC fun i hi e => by have := ho2 _ e; have := hlo i hi; omega
  · exact ⟨hC.os.trans h.chg.os, hC.tape.trans h.chg.tape, hC.output.trans h.chg.output, Nat.le_trans h.chg.size hC.size, fun g hg hn => (hC.block g (Nat.lt_of_lt_of_le hg h.chg.size) fun e => by have := ho2 g e; omega).trans (h.chg.block g hg hn)⟩
theorem FPr.keep (hlo : ∀ i, V i → nd i < lo) (hb : lo ≤ base) (hw : ¬ (j = 13 ∧ i = 10)) (hji : j ≠ i) (h : FPr nd base vo d out lv j v w) (k : RPr V nd base vo i w w') : FPr nd base vo d out lv j v w' := by
  have hN : ∀ g, NB V nd g → g < lo := fun g ⟨i, hi, e⟩ => by have := hlo i hi; omega
  unfold FPr at h ⊢
  by_cases h9 : j = 9
  · rw [if_pos h9] at h ⊢
    obtain ⟨x, rfl, h1, h2, h3, h4⟩ := h
    exact ⟨x, rfl, h1, Nat.lt_of_lt_of_le h2 k.size, h3, (World.cell?_of_block (k.block x h2 (by
      rintro (⟨_, e⟩ | ⟨_, _, e⟩)
      · have := hN x e
        omega
      · exact h3 e))).trans h4⟩
  · rw [if_neg h9] at h ⊢
    by_cases h10 : j = 10 ∨ j = 13
    · rw [if_pos h10] at h ⊢
      have hi : i ≠ 10 := by
        rintro rfl
        rcases h10 with rfl | rfl
        · exact hji rfl
        · exact hw ⟨rfl, rfl⟩
      exact h.chg k fun g e => by
        rcases e with ⟨_, e⟩ | ⟨e, _⟩
        · have := hN g e
          omega
        · exact absurd e hi
    · rw [if_neg h10] at h ⊢
      exact h
end
theorem app_keep {V : Nat → Prop} {nd : Nat → Nat} {tm : Nat → Timer} {lo : Nat} {v : Value} {l : List Nat} {f : Lk} {we w w' : World} (hlo : ∀ i, V i → nd i < lo) (hb : lo ≤ we.heap.size) (ho : OwnP nd w we.heap.size v l) (hN : NM w V nd tm f) (hC : Chg (NB V nd) we w) (k : w.grownBy w' v.ownBlock) : NM w' V nd tm f ∧ Chg (NB V nd) we w' := by
  have ho2 := own_base ho
  have hK := grown_ch k
  exact ⟨hN.chg hK fun i hi e => by have := ho2 _ e; have := hlo i hi; omega, hC.trans hK fun g hg e => by have := ho2 _ e; omega⟩
def lenV : Value → Nat
  | .slice _ n _ => n
  | _ => 0
theorem PL.two {nd : Nat → Nat} {w : World} {lo hi : Nat} {v : Value} {a b : Nat} {r : List Nat} (h : PL nd w lo hi v (a :: b :: r)) :
    ∃ g o c, v = .slice (some ⟨g, o, none⟩) (r.length + 2) c ∧ r.length + 2 ≤ c ∧ c ≤ maxLen ∧ lo ≤ g ∧ g < hi := by
  obtain ⟨A, c, rfl, h1, h2, h3, h4, h5⟩ := h
  obtain ⟨g, o, rfl, hc⟩ := h5 0 (by simp)
  obtain ⟨g1, g2⟩ := h4 g rfl
  simp only [List.length_cons] at h1 ⊢
  exact ⟨g, o, c, rfl, h1, h2, g1, g2⟩
theorem PL.at0 {nd : Nat → Nat} {w : World} {lo hi g o n c : Nat} {a b : Nat} {r : List Nat} (h : PL nd w lo hi (.slice (some ⟨g, o, none⟩) n c) (a :: b :: r)) :
    w.cell? ⟨g, o, none⟩ = some (.pointer (some ⟨nd a, 0, none⟩)) ∧ w.cell? ⟨g, o + 1, none⟩ = some (.pointer (some ⟨nd b, 0, none⟩)) := ⟨h.cells 0 _ rfl, h.cells 1 _ rfl⟩
theorem PL.rest {nd : Nat → Nat} {w : World} {lo hi g o n c : Nat} {a b : Nat} {r : List Nat} (h : PL nd w lo hi (.slice (some ⟨g, o, none⟩) n c) (a :: b :: r)) :
    PL nd w lo hi (.slice (if c = 2 then some ⟨g, o, none⟩ else some ⟨g, o + 2, none⟩) r.length (c - 2)) r := by
  obtain ⟨A, c', e, h1, h2, h3, h4, h5⟩ := h
  injection e with e1 e2 e3
  subst e1 e3
  simp only [List.length_cons] at h1
  refine ⟨_, c - 2, rfl, by omega, by omega, fun e => (by split at e <;> cases e), fun k hk => h4 k (by split at hk <;> exact hk), fun k hk => ?_⟩
  obtain ⟨b1, o1, e, hc⟩ := h5 (k + 2) (by simp; omega)
  injection e with e
  injection e with e1 e2
  subst e1 e2
  rw [if_neg (by omega)]
  exact ⟨g, o + 2, rfl, by rw [show o + 2 + k = o + (k + 2) by omega, hc]; rfl⟩
set_option linter.unusedSimpArgs false in
set_option maxRecDepth 100000 in
set_option maxHeartbeats 2000000 in
theorem ph_pairs (V : Nat → Prop) (nd : Nat → Nat) (tm : Nat → Timer) (lo : Nat) (f : Lk) (L : List (Nat × BT)) (vl : Value) (w : World) (hF : Forest f tm L) (hV : ∀ i ∈ fids L, V i) (hN : NM w V nd tm f) (hL : PL nd w lo w.heap.size vl (L.map (·.1))) (hlo : ∀ i, V i → nd i < lo) (hlw : lo ≤ w.heap.size) (hlen : L.length ≤ 1024) :
    Calls Try.prog 64 #[vl, .func (.func 36) #[] #[]] w fun e w' => ∃ v L' f', e = .returned v ∧ Forest f' tm L' ∧ (fids L').Perm (fids L) ∧ L'.length ≤ L.length ∧ (∀ i, i ∉ fids L → f.Eq f' i) ∧ NM w' V nd tm f' ∧ OwnP nd w' w.heap.size v (L'.map (·.1)) ∧ Chg (NB V nd) w w' := by
  have hl0 := hL
  obtain ⟨A0, c0, rfl, _⟩ := hL
  go_enter Try.func64, Try.ntmps64
  go_wp2_with fail
  go_loopw [0, 5] (fun v0 v5 wr => ∃ (out l : List (Nat × BT)) (f1 : Lk) (vo : Value), vo = v5 ∧ PL nd wr lo w.heap.size v0 (l.map (·.1)) ∧ OwnP nd wr w.heap.size v5 (out.map (·.1)) ∧ Forest f1 tm (out ++ l) ∧ (fids (out ++ l)).Perm (fids L) ∧ (out ++ l).length ≤ L.length ∧ (∀ i, i ∉ fids L → f.Eq f1 i) ∧ NM wr V nd tm f1 ∧ Chg (NB V nd) w wr) (fun v0 _ _ => lenV v0)
  case atStart => exact ⟨[], L, f, _, rfl, hl0, OwnP.nil _ _ _, hF, List.Perm.refl _, Nat.le_refl _, fun _ _ => Lk.Eq.refl _ _, hN, Chg.refl _ _⟩
  case round =>
    clear hl0 hF hN
    obtain ⟨out, l, f1, vo, rfl, hl, ho, hF, hp, hle, hEq, hN, hC⟩ := hrel
    match l, hl, hF, hp, hle with
    | [], hl, hF, hp, hle =>
      obtain ⟨A, c, rfl, _⟩ := id hl
      have HL := Lib.hid hl
      have HO := Lib.hid ho
      have hlen1 : (out.map (·.1)).length + (([] : List (Nat × BT)).map (·.1)).length ≤ 1000000 := by simp only [List.length_append, List.length_cons, List.length_nil] at hle; simp; omega
      have HF := Lib.hid hF
      have HP := Lib.hid hp
      have HE := Lib.hid hEq
      have HLe := Lib.hid hle
      have hwb := hC.size
      clear hl ho hF hp hEq hle
      go_wp2_with (at_builtin; refine wpList_app_P rfl _ _ rfl w.heap.size lo w.heap.size _ _ rfl HO.out _ _ (by rfl) HL.out hlen1 hwb ?_)
      intro v2 w2 ho2 hg2
      obtain ⟨hN2, hC2⟩ := app_keep hlo hlw HO.out hN hC hg2
      have HO2 := Lib.hid ho2
      clear ho2 hg2 hN hC
      go_wp2
      go_ret
      exact ⟨_, out ++ ([] : List (Nat × BT)), f1, rfl, HF.out, HP.out, HLe.out, HE.out, hN2, by simpa using HO2.out, hC2⟩
    | [x], hl, hF, hp, hle =>
      obtain ⟨A, c, rfl, _⟩ := id hl
      have HL := Lib.hid hl
      have HO := Lib.hid ho
      have hlen1 : (out.map (·.1)).length + ([x].map (·.1)).length ≤ 1000000 := by simp only [List.length_append, List.length_cons, List.length_nil] at hle; simp; omega
      have HF := Lib.hid hF
      have HP := Lib.hid hp
      have HE := Lib.hid hEq
      have HLe := Lib.hid hle
      have hwb := hC.size
      clear hl ho hF hp hEq hle
      go_wp2_with (at_builtin; refine wpList_app_P rfl _ _ rfl w.heap.size lo w.heap.size _ _ rfl HO.out _ _ (by rfl) HL.out hlen1 hwb ?_)
      intro v2 w2 ho2 hg2
      obtain ⟨hN2, hC2⟩ := app_keep hlo hlw HO.out hN hC hg2
      have HO2 := Lib.hid ho2
      clear ho2 hg2 hN hC
      go_wp2
      go_ret
      exact ⟨_, out ++ [x], f1, rfl, HF.out, HP.out, HLe.out, HE.out, hN2, by simpa using HO2.out, hC2⟩
    | x :: y :: r, hl, hF, hp, hle =>
      obtain ⟨g, o, c, rfl, hc1, hc2, hg1, hg2⟩ := hl.two
      have hc0 := hl.at0
      have hlr := hl.rest
      have hrl : (r.map (·.1)).length + 2 ≤ 1026 := by simp only [List.length_append, List.length_cons] at hle; simp; omega
      generalize hn : (r.map (·.1)).length + 2 = n at *
      have HN := Lib.hid hn
      have hn2 : 2 ≤ n := by omega
      clear hn
      go_wp2_with fail
      have hms := Forest.pair hF
      have hpm : (out ++ x :: y :: r).Perm ([x] ++ [y] ++ (out ++ r)) := (List.perm_middle (a := x)).trans (List.Perm.cons _ List.perm_middle)
      have hme := fun w' (hn : NM w' V nd tm f1) => ph_meld_roots hn (A := [x]) (B := [y]) (hF.perm hpm) fun i hi => hV i (hp.mem_iff.1 ((fids_perm hpm).mem_iff.2 hi))
      have er : ∀ z : Nat × BT, rootL [z] = some z.1 := fun _ => rfl
      rw [er, er] at hme
      clear er hpm
      rw [meldL_O] at hme
      simp only [ptrN_some] at hme
      generalize hdt : (meldT tm x y) = d at *
      have hvo : ∀ k, vo.ownBlock = some k → k < wr.heap.size := fun k e => by
        obtain ⟨A5, c5, rfl, _, _, _, h5⟩ := ho.at
        cases A5 with
        | none => cases e
        | some a => exact (h5 k (by simpa [Value.ownBlock] using e)).2
      have hwb := hC.size
      have hn0 : 0 < n := by omega
      have hn1 : 1 < n := by omega
      have hn2' : (2 : Int) ≤ n := by omega
      have hol : (out.map (·.1)).length ≤ 1024 := by simp only [List.length_append, List.length_cons] at hle; simp; omega
      generalize hf2 : meldL tm f1 x.1 y.1 = f2 at *
      have HF := Lib.hid hF
      have HP := Lib.hid hp
      have HE := Lib.hid hEq
      have HM := Lib.hid hms
      have HL := Lib.hid hle
      clear hF hp hEq hms hle
      have hs0 : SPr V nd tm w.heap.size lo vo (.slice (some ⟨g, o, none⟩) n c) (out.map (·.1)) (x.1 :: y.1 :: r.map (·.1)) f1 f2 w wr.heap.size (fun _ => false) wr.drew :=
        ⟨by simpa using hN.drew, hl.keep fun _ _ _ => rfl, fun _ => ownsRow_keep ho fun _ _ _ => rfl, hC.drew, Nat.le_refl _⟩
      go_wp2_with fail
      refine region_facts_late 15 (fun _ => false) (FPr nd w.heap.size vo d.1 (out.map (·.1)) [vo, .func (.func 36) #[] #[], .slice (some ⟨g, o, none⟩) n c, .pointer (some ⟨g, o, none⟩), .pointer (some ⟨nd x.1, 0, none⟩), .slice (some ⟨g, o, none⟩) n c, .pointer (some ⟨g, o + 1, none⟩), .pointer (some ⟨nd y.1, 0, none⟩), .pointer (some ⟨nd d.1, 0, none⟩), undef, undef, .slice (some ⟨g, o, none⟩) n c, .slice (if c = 2 then some ⟨g, o, none⟩ else some ⟨g, o + 2, none⟩) (n - 2) (c - 2), undef, .slice (if c = 2 then some ⟨g, o, none⟩ else some ⟨g, o + 2, none⟩) (n - 2) (c - 2)])
        (SPr V nd tm w.heap.size lo vo (.slice (some ⟨g, o, none⟩) n c) (out.map (·.1)) (x.1 :: y.1 :: r.map (·.1)) f1 f2 w wr.heap.size) (RPr V nd w.heap.size vo) [9, 10, 11, 12, 13, 14, 15, 16, 17, 18, 19, 20, 21, 5, 0] (by kernel_rfl) (by kernel_rfl) (by kernel_rfl) [(13, 0), (13, 10), (14, 2), (14, 5), (14, 11)] (by decide) (by kernel_rfl) (by kernel_rfl)
        (fun i j v w1 w2 hji hw h k => FPr.keep hlo hlw (by rintro ⟨rfl, rfl⟩; simp at hw) hji h k) (fun _ _ _ h => h.size) hs0 ?_ ?_
      · intro fr hfr
        have f5 : fr.getD 5 undef = vo := by rw [hfr]; rfl
        have f1 : fr.getD 1 undef = .func (.func 36) #[] #[] := by rw [hfr]; rfl
        have f0 : fr.getD 0 undef = .slice (some ⟨g, o, none⟩) n c := by rw [hfr]; rfl
        clear hfr
        iterate 15
          refine ⟨⟨trivial, ?_⟩, ?_⟩
          · intro ρ w' p hp hdq hρ hlate hd hSt
            simp only [DepF, Region.binds, List.getD_cons_zero, List.getD_cons_succ, FPr, forall_const, and_true, true_and, Nat.reduceEqDiff, if_false, if_true, reduceIte, reduceCtorEq, or_false, false_or, or_self] at hd
            have hcon := hρ.con
            have e1 := (hρ.slot 1 (by kernel_rfl)).trans f1
            (try have e5 : ρ (.tmp 5) = vo := (hlate 13 (by decide) (by decide)).trans f5)
            (try have e0 : ρ (.tmp 0) = .slice (some ⟨g, o, none⟩) n c := (hlate 14 (by decide) (by decide)).trans f0)
            obtain ⟨ca, cb⟩ := hSt.pl.at0
            first
              | (obtain ⟨d0, ⟨k, d9, k1, k2, k3, k4⟩, d8⟩ := hd
                 refine good_app_P (nd := nd) (.tmp 9) (.tmp 18) rfl w.heap.size w.heap.size (k + 1) vo (out.map (·.1)) d0 (hSt.own hp) _ [d.1] d9 ⟨_, 1, rfl, by simp, by simp [maxLen], by simp, fun g e => ?_, fun j hj => ⟨k, 0, rfl, ?_⟩⟩ (by simp only [List.length_singleton]; omega) (Nat.le_trans hwb hSt.sz) ?_
                 · simp only [Option.map_some, Option.some.injEq] at e
                   omega
                 · have : j = 0 := by simpa using hj
                   subst this
                   simpa using k4
                 · intro v2 w2 ho2 hg2
                   exact ⟨fun h => absurd h (by decide), by simpa [FPr] using ho2, (grown_ch hg2).mono (fun g _ e => .inr ⟨rfl, own_base (hSt.own hp) g e, e⟩), fun h => absurd h (by decide), hSt.app hlo hlw rfl (hSt.own hp) hg2⟩)
              | (go_simp
                 (try simp only [GoodR, FPr, List.getD_cons_zero, List.getD_cons_succ, Nat.reduceEqDiff, if_false, if_true, reduceIte, reduceCtorEq, or_false, false_or, or_self])
                 first
                   | exact ⟨fun h => absurd h (by decide), rfl, Chg.refl _ _, fun h => absurd h (by decide), hSt.other (by decide) (by decide)⟩
                   | exact ⟨fun h => absurd h (by decide), trivial, Chg.refl _ _, fun h => absurd h (by decide), hSt.other (by decide) (by decide)⟩
                   | (refine (hme w' (by have := hSt.nm; rw [hp] at this; simpa using this)).mono ?_; rintro e w'' ⟨rfl, hx⟩; exact ⟨_, rfl, fun h => absurd h (by decide), rfl, hx.chg.mono (fun _ _ e => .inl ⟨rfl, e⟩), fun h => absurd h (by decide), hSt.meld hlo hlw (Nat.le_trans hwb hSt.sz) hx⟩)
                   | exact ⟨fun h => absurd h (by decide), ⟨w'.heap.size, rfl, Nat.le_trans hwb hSt.sz, by simp, fun e => absurd (hvo _ e) (by have := hSt.sz; omega), (Blk.new w' _ _).cell 0⟩, Chg.of_same ((Below.refl _ _).alloc (Nat.le_refl _) _) _, fun h => absurd h (by decide), hSt.laid (Nat.le_trans hwb hSt.sz) _⟩
                   | exact ⟨fun h => absurd h (by decide), hd.1, Chg.refl _ _, fun h => absurd h (by decide), hSt.other (by decide) (by decide)⟩)
        trivial
      · intro vs w6 hSt hF _
        have h13 : OwnP nd w6 w.heap.size (vs 13) (out.map (·.1) ++ [d.1]) := by simpa [FPr] using hF 13 (by decide)
        have h14 : vs 14 = .slice (if c = 2 then some ⟨g, o, none⟩ else some ⟨g, o + 2, none⟩) (n - 2) (c - 2) := by simpa [FPr] using hF 14 (by decide)
        simp only [setAll, List.setIfInBounds_toArray, List.set_cons_zero, List.set_cons_succ, Nat.reduceAdd]
        rw [h14]
        simp only [List.drop_succ_cons, List.drop_zero, List.drop_nil]
        have hN6 : NM w6 V nd tm f2 := by simpa using hSt.nm
        have hC6 := hSt.chg
        have hR6 := hSt.pl.rest
        have e2 : (r.map (·.1)).length = n - 2 := by have := HN.out; omega
        rw [e2] at hR6
        have HR6 := Lib.hid hR6
        have H13 := Lib.hid h13
        clear hSt hF h14 hme hl hlr hN hC ho hs0 hR6 e2 h13
        go_wp2_with fail
        go_roundw
        case rel => exact ⟨out ++ [d], r, f2, _, rfl, HR6.out, by simpa using H13.out, HM.out.1, HM.out.2.1.trans HP.out, by have := HL.out; simp only [List.length_append, List.length_cons, List.length_nil] at this ⊢; omega, fun i hi => (HE.out i hi).trans (HM.out.2.2 i fun e => hi (HP.out.mem_iff.1 e)), hN6, hC6⟩
        case measure => simp only [lenV]; omega
end Go.Proofs.Ytpbepmipfjcjbaa
