/- Layer 2 (bitmap): the statement Puts, walked. -/
import Derived.Test.YtifoeddeofhclaaDoorNexts
import Derived.Test.YtifoeddeofhclaaDoorWorks3
import Derived.Deep.DeepCutAuto
namespace Go.Proofs.YtifoeddeofhclaaDoor
open Go.RowKit






def Zer (m : Nat) (v : Value) (w : World) : Prop := ∃ g : Nat, v = .pointer (some ⟨g, 0, none⟩) ∧ Blk w g 24 #[.int .u64 0, .int .u64 0, .int .u64 0, .int .u64 0] ∧ m ≤ g
theorem Zer.keep {m : Nat} {v : Value} {w w' : World} (h : Zer m v w) (k : Below w.heap.size w w') : Zer m v w' := by
  obtain ⟨g, h1, h2, h3⟩ := h
  exact ⟨g, h1, h2.below k h2.lt, h3⟩
def FQ (b p d : Bits) (i : Int) (m : Nat) : Nat → Value → World → Prop := fun k v w => match k with
  | 0 => v = b.val
  | 1 => v = .int .i64 i
  | 2 => v = p.val
  | 3 => v = b.val
  | 4 => v = .int .i64 i
  | 5 => v = d.val
  | _ => Zer m v w
theorem FQ.keep (b p d : Bits) (i : Int) (m k : Nat) (v : Value) (w w' : World) (h : FQ b p d i m k v w) (r : Below w.heap.size w w') : FQ b p d i m k v w' := by
  unfold FQ at h ⊢
  split at h <;> first | exact h | exact h.keep r
theorem put_four {w : World} {g : Nat} {t : TypeId} {x0 x1 x2 x3 y0 y1 y2 y3 : Value} (h : Blk w g t #[x0, x1, x2, x3]) :
    Blk ((((w.setCell ⟨g, 0, none⟩ y0).setCell ⟨g, 1, none⟩ y1).setCell ⟨g, 2, none⟩ y2).setCell ⟨g, 3, none⟩ y3) g t #[y0, y1, y2, y3] := by
  simpa using (((h.put 0 y0).put 1 y1).put 2 y2).put 3 y3
theorem far_four {w : World} {g k : Nat} {t : TypeId} {cs : Array Value} {y0 y1 y2 y3 : Value} (h : Blk w g t cs) (hk : g ≠ k) :
    Blk ((((w.setCell ⟨k, 0, none⟩ y0).setCell ⟨k, 1, none⟩ y1).setCell ⟨k, 2, none⟩ y2).setCell ⟨k, 3, none⟩ y3) g t cs :=
  Blk.far (Blk.far (Blk.far (Blk.far h hk _) hk _) hk _) hk _
theorem below_four {w x : World} {n k : Nat} {y0 y1 y2 y3 : Value} (h : Below n w x) (hk : n ≤ k) :
    Below n w ((((x.setCell ⟨k, 0, none⟩ y0).setCell ⟨k, 1, none⟩ y1).setCell ⟨k, 2, none⟩ y2).setCell ⟨k, 3, none⟩ y3) :=
  (((h.setCell hk y0).setCell hk y1).setCell hk y2).setCell hk y3
def FP (b p d : Bits) (i j : Int) (x y z : Bool) : Nat → Value → World → Prop := fun k v _ => match k with
  | 2 => v = b.val
  | 3 => v = .int .i64 i
  | 4 => v = p.val
  | 5 => v = p.val
  | 9 => v = b.val
  | 10 => v = .int .i64 i
  | 11 => v = d.val
  | 12 => v = d.val
  | 16 => v = b.val
  | 17 => v = .int .i64 i
  | 18 => v = .bool x
  | 19 => v = .bool x
  | 23 => v = p.val
  | 24 => v = .int .i64 j
  | 25 => v = .bool y
  | 26 => v = p.val
  | 27 => v = .int .i64 j
  | 28 => v = .bool y
  | 32 => v = d.val
  | 33 => v = .int .i64 j
  | 34 => v = .bool z
  | 35 => v = d.val
  | 36 => v = .int .i64 j
  | 37 => v = .bool z
  | _ => v = .bool true
theorem FP.keep (b p d : Bits) (i j : Int) (x y z : Bool) (k : Nat) (v : Value) (w w' : World) (h : FP b p d i j x y z k v w) (_ : Below w.heap.size w w') : FP b p d i j x y z k v w' := h
structure PS (b p d : Bits) (w : World) (g1 g2 g3 : Nat) (w' : World) : Prop where
  b1 : Blk w' g1 24 b.cells
  b2 : Blk w' g2 24 p.cells
  b3 : Blk w' g3 24 d.cells
  below : Below w.heap.size w w'
theorem PS.kept {b p d : Bits} {w x y : World} {g1 g2 g3 : Nat} (h : PS b p d w g1 g2 g3 x) (k : Below x.heap.size x y) : PS b p d w g1 g2 g3 y :=
  ⟨h.b1.below k h.b1.lt, h.b2.below k h.b2.lt, h.b3.below k h.b3.lt, h.below.trans (Below.mono k h.below.size)⟩
attribute [local irreducible] Calls
set_option maxRecDepth 100000 in
set_option maxHeartbeats 8000000 in
theorem puts_core (b p d : Bits) (i j : Int) (x y z : Bool) (w : World) (hb : b.Ok) (pok : p.Ok) (dok : d.Ok) (hT : TabAt w)
    (P1 : Hid (b.put i = p)) (D1 : Hid (b.drop i = d)) (X1 : Hid (b.has i = x)) (Y1 : Hid (p.has j = y)) (Z1 : Hid (d.has j = z)) :
    Calls Tryd.prog 3 #[b.val, .int .i64 i, .int .i64 j] w fun e w' => e = .returned (.bool true) ∧ Below w.heap.size w w' := by
  have hwk : Works := works_any
  have hcells : b.cells = #[.int .u64 b.w0, .int .u64 b.w1, .int .u64 b.w2, .int .u64 b.w3] := rfl
  have hgl := glob_lt hT
  have g0 : Below w.heap.size w (w.alloc (.cells b.cells 24)) := (Below.refl _ _).alloc (Nat.le_refl _) _
  have B0 : Blk (w.alloc (.cells b.cells 24)) w.heap.size 24 b.cells := Blk.new w 24 b.cells
  have l0 := B0.lt
  have hwk0 := hwk _ (hT.below g0 hgl)
  unfold Bits.val
  go_enter Tryd.func3, Tryd.ntmps3
  go_wp2_with fail
  refine (hwk0).mono ?_
  rintro e w1 ⟨rfl, hx⟩
  try clear hc
  have g1 : Below w.heap.size w w1 := g0.trans (Below.mono (hx) g0.size)
  have B1 : Blk w1 w.heap.size 24 b.cells := Blk.below B0 (hx) l0
  have l1 := B1.lt
  have hc := B1.cell
  rw [hcells] at hc
  clear hx g0 B0 l0
  skip
  go_wp2_with fail
  have k0 : WS b w w.heap.size w1.drew := ⟨B1.drew, g1.drew⟩
  clear g1 B1 hc hwk0 hwk
  go_upto_region 4 with fail
  go_cut [8, 9] (fun s8 s9 wx => ∃ g2 g3 : Nat, s8 = .pointer (some ⟨g2, 0, none⟩) ∧ s9 = .pointer (some ⟨g3, 0, none⟩) ∧ PS b p d w w.heap.size g2 g3 wx)
  case first =>
    refine region_facts_tail 8 (fun j => j == 6 || j == 7) (FQ b p d i w1.heap.size) (fun x => WS b w w.heap.size x ∧ w1.heap.size ≤ x.heap.size) (fun x y => Below x.heap.size x y) (List.range' 14 6 ++ [8, 9]) (by kernel_rfl) (by kernel_rfl) (by kernel_rfl) (by decide) (by kernel_rfl) (by kernel_rfl) (FQ.keep b p d i w1.heap.size) (fun _ _ h k => ⟨h.1.kept k, Nat.le_trans h.2 k.size⟩) (fun _ _ h => h.size) ⟨k0, Nat.le_refl _⟩ ?_ ?_
    · intro fr hfr
      have f1 : fr.getD 1 undef = .int .i64 i := by rw [hfr]; rfl
      have f3 : fr.getD 3 undef = .pointer (some ⟨w.heap.size, 0, none⟩) := by rw [hfr]; rfl
      clear hfr
      generalize w.heap.size = g1 at *
      iterate 6
        refine ⟨⟨by first | exact trivial | exact ⟨rfl, fun _ _ h => h⟩, ?_⟩, ?_⟩
        · intro ρ w' hρ hd hS
          refine ⟨?_, fun h => absurd h (by decide)⟩
          simp only [DepF, Region.binds, dat, Nat.reduceLT, Nat.reduceAdd, FQ, forall_const, and_true, true_and] at hd
          have hcon := hρ.con
          have e1 := (hρ.slot 1 (by kernel_rfl)).trans f1
          have e3 := (hρ.slot 3 (by kernel_rfl)).trans f3
          have hc1 := hS.1.blk.cell
          simp only [Bits.cells] at hc1
          (try rw [execOp_call_fn _ _ _ _ _ _ _ _ _ (hρ.fn _)])
          go_simp
          (try simp only [Nat.reduceAdd, Good, FQ])
          first
            | exact ⟨trivial, Below.refl _ _⟩
            | exact ⟨rfl, Below.refl _ _⟩
            | (go_at_call 10; refine (rput_on b i _ hb).mono ?_; rintro e w'' ⟨rfl, hk⟩; refine ⟨_, rfl, ?_, hk⟩; rw [P1.out])
            | (go_at_call 10; refine (rput_off b i _ hb).mono ?_; rintro e w'' ⟨rfl, hk⟩; refine ⟨_, rfl, ?_, hk⟩; rw [D1.out])
      iterate 2
        refine ⟨⟨trivial, ?_⟩, ?_⟩
        · intro ρ w' hρ hd hS
          refine ⟨?_, fun _ => ?_⟩
          · go_simp
            simp only [Nat.reduceAdd, Good, FQ]
            exact ⟨⟨_, rfl, Blk.new _ _ _, hS.2⟩, alloc_kept _ _⟩
          · go_simp
            exact ⟨_, _, ⟨rfl, rfl⟩, rfl, by simp⟩
      trivial
    · intro vs w' hs hF hd
      have h2 : vs 2 = p.val := hF 2 (by decide)
      have h5 : vs 5 = d.val := hF 5 (by decide)
      obtain ⟨g2, h6, z2, m2⟩ : Zer w1.heap.size (vs 6) w' := hF 6 (by decide)
      obtain ⟨g3, h7, z3, m3⟩ : Zer w1.heap.size (vs 7) w' := hF 7 (by decide)
      have hne := hd 6 7 (by decide) (by decide) (by decide) (by decide) (by decide)
      rw [h6, h7] at hne
      simp only [blkOf, ne_eq, Option.some.injEq] at hne
      have hl1 := l1
      clear hd hF
      have c2 := z2.cell
      have q2 := z2.frozen
      have c3 := z3.cell
      have q3 := z3.frozen
      have hne' : ¬ g3 = g2 := fun h => hne h.symm
      simp only [List.range'_zero, List.range'_succ, List.range'_zero, List.cons_append, List.nil_append, setAll, List.setIfInBounds_toArray, List.set_cons_zero, List.set_cons_succ, Nat.reduceAdd]
      rw [h2, h5, h6, h7]
      unfold Bits.val
      clear h2 h5 h6 h7
      simp only [List.drop_succ_cons, List.drop_zero]
      go_wp2_with fail
      go_meet
      exact ⟨g2, g3, rfl, rfl, far_four (far_four hs.1.blk (by omega)) (by omega), far_four (put_four z2) hne, put_four (far_four z3 hne'), below_four (below_four hs.1.below (by omega)) (by omega)⟩
  case rest =>
    obtain ⟨g2, g3, rfl, rfl, hP⟩ := hcut
    have hb1 := hP.b1.cell
    simp only [Bits.cells] at hb1
    have hb2 := hP.b2.cell
    simp only [Bits.cells] at hb2
    have hb3 := hP.b3.cell
    simp only [Bits.cells] at hb3
    go_wp2_with fail
    refine (rhas_any b i _ hb).mono ?_
    rintro e w2 ⟨rfl, hx⟩
    rw [X1.out]
    have k1 : PS b p d w w.heap.size g2 g3 w2.drew := ⟨(hP.kept hx).b1.drew, (hP.kept hx).b2.drew, (hP.kept hx).b3.drew, (hP.kept hx).below.drew⟩
    clear hx hP hb1 hb2 hb3
    go_wp2_with fail
    refine region_facts (FP b p d i j x y z) (PS b p d w w.heap.size g2 g3) (fun x y => Below x.heap.size x y) (List.range' 23 40 ++ [6]) (by kernel_rfl) (by kernel_rfl) (by decide) (by kernel_rfl) (by kernel_rfl) (FP.keep b p d i j x y z) (fun _ _ h k => h.kept k) (fun _ _ h => h.size) k1 ?_ ?_
    · intro fr hfr
      have f1 : fr.getD 1 undef = .int .i64 i := by rw [hfr]; rfl
      have f2 : fr.getD 2 undef = .int .i64 j := by rw [hfr]; rfl
      have f3 : fr.getD 3 undef = .pointer (some ⟨w.heap.size, 0, none⟩) := by rw [hfr]; rfl
      have f7 : fr.getD 7 undef = .bool true := by rw [hfr]; rfl
      have f8 : fr.getD 8 undef = .pointer (some ⟨g2, 0, none⟩) := by rw [hfr]; rfl
      have f9 : fr.getD 9 undef = .pointer (some ⟨g3, 0, none⟩) := by rw [hfr]; rfl
      have f10 : fr.getD 10 undef = .bool x := by rw [hfr]; rfl
      clear hfr
      generalize w.heap.size = g1 at *
      iterate 41
        refine ⟨⟨by first | exact trivial | exact ⟨rfl, fun _ _ h => h⟩, ?_⟩, ?_⟩
        · intro ρ w' hρ hd hS
          simp only [DepF, Region.binds, dat, Nat.reduceLT, Nat.reduceAdd, FP, forall_const, and_true, true_and] at hd
          have hcon := hρ.con
          have e1 := (hρ.slot 1 (by kernel_rfl)).trans f1
          have e2 := (hρ.slot 2 (by kernel_rfl)).trans f2
          have e3 := (hρ.slot 3 (by kernel_rfl)).trans f3
          have e7 := (hρ.slot 7 (by kernel_rfl)).trans f7
          have e8 := (hρ.slot 8 (by kernel_rfl)).trans f8
          have e9 := (hρ.slot 9 (by kernel_rfl)).trans f9
          have e10 := (hρ.slot 10 (by kernel_rfl)).trans f10
          have hc1 := hS.b1.cell
          have hc2 := hS.b2.cell
          have hc3 := hS.b3.cell
          simp only [Bits.cells] at hc1 hc2 hc3
          (try rw [execOp_call_fn _ _ _ _ _ _ _ _ _ (hρ.fn _)])
          go_simp
          (try simp only [Nat.reduceAdd, Good, FP])
          first
            | exact ⟨trivial, Below.refl _ _⟩
            | exact ⟨rfl, Below.refl _ _⟩
            | (go_at_call 12; refine (put_any b i _ hb).mono ?_; rintro e w'' ⟨rfl, hk⟩; refine ⟨_, rfl, ?_, hk⟩; rw [P1.out])
            | (go_at_call 13; refine (drop_any b i _ hb).mono ?_; rintro e w'' ⟨rfl, hk⟩; refine ⟨_, rfl, ?_, hk⟩; rw [D1.out])
            | (go_at_call 14; refine (has_any b i _ hb).mono ?_; rintro e w'' ⟨rfl, hk⟩; refine ⟨_, rfl, ?_, hk⟩; rw [X1.out])
            | (go_at_call 14; refine (has_any p j _ pok).mono ?_; rintro e w'' ⟨rfl, hk⟩; refine ⟨_, rfl, ?_, hk⟩; rw [Y1.out])
            | (go_at_call 11; refine (rhas_any p j _ pok).mono ?_; rintro e w'' ⟨rfl, hk⟩; refine ⟨_, rfl, ?_, hk⟩; rw [Y1.out])
            | (go_at_call 14; refine (has_any d j _ dok).mono ?_; rintro e w'' ⟨rfl, hk⟩; refine ⟨_, rfl, ?_, hk⟩; rw [Z1.out])
            | (go_at_call 11; refine (rhas_any d j _ dok).mono ?_; rintro e w'' ⟨rfl, hk⟩; refine ⟨_, rfl, ?_, hk⟩; rw [Z1.out])
      trivial
    · intro vs w' hs hF
      have h0 : vs 40 = .bool true := hF 40 (by decide)
      clear hF
      have hb' := hs.below
      simp only [List.range'_zero, List.range'_succ, List.range'_zero, List.cons_append, List.nil_append, setAll, List.setIfInBounds_toArray, List.set_cons_zero, List.set_cons_succ, Nat.reduceAdd]
      rw [h0]
      clear h0 hs k1
      go_wp2
      go_ret
      exact ⟨rfl, hb'⟩
end Go.Proofs.YtifoeddeofhclaaDoor
