/- Layer 2 (bitmap): the statement Two, walked. -/
import Derived.Test.YtifoeddeofhclaaDoorLists
namespace Go.Proofs.YtifoeddeofhclaaDoor
open Go.RowKit





def F4 (a b : Bits) (i : Int) (x y : Bool) : Nat → Value → World → Prop := fun k v _ => match k with
  | 0 => v = a.val
  | 1 => v = .int .i64 i
  | 2 => v = .bool x
  | 3 => v = b.val
  | 4 => v = .int .i64 i
  | 5 => v = .bool y
  | 6 => v = .bool x
  | _ => v = .bool y
theorem F4.keep (a b : Bits) (i : Int) (x y : Bool) (k : Nat) (v : Value) (w w' : World) (h : F4 a b i x y k v w) (_ : Below w.heap.size w w') : F4 a b i x y k v w' := h
def F5 (a b p q : Bits) (m : Nat) : Nat → Value → World → Prop := fun k v w => match k with
  | 0 => v = a.val
  | 1 => v = b.val
  | 2 => v = p.val
  | 3 => v = a.val
  | 4 => v = b.val
  | 5 => v = q.val
  | _ => Zer m v w
theorem F5.keep (a b p q : Bits) (m k : Nat) (v : Value) (w w' : World) (h : F5 a b p q m k v w) (r : Below w.heap.size w w') : F5 a b p q m k v w' := by
  unfold F5 at h ⊢
  split at h <;> first | exact h | exact h.keep r
def F8 (a b p q : Bits) (ca cb cp cq : Nat) : Nat → Value → World → Prop := fun k v _ => match k with
  | 2 => v = a.val
  | 3 => v = .int .i64 ca
  | 4 => v = b.val
  | 5 => v = .int .i64 cb
  | 6 => v = .int .i64 (ca + cb : Nat)
  | 7 => v = p.val
  | 8 => v = .int .i64 cp
  | 9 => v = q.val
  | 10 => v = .int .i64 cq
  | 11 => v = .int .i64 (ca + cb : Nat)
  | 15 => v = b.val
  | 16 => v = a.val
  | 17 => v = p.val
  | 18 => v = p.val
  | 22 => v = b.val
  | 23 => v = a.val
  | 24 => v = q.val
  | 25 => v = q.val
  | _ => v = .bool true
theorem F8.keep (a b p q : Bits) (ca cb cp cq : Nat) (k : Nat) (v : Value) (w w' : World) (h : F8 a b p q ca cb cp cq k v w) (_ : Below w.heap.size w w') : F8 a b p q ca cb cp cq k v w' := h
structure AB (a b : Bits) (w : World) (g1 g2 : Nat) (w' : World) : Prop where
  b1 : Blk w' g1 24 a.cells
  b2 : Blk w' g2 24 b.cells
  below : Below w.heap.size w w'
theorem AB.kept {a b : Bits} {w x y : World} {g1 g2 : Nat} (h : AB a b w g1 g2 x) (k : Below x.heap.size x y) : AB a b w g1 g2 y :=
  ⟨h.b1.below k h.b1.lt, h.b2.below k h.b2.lt, h.below.trans (Below.mono k h.below.size)⟩
structure AP (a b p q : Bits) (w : World) (g1 g2 g3 g4 : Nat) (w' : World) : Prop where
  b1 : Blk w' g1 24 a.cells
  b2 : Blk w' g2 24 b.cells
  b3 : Blk w' g3 24 p.cells
  b4 : Blk w' g4 24 q.cells
  below : Below w.heap.size w w'
theorem AP.kept {a b p q : Bits} {w x y : World} {g1 g2 g3 g4 : Nat} (h : AP a b p q w g1 g2 g3 g4 x) (k : Below x.heap.size x y) : AP a b p q w g1 g2 g3 g4 y :=
  ⟨h.b1.below k h.b1.lt, h.b2.below k h.b2.lt, h.b3.below k h.b3.lt, h.b4.below k h.b4.lt, h.below.trans (Below.mono k h.below.size)⟩
theorem AP.drew {a b p q : Bits} {w x : World} {g1 g2 g3 g4 : Nat} (h : AP a b p q w g1 g2 g3 g4 x) : AP a b p q w g1 g2 g3 g4 x.drew := ⟨h.b1.drew, h.b2.drew, h.b3.drew, h.b4.drew, h.below.drew⟩
theorem AP.of4 {a b y z : Bits} {w x : World} {g1 g2 g3 g4 : Nat} {k0 k1 k2 k3 m0 m1 m2 m3 : Value} (h : AB a b w g1 g2 x) (h3 : Blk x g3 24 #[k0, k1, k2, k3]) (h4 : Blk x g4 24 #[m0, m1, m2, m3]) (hne : ¬ g3 = g4) (hl : g1 < g3 ∧ g2 < g3 ∧ w.heap.size ≤ g3) (hk : g1 < g4 ∧ g2 < g4 ∧ w.heap.size ≤ g4) :
    AP a b y z w g1 g2 g3 g4 ((((((((x.setCell ⟨g3, 0, none⟩ (.int .u64 y.w0)).setCell ⟨g3, 1, none⟩ (.int .u64 y.w1)).setCell ⟨g3, 2, none⟩ (.int .u64 y.w2)).setCell ⟨g3, 3, none⟩ (.int .u64 y.w3)).setCell ⟨g4, 0, none⟩ (.int .u64 z.w0)).setCell ⟨g4, 1, none⟩ (.int .u64 z.w1)).setCell ⟨g4, 2, none⟩ (.int .u64 z.w2)).setCell ⟨g4, 3, none⟩ (.int .u64 z.w3)) :=
  ⟨far_four (far_four h.b1 (by omega)) (by omega), far_four (far_four h.b2 (by omega)) (by omega), far_four (put_four h3) hne, put_four (far_four h4 (fun e => hne e.symm)), below_four (below_four h.below hl.2.2) hk.2.2⟩
attribute [local irreducible] Calls
set_option maxRecDepth 100000 in
set_option maxHeartbeats 8000000 in
theorem two_tt (a b p q : Bits) (i : Int) (ca cb cp cq : Nat) (w : World) (ha : a.Ok) (hb : b.Ok) (hp : p.Ok) (hq : q.Ok) (hT : TabAt w) (lc : ca ≤ 256 ∧ cb ≤ 256 ∧ cp ≤ 256 ∧ cq ≤ 256) (hc : cp + cq = ca + cb)
    (P1 : Hid (a.mix (fun x y => x &&& y) 4 b = p)) (P2 : Hid (b.mix (fun x y => x &&& y) 4 a = p)) (Q1 : Hid (a.mix (fun x y => x ||| y) 4 b = q)) (Q2 : Hid (b.mix (fun x y => x ||| y) 4 a = q))
    (X1 : Hid (a.has i = true)) (Y1 : Hid (b.has i = true)) (Z1 : Hid (p.has i = true)) (U1 : Hid (q.has i = true)) (C1 : Hid (a.count = ca)) (C2 : Hid (b.count = cb)) (C3 : Hid (p.count = cp)) (C4 : Hid (q.count = cq)) :
    Calls Tryd.prog 5 #[a.val, b.val, .int .i64 i] w fun e w' => e = .returned (.bool true) ∧ Below w.heap.size w w' := by
  have hgl := glob_lt hT
  have q0 : AB a b w w.heap.size (w.heap.size + 1) ((w.alloc (.cells a.cells 24)).alloc (.cells b.cells 24)) :=
    ⟨(Blk.new w _ _).alloc _, by simpa using Blk.new (w.alloc (.cells a.cells 24)) 24 b.cells, ((Below.refl _ _).alloc (Nat.le_refl _) _).alloc (by simp) _⟩
  have hlt : w.heap.size + 1 < ((w.alloc (.cells a.cells 24)).alloc (.cells b.cells 24)).heap.size := by simp
  have hwk0 := works_any _ (hT.below q0.below hgl)
  unfold Bits.val
  go_enter Tryd.func5, Tryd.ntmps5
  go_wp2_with fail
  refine hwk0.mono ?_
  rintro e w1 ⟨rfl, hx⟩
  have q1 : AB a b w w.heap.size (w.heap.size + 1) w1 := q0.kept hx
  have hlt1 : w.heap.size + 1 < w1.heap.size := Nat.lt_of_lt_of_le hlt hx.size
  clear hx q0 hwk0 hlt
  have hW : w.heap.size < w.heap.size + 1 := by omega
  generalize w.heap.size + 1 = g2 at *
  have k0 : AB a b w w.heap.size g2 w1.drew ∧ g2 < w1.drew.heap.size := ⟨⟨q1.b1.drew, q1.b2.drew, q1.below.drew⟩, hlt1⟩
  clear q1 hlt1
  go_upto_region 4 with fail
  refine region_facts (F4 a b i true true) (fun z => AB a b w w.heap.size g2 z ∧ g2 < z.heap.size) (fun x y => Below x.heap.size x y) (List.range' 15 6 ++ [8, 9]) (by kernel_rfl) (by kernel_rfl) (by decide) (by kernel_rfl) (by kernel_rfl) (F4.keep a b i true true) (fun _ _ h k => ⟨h.1.kept k, Nat.lt_of_lt_of_le h.2 k.size⟩) (fun _ _ h => h.size) k0 ?_ ?_
  · intro fr hfr
    have f2 : fr.getD 2 undef = .int .i64 i := by rw [hfr]; rfl
    have f3 : fr.getD 3 undef = .pointer (some ⟨w.heap.size, 0, none⟩) := by rw [hfr]; rfl
    have f4 : fr.getD 4 undef = .pointer (some ⟨g2, 0, none⟩) := by rw [hfr]; rfl
    clear hfr
    generalize w.heap.size = g1 at *
    iterate 8
      refine ⟨⟨by first | exact trivial | exact ⟨rfl, fun _ _ h => h⟩, ?_⟩, ?_⟩
      · intro ρ w' hρ hd hS
        simp only [DepF, Region.binds, dat, Nat.reduceLT, Nat.reduceAdd, F4, forall_const, and_true, true_and] at hd
        have hcon := hρ.con
        have e2 := (hρ.slot 2 (by kernel_rfl)).trans f2
        have e3 := (hρ.slot 3 (by kernel_rfl)).trans f3
        have e4 := (hρ.slot 4 (by kernel_rfl)).trans f4
        have hc1 := hS.1.b1.cell
        have hc2 := hS.1.b2.cell
        simp only [Bits.cells] at hc1 hc2
        (try rw [execOp_call_fn _ _ _ _ _ _ _ _ _ (hρ.fn _)])
        go_simp
        (try simp only [Nat.reduceAdd, Good, F4])
        first
          | exact ⟨trivial, Below.refl _ _⟩
          | exact ⟨rfl, Below.refl _ _⟩
            | (go_at_call 11; refine (rhas_any a i _ ha).mono ?_; rintro e w'' ⟨rfl, hk⟩; refine ⟨_, rfl, ?_, hk⟩; rw [X1.out])
            | (go_at_call 11; refine (rhas_any b i _ hb).mono ?_; rintro e w'' ⟨rfl, hk⟩; refine ⟨_, rfl, ?_, hk⟩; rw [Y1.out])
    trivial
  · intro vs w3 hs hF
    have h6 : vs 6 = .bool true := hF 6 (by decide)
    have h7 : vs 7 = .bool true := hF 7 (by decide)
    clear hF k0
    simp only [List.range'_succ, List.range'_zero, List.cons_append, List.nil_append, setAll, List.setIfInBounds_toArray, List.set_cons_zero, List.set_cons_succ, Nat.reduceAdd]
    rw [h6, h7]
    clear h6 h7
    go_upto_region 5 with fail
    refine region_facts_tail 8 (fun j => j == 6 || j == 7) (F5 a b p q w3.heap.size) (fun z => AB a b w w.heap.size g2 z ∧ w3.heap.size ≤ z.heap.size) (fun x y => Below x.heap.size x y) (List.range' 21 6 ++ [10, 11]) (by kernel_rfl) (by kernel_rfl) (by kernel_rfl) (by decide) (by kernel_rfl) (by kernel_rfl) (F5.keep a b p q w3.heap.size) (fun _ _ h k => ⟨h.1.kept k, Nat.le_trans h.2 k.size⟩) (fun _ _ h => h.size) ⟨⟨hs.1.b1.drew, hs.1.b2.drew, hs.1.below.drew⟩, Nat.le_refl _⟩ ?_ ?_
    · intro fr hfr
      have f3 : fr.getD 3 undef = .pointer (some ⟨w.heap.size, 0, none⟩) := by rw [hfr]; rfl
      have f4 : fr.getD 4 undef = .pointer (some ⟨g2, 0, none⟩) := by rw [hfr]; rfl
      clear hfr
      generalize w.heap.size = g1 at *
      iterate 6
        refine ⟨⟨by first | exact trivial | exact ⟨rfl, fun _ _ h => h⟩, ?_⟩, ?_⟩
        · intro ρ w' hρ hd hS
          refine ⟨?_, fun h => absurd h (by decide)⟩
          simp only [DepF, Region.binds, dat, Nat.reduceLT, Nat.reduceAdd, F5, forall_const, and_true, true_and] at hd
          have hcon := hρ.con
          have e3 := (hρ.slot 3 (by kernel_rfl)).trans f3
          have e4 := (hρ.slot 4 (by kernel_rfl)).trans f4
          have hc1 := hS.1.b1.cell
          have hc2 := hS.1.b2.cell
          simp only [Bits.cells] at hc1 hc2
          (try rw [execOp_call_fn _ _ _ _ _ _ _ _ _ (hρ.fn _)])
          go_simp
          (try simp only [Nat.reduceAdd, Good, F5])
          first
            | exact ⟨trivial, Below.refl _ _⟩
            | exact ⟨rfl, Below.refl _ _⟩
            | (go_at_call 21; refine (both_any a b _ ha hb).mono ?_; rintro e w'' ⟨rfl, hk⟩; refine ⟨_, rfl, ?_, hk⟩; rw [P1.out])
            | (go_at_call 22; refine (either_any a b _ ha hb).mono ?_; rintro e w'' ⟨rfl, hk⟩; refine ⟨_, rfl, ?_, hk⟩; rw [Q1.out])
      iterate 2
        refine ⟨⟨trivial, ?_⟩, ?_⟩
        · intro ρ w' hρ hd hS
          refine ⟨?_, fun _ => ?_⟩
          · go_simp
            simp only [Nat.reduceAdd, Good, F5]
            exact ⟨⟨_, rfl, Blk.new _ _ _, hS.2⟩, alloc_kept _ _⟩
          · go_simp
            exact ⟨_, _, ⟨rfl, rfl⟩, rfl, by simp⟩
      trivial
    · intro vt w4 hs4 hF hd
      have h2 : vt 2 = p.val := hF 2 (by decide)
      have h5 : vt 5 = q.val := hF 5 (by decide)
      obtain ⟨g3, h6, z2, m2⟩ : Zer w3.heap.size (vt 6) w4 := hF 6 (by decide)
      obtain ⟨g4, h7, z3, m3⟩ : Zer w3.heap.size (vt 7) w4 := hF 7 (by decide)
      have hne := hd 6 7 (by decide) (by decide) (by decide) (by decide) (by decide)
      rw [h6, h7] at hne
      simp only [blkOf, ne_eq, Option.some.injEq] at hne
      have hl1 := hs.2
      clear hd hF
      have c2 := z2.cell
      have r2 := z2.frozen
      have c3 := z3.cell
      have r3 := z3.frozen
      have hne' : ¬ g4 = g3 := fun h => hne h.symm
      simp only [List.range'_succ, List.range'_zero, List.cons_append, List.nil_append, setAll, List.setIfInBounds_toArray, List.set_cons_zero, List.set_cons_succ, Nat.reduceAdd]
      rw [h2, h5, h6, h7]
      unfold Bits.val
      clear h2 h5 h6 h7
      simp only [List.drop_succ_cons, List.drop_zero]
      go_wp2_with fail
      have qX := AP.of4 (y := p) (z := q) hs4.1 z2 z3 hne (by omega) (by omega)
      refine (has_any p i _ hp).mono ?_
      rintro e w5 ⟨rfl, hx⟩
      have q5 := qX.kept hx
      rw [Z1.out]
      clear qX hx c2 r2 c3 r3 z2 z3 hs4 m2 m3 hl1 hne hne' hs hW
      have hb4 := q5.b4.cell
      simp only [Bits.cells] at hb4
      go_wp2_with fail
      refine (has_any q i _ hq).mono ?_
      rintro e w6 ⟨rfl, hx⟩
      have q6 := (q5.kept hx).drew
      rw [U1.out]
      clear hx hb4 q5
      go_wp2_with fail
      have hs1 : IntKind.i64.wrap ((ca : Int) + cb) = ((ca + cb : Nat) : Int) := by rw [IntKind.wrap_i64]; omega
      have hs2 : IntKind.i64.wrap ((cp : Int) + cq) = ((ca + cb : Nat) : Int) := by rw [IntKind.wrap_i64]; omega
      refine region_facts (F8 a b p q ca cb cp cq) (AP a b p q w w.heap.size g2 g3 g4) (fun x y => Below x.heap.size x y) (List.range' 45 28 ++ [6]) (by kernel_rfl) (by kernel_rfl) (by decide) (by kernel_rfl) (by kernel_rfl) (F8.keep a b p q ca cb cp cq) (fun _ _ h k => h.kept k) (fun _ _ h => h.size) q6 ?_ ?_
      · intro fr hfr
        have f3 : fr.getD 3 undef = .pointer (some ⟨w.heap.size, 0, none⟩) := by rw [hfr]; rfl
        have f4 : fr.getD 4 undef = .pointer (some ⟨g2, 0, none⟩) := by rw [hfr]; rfl
        have f7 : fr.getD 7 undef = .bool true := by rw [hfr]; rfl
        have f10 : fr.getD 10 undef = .pointer (some ⟨g3, 0, none⟩) := by rw [hfr]; rfl
        have f11 : fr.getD 11 undef = .pointer (some ⟨g4, 0, none⟩) := by rw [hfr]; rfl
        clear hfr
        have S1 := Lib.hid hs1
        have S2 := Lib.hid hs2
        clear hs1 hs2 lc hc
        generalize w.heap.size = g1 at *
        iterate 29
          skip
          refine ⟨⟨by first | exact trivial | exact ⟨rfl, fun _ _ h => h⟩, ?_⟩, ?_⟩
          · intro ρ w' hρ hd hS
            simp only [DepF, Region.binds, dat, Nat.reduceLT, Nat.reduceAdd, F8, forall_const, and_true, true_and] at hd
            have hcon := hρ.con
            have e3 := (hρ.slot 3 (by kernel_rfl)).trans f3
            have e4 := (hρ.slot 4 (by kernel_rfl)).trans f4
            have e7 := (hρ.slot 7 (by kernel_rfl)).trans f7
            have e10 := (hρ.slot 10 (by kernel_rfl)).trans f10
            have e11 := (hρ.slot 11 (by kernel_rfl)).trans f11
            have hc1 := hS.b1.cell
            have hc2 := hS.b2.cell
            have hc3 := hS.b3.cell
            have hc4 := hS.b4.cell
            simp only [Bits.cells] at hc1 hc2 hc3 hc4
            (try rw [execOp_call_fn _ _ _ _ _ _ _ _ _ (hρ.fn _)])
            go_simp
            (try simp only [Nat.reduceAdd, Good, F8])
            first
              | exact ⟨trivial, Below.refl _ _⟩
              | exact ⟨rfl, Below.refl _ _⟩
                | (rw [S1.out]; exact ⟨rfl, Below.refl _ _⟩)
                | (rw [S2.out]; exact ⟨rfl, Below.refl _ _⟩)
                | (go_at_call 20; refine (count_any a _ ha).mono ?_; rintro e w'' ⟨rfl, hk⟩; refine ⟨_, rfl, ?_, hk⟩; rw [C1.out])
                | (go_at_call 20; refine (count_any b _ hb).mono ?_; rintro e w'' ⟨rfl, hk⟩; refine ⟨_, rfl, ?_, hk⟩; rw [C2.out])
                | (go_at_call 20; refine (count_any p _ hp).mono ?_; rintro e w'' ⟨rfl, hk⟩; refine ⟨_, rfl, ?_, hk⟩; rw [C3.out])
                | (go_at_call 20; refine (count_any q _ hq).mono ?_; rintro e w'' ⟨rfl, hk⟩; refine ⟨_, rfl, ?_, hk⟩; rw [C4.out])
                | (go_at_call 21; refine (both_any b a _ hb ha).mono ?_; rintro e w'' ⟨rfl, hk⟩; refine ⟨_, rfl, ?_, hk⟩; rw [P2.out])
                | (go_at_call 22; refine (either_any b a _ hb ha).mono ?_; rintro e w'' ⟨rfl, hk⟩; refine ⟨_, rfl, ?_, hk⟩; rw [Q2.out])
        trivial
      · intro vu w7 hs7 hF
        have h0 : vu 28 = .bool true := hF 28 (by decide)
        clear hF
        have hb' := hs7.below
        simp only [List.range'_succ, List.range'_zero, List.cons_append, List.nil_append, setAll, List.setIfInBounds_toArray, List.set_cons_zero, List.set_cons_succ, Nat.reduceAdd]
        rw [h0]
        clear h0 hs7 q6
        go_wp2
        go_ret
        exact ⟨rfl, hb'⟩
set_option maxRecDepth 100000 in
set_option maxHeartbeats 8000000 in
theorem two_tf (a b p q : Bits) (i : Int) (ca cb cp cq : Nat) (w : World) (ha : a.Ok) (hb : b.Ok) (hp : p.Ok) (hq : q.Ok) (hT : TabAt w) (lc : ca ≤ 256 ∧ cb ≤ 256 ∧ cp ≤ 256 ∧ cq ≤ 256) (hc : cp + cq = ca + cb)
    (P1 : Hid (a.mix (fun x y => x &&& y) 4 b = p)) (P2 : Hid (b.mix (fun x y => x &&& y) 4 a = p)) (Q1 : Hid (a.mix (fun x y => x ||| y) 4 b = q)) (Q2 : Hid (b.mix (fun x y => x ||| y) 4 a = q))
    (X1 : Hid (a.has i = true)) (Y1 : Hid (b.has i = false)) (Z1 : Hid (p.has i = false)) (U1 : Hid (q.has i = true)) (C1 : Hid (a.count = ca)) (C2 : Hid (b.count = cb)) (C3 : Hid (p.count = cp)) (C4 : Hid (q.count = cq)) :
    Calls Tryd.prog 5 #[a.val, b.val, .int .i64 i] w fun e w' => e = .returned (.bool true) ∧ Below w.heap.size w w' := by
  have hgl := glob_lt hT
  have q0 : AB a b w w.heap.size (w.heap.size + 1) ((w.alloc (.cells a.cells 24)).alloc (.cells b.cells 24)) :=
    ⟨(Blk.new w _ _).alloc _, by simpa using Blk.new (w.alloc (.cells a.cells 24)) 24 b.cells, ((Below.refl _ _).alloc (Nat.le_refl _) _).alloc (by simp) _⟩
  have hlt : w.heap.size + 1 < ((w.alloc (.cells a.cells 24)).alloc (.cells b.cells 24)).heap.size := by simp
  have hwk0 := works_any _ (hT.below q0.below hgl)
  unfold Bits.val
  go_enter Tryd.func5, Tryd.ntmps5
  go_wp2_with fail
  refine hwk0.mono ?_
  rintro e w1 ⟨rfl, hx⟩
  have q1 : AB a b w w.heap.size (w.heap.size + 1) w1 := q0.kept hx
  have hlt1 : w.heap.size + 1 < w1.heap.size := Nat.lt_of_lt_of_le hlt hx.size
  clear hx q0 hwk0 hlt
  have hW : w.heap.size < w.heap.size + 1 := by omega
  generalize w.heap.size + 1 = g2 at *
  have k0 : AB a b w w.heap.size g2 w1.drew ∧ g2 < w1.drew.heap.size := ⟨⟨q1.b1.drew, q1.b2.drew, q1.below.drew⟩, hlt1⟩
  clear q1 hlt1
  go_upto_region 4 with fail
  refine region_facts (F4 a b i true false) (fun z => AB a b w w.heap.size g2 z ∧ g2 < z.heap.size) (fun x y => Below x.heap.size x y) (List.range' 15 6 ++ [8, 9]) (by kernel_rfl) (by kernel_rfl) (by decide) (by kernel_rfl) (by kernel_rfl) (F4.keep a b i true false) (fun _ _ h k => ⟨h.1.kept k, Nat.lt_of_lt_of_le h.2 k.size⟩) (fun _ _ h => h.size) k0 ?_ ?_
  · intro fr hfr
    have f2 : fr.getD 2 undef = .int .i64 i := by rw [hfr]; rfl
    have f3 : fr.getD 3 undef = .pointer (some ⟨w.heap.size, 0, none⟩) := by rw [hfr]; rfl
    have f4 : fr.getD 4 undef = .pointer (some ⟨g2, 0, none⟩) := by rw [hfr]; rfl
    clear hfr
    generalize w.heap.size = g1 at *
    iterate 8
      refine ⟨⟨by first | exact trivial | exact ⟨rfl, fun _ _ h => h⟩, ?_⟩, ?_⟩
      · intro ρ w' hρ hd hS
        simp only [DepF, Region.binds, dat, Nat.reduceLT, Nat.reduceAdd, F4, forall_const, and_true, true_and] at hd
        have hcon := hρ.con
        have e2 := (hρ.slot 2 (by kernel_rfl)).trans f2
        have e3 := (hρ.slot 3 (by kernel_rfl)).trans f3
        have e4 := (hρ.slot 4 (by kernel_rfl)).trans f4
        have hc1 := hS.1.b1.cell
        have hc2 := hS.1.b2.cell
        simp only [Bits.cells] at hc1 hc2
        (try rw [execOp_call_fn _ _ _ _ _ _ _ _ _ (hρ.fn _)])
        go_simp
        (try simp only [Nat.reduceAdd, Good, F4])
        first
          | exact ⟨trivial, Below.refl _ _⟩
          | exact ⟨rfl, Below.refl _ _⟩
            | (go_at_call 11; refine (rhas_any a i _ ha).mono ?_; rintro e w'' ⟨rfl, hk⟩; refine ⟨_, rfl, ?_, hk⟩; rw [X1.out])
            | (go_at_call 11; refine (rhas_any b i _ hb).mono ?_; rintro e w'' ⟨rfl, hk⟩; refine ⟨_, rfl, ?_, hk⟩; rw [Y1.out])
    trivial
  · intro vs w3 hs hF
    have h6 : vs 6 = .bool true := hF 6 (by decide)
    have h7 : vs 7 = .bool false := hF 7 (by decide)
    clear hF k0
    simp only [List.range'_succ, List.range'_zero, List.cons_append, List.nil_append, setAll, List.setIfInBounds_toArray, List.set_cons_zero, List.set_cons_succ, Nat.reduceAdd]
    rw [h6, h7]
    clear h6 h7
    go_upto_region 5 with fail
    refine region_facts_tail 8 (fun j => j == 6 || j == 7) (F5 a b p q w3.heap.size) (fun z => AB a b w w.heap.size g2 z ∧ w3.heap.size ≤ z.heap.size) (fun x y => Below x.heap.size x y) (List.range' 21 6 ++ [10, 11]) (by kernel_rfl) (by kernel_rfl) (by kernel_rfl) (by decide) (by kernel_rfl) (by kernel_rfl) (F5.keep a b p q w3.heap.size) (fun _ _ h k => ⟨h.1.kept k, Nat.le_trans h.2 k.size⟩) (fun _ _ h => h.size) ⟨⟨hs.1.b1.drew, hs.1.b2.drew, hs.1.below.drew⟩, Nat.le_refl _⟩ ?_ ?_
    · intro fr hfr
      have f3 : fr.getD 3 undef = .pointer (some ⟨w.heap.size, 0, none⟩) := by rw [hfr]; rfl
      have f4 : fr.getD 4 undef = .pointer (some ⟨g2, 0, none⟩) := by rw [hfr]; rfl
      clear hfr
      generalize w.heap.size = g1 at *
      iterate 6
        refine ⟨⟨by first | exact trivial | exact ⟨rfl, fun _ _ h => h⟩, ?_⟩, ?_⟩
        · intro ρ w' hρ hd hS
          refine ⟨?_, fun h => absurd h (by decide)⟩
          simp only [DepF, Region.binds, dat, Nat.reduceLT, Nat.reduceAdd, F5, forall_const, and_true, true_and] at hd
          have hcon := hρ.con
          have e3 := (hρ.slot 3 (by kernel_rfl)).trans f3
          have e4 := (hρ.slot 4 (by kernel_rfl)).trans f4
          have hc1 := hS.1.b1.cell
          have hc2 := hS.1.b2.cell
          simp only [Bits.cells] at hc1 hc2
          (try rw [execOp_call_fn _ _ _ _ _ _ _ _ _ (hρ.fn _)])
          go_simp
          (try simp only [Nat.reduceAdd, Good, F5])
          first
            | exact ⟨trivial, Below.refl _ _⟩
            | exact ⟨rfl, Below.refl _ _⟩
            | (go_at_call 21; refine (both_any a b _ ha hb).mono ?_; rintro e w'' ⟨rfl, hk⟩; refine ⟨_, rfl, ?_, hk⟩; rw [P1.out])
            | (go_at_call 22; refine (either_any a b _ ha hb).mono ?_; rintro e w'' ⟨rfl, hk⟩; refine ⟨_, rfl, ?_, hk⟩; rw [Q1.out])
      iterate 2
        refine ⟨⟨trivial, ?_⟩, ?_⟩
        · intro ρ w' hρ hd hS
          refine ⟨?_, fun _ => ?_⟩
          · go_simp
            simp only [Nat.reduceAdd, Good, F5]
            exact ⟨⟨_, rfl, Blk.new _ _ _, hS.2⟩, alloc_kept _ _⟩
          · go_simp
            exact ⟨_, _, ⟨rfl, rfl⟩, rfl, by simp⟩
      trivial
    · intro vt w4 hs4 hF hd
      have h2 : vt 2 = p.val := hF 2 (by decide)
      have h5 : vt 5 = q.val := hF 5 (by decide)
      obtain ⟨g3, h6, z2, m2⟩ : Zer w3.heap.size (vt 6) w4 := hF 6 (by decide)
      obtain ⟨g4, h7, z3, m3⟩ : Zer w3.heap.size (vt 7) w4 := hF 7 (by decide)
      have hne := hd 6 7 (by decide) (by decide) (by decide) (by decide) (by decide)
      rw [h6, h7] at hne
      simp only [blkOf, ne_eq, Option.some.injEq] at hne
      have hl1 := hs.2
      clear hd hF
      have c2 := z2.cell
      have r2 := z2.frozen
      have c3 := z3.cell
      have r3 := z3.frozen
      have hne' : ¬ g4 = g3 := fun h => hne h.symm
      simp only [List.range'_succ, List.range'_zero, List.cons_append, List.nil_append, setAll, List.setIfInBounds_toArray, List.set_cons_zero, List.set_cons_succ, Nat.reduceAdd]
      rw [h2, h5, h6, h7]
      unfold Bits.val
      clear h2 h5 h6 h7
      simp only [List.drop_succ_cons, List.drop_zero]
      go_wp2_with fail
      have qX := AP.of4 (y := p) (z := q) hs4.1 z2 z3 hne (by omega) (by omega)
      refine (has_any p i _ hp).mono ?_
      rintro e w5 ⟨rfl, hx⟩
      have q5 := qX.kept hx
      rw [Z1.out]
      clear qX hx c2 r2 c3 r3 z2 z3 hs4 m2 m3 hl1 hne hne' hs hW
      have hb4 := q5.b4.cell
      simp only [Bits.cells] at hb4
      go_wp2_with fail
      refine (has_any q i _ hq).mono ?_
      rintro e w6 ⟨rfl, hx⟩
      have q6 := (q5.kept hx).drew
      rw [U1.out]
      clear hx hb4 q5
      go_wp2_with fail
      have hs1 : IntKind.i64.wrap ((ca : Int) + cb) = ((ca + cb : Nat) : Int) := by rw [IntKind.wrap_i64]; omega
      have hs2 : IntKind.i64.wrap ((cp : Int) + cq) = ((ca + cb : Nat) : Int) := by rw [IntKind.wrap_i64]; omega
      refine region_facts (F8 a b p q ca cb cp cq) (AP a b p q w w.heap.size g2 g3 g4) (fun x y => Below x.heap.size x y) (List.range' 45 28 ++ [6]) (by kernel_rfl) (by kernel_rfl) (by decide) (by kernel_rfl) (by kernel_rfl) (F8.keep a b p q ca cb cp cq) (fun _ _ h k => h.kept k) (fun _ _ h => h.size) q6 ?_ ?_
      · intro fr hfr
        have f3 : fr.getD 3 undef = .pointer (some ⟨w.heap.size, 0, none⟩) := by rw [hfr]; rfl
        have f4 : fr.getD 4 undef = .pointer (some ⟨g2, 0, none⟩) := by rw [hfr]; rfl
        have f7 : fr.getD 7 undef = .bool true := by rw [hfr]; rfl
        have f10 : fr.getD 10 undef = .pointer (some ⟨g3, 0, none⟩) := by rw [hfr]; rfl
        have f11 : fr.getD 11 undef = .pointer (some ⟨g4, 0, none⟩) := by rw [hfr]; rfl
        clear hfr
        have S1 := Lib.hid hs1
        have S2 := Lib.hid hs2
        clear hs1 hs2 lc hc
        generalize w.heap.size = g1 at *
        iterate 29
          skip
          refine ⟨⟨by first | exact trivial | exact ⟨rfl, fun _ _ h => h⟩, ?_⟩, ?_⟩
          · intro ρ w' hρ hd hS
            simp only [DepF, Region.binds, dat, Nat.reduceLT, Nat.reduceAdd, F8, forall_const, and_true, true_and] at hd
            have hcon := hρ.con
            have e3 := (hρ.slot 3 (by kernel_rfl)).trans f3
            have e4 := (hρ.slot 4 (by kernel_rfl)).trans f4
            have e7 := (hρ.slot 7 (by kernel_rfl)).trans f7
            have e10 := (hρ.slot 10 (by kernel_rfl)).trans f10
            have e11 := (hρ.slot 11 (by kernel_rfl)).trans f11
            have hc1 := hS.b1.cell
            have hc2 := hS.b2.cell
            have hc3 := hS.b3.cell
            have hc4 := hS.b4.cell
            simp only [Bits.cells] at hc1 hc2 hc3 hc4
            (try rw [execOp_call_fn _ _ _ _ _ _ _ _ _ (hρ.fn _)])
            go_simp
            (try simp only [Nat.reduceAdd, Good, F8])
            first
              | exact ⟨trivial, Below.refl _ _⟩
              | exact ⟨rfl, Below.refl _ _⟩
                | (rw [S1.out]; exact ⟨rfl, Below.refl _ _⟩)
                | (rw [S2.out]; exact ⟨rfl, Below.refl _ _⟩)
                | (go_at_call 20; refine (count_any a _ ha).mono ?_; rintro e w'' ⟨rfl, hk⟩; refine ⟨_, rfl, ?_, hk⟩; rw [C1.out])
                | (go_at_call 20; refine (count_any b _ hb).mono ?_; rintro e w'' ⟨rfl, hk⟩; refine ⟨_, rfl, ?_, hk⟩; rw [C2.out])
                | (go_at_call 20; refine (count_any p _ hp).mono ?_; rintro e w'' ⟨rfl, hk⟩; refine ⟨_, rfl, ?_, hk⟩; rw [C3.out])
                | (go_at_call 20; refine (count_any q _ hq).mono ?_; rintro e w'' ⟨rfl, hk⟩; refine ⟨_, rfl, ?_, hk⟩; rw [C4.out])
                | (go_at_call 21; refine (both_any b a _ hb ha).mono ?_; rintro e w'' ⟨rfl, hk⟩; refine ⟨_, rfl, ?_, hk⟩; rw [P2.out])
                | (go_at_call 22; refine (either_any b a _ hb ha).mono ?_; rintro e w'' ⟨rfl, hk⟩; refine ⟨_, rfl, ?_, hk⟩; rw [Q2.out])
        trivial
      · intro vu w7 hs7 hF
        have h0 : vu 28 = .bool true := hF 28 (by decide)
        clear hF
        have hb' := hs7.below
        simp only [List.range'_succ, List.range'_zero, List.cons_append, List.nil_append, setAll, List.setIfInBounds_toArray, List.set_cons_zero, List.set_cons_succ, Nat.reduceAdd]
        rw [h0]
        clear h0 hs7 q6
        go_wp2
        go_ret
        exact ⟨rfl, hb'⟩
set_option maxRecDepth 100000 in
set_option maxHeartbeats 8000000 in
theorem two_ft (a b p q : Bits) (i : Int) (ca cb cp cq : Nat) (w : World) (ha : a.Ok) (hb : b.Ok) (hp : p.Ok) (hq : q.Ok) (hT : TabAt w) (lc : ca ≤ 256 ∧ cb ≤ 256 ∧ cp ≤ 256 ∧ cq ≤ 256) (hc : cp + cq = ca + cb)
    (P1 : Hid (a.mix (fun x y => x &&& y) 4 b = p)) (P2 : Hid (b.mix (fun x y => x &&& y) 4 a = p)) (Q1 : Hid (a.mix (fun x y => x ||| y) 4 b = q)) (Q2 : Hid (b.mix (fun x y => x ||| y) 4 a = q))
    (X1 : Hid (a.has i = false)) (Y1 : Hid (b.has i = true)) (Z1 : Hid (p.has i = false)) (U1 : Hid (q.has i = true)) (C1 : Hid (a.count = ca)) (C2 : Hid (b.count = cb)) (C3 : Hid (p.count = cp)) (C4 : Hid (q.count = cq)) :
    Calls Tryd.prog 5 #[a.val, b.val, .int .i64 i] w fun e w' => e = .returned (.bool true) ∧ Below w.heap.size w w' := by
  have hgl := glob_lt hT
  have q0 : AB a b w w.heap.size (w.heap.size + 1) ((w.alloc (.cells a.cells 24)).alloc (.cells b.cells 24)) :=
    ⟨(Blk.new w _ _).alloc _, by simpa using Blk.new (w.alloc (.cells a.cells 24)) 24 b.cells, ((Below.refl _ _).alloc (Nat.le_refl _) _).alloc (by simp) _⟩
  have hlt : w.heap.size + 1 < ((w.alloc (.cells a.cells 24)).alloc (.cells b.cells 24)).heap.size := by simp
  have hwk0 := works_any _ (hT.below q0.below hgl)
  unfold Bits.val
  go_enter Tryd.func5, Tryd.ntmps5
  go_wp2_with fail
  refine hwk0.mono ?_
  rintro e w1 ⟨rfl, hx⟩
  have q1 : AB a b w w.heap.size (w.heap.size + 1) w1 := q0.kept hx
  have hlt1 : w.heap.size + 1 < w1.heap.size := Nat.lt_of_lt_of_le hlt hx.size
  clear hx q0 hwk0 hlt
  have hW : w.heap.size < w.heap.size + 1 := by omega
  generalize w.heap.size + 1 = g2 at *
  have k0 : AB a b w w.heap.size g2 w1.drew ∧ g2 < w1.drew.heap.size := ⟨⟨q1.b1.drew, q1.b2.drew, q1.below.drew⟩, hlt1⟩
  clear q1 hlt1
  go_upto_region 4 with fail
  refine region_facts (F4 a b i false true) (fun z => AB a b w w.heap.size g2 z ∧ g2 < z.heap.size) (fun x y => Below x.heap.size x y) (List.range' 15 6 ++ [8, 9]) (by kernel_rfl) (by kernel_rfl) (by decide) (by kernel_rfl) (by kernel_rfl) (F4.keep a b i false true) (fun _ _ h k => ⟨h.1.kept k, Nat.lt_of_lt_of_le h.2 k.size⟩) (fun _ _ h => h.size) k0 ?_ ?_
  · intro fr hfr
    have f2 : fr.getD 2 undef = .int .i64 i := by rw [hfr]; rfl
    have f3 : fr.getD 3 undef = .pointer (some ⟨w.heap.size, 0, none⟩) := by rw [hfr]; rfl
    have f4 : fr.getD 4 undef = .pointer (some ⟨g2, 0, none⟩) := by rw [hfr]; rfl
    clear hfr
    generalize w.heap.size = g1 at *
    iterate 8
      refine ⟨⟨by first | exact trivial | exact ⟨rfl, fun _ _ h => h⟩, ?_⟩, ?_⟩
      · intro ρ w' hρ hd hS
        simp only [DepF, Region.binds, dat, Nat.reduceLT, Nat.reduceAdd, F4, forall_const, and_true, true_and] at hd
        have hcon := hρ.con
        have e2 := (hρ.slot 2 (by kernel_rfl)).trans f2
        have e3 := (hρ.slot 3 (by kernel_rfl)).trans f3
        have e4 := (hρ.slot 4 (by kernel_rfl)).trans f4
        have hc1 := hS.1.b1.cell
        have hc2 := hS.1.b2.cell
        simp only [Bits.cells] at hc1 hc2
        (try rw [execOp_call_fn _ _ _ _ _ _ _ _ _ (hρ.fn _)])
        go_simp
        (try simp only [Nat.reduceAdd, Good, F4])
        first
          | exact ⟨trivial, Below.refl _ _⟩
          | exact ⟨rfl, Below.refl _ _⟩
            | (go_at_call 11; refine (rhas_any a i _ ha).mono ?_; rintro e w'' ⟨rfl, hk⟩; refine ⟨_, rfl, ?_, hk⟩; rw [X1.out])
            | (go_at_call 11; refine (rhas_any b i _ hb).mono ?_; rintro e w'' ⟨rfl, hk⟩; refine ⟨_, rfl, ?_, hk⟩; rw [Y1.out])
    trivial
  · intro vs w3 hs hF
    have h6 : vs 6 = .bool false := hF 6 (by decide)
    have h7 : vs 7 = .bool true := hF 7 (by decide)
    clear hF k0
    simp only [List.range'_succ, List.range'_zero, List.cons_append, List.nil_append, setAll, List.setIfInBounds_toArray, List.set_cons_zero, List.set_cons_succ, Nat.reduceAdd]
    rw [h6, h7]
    clear h6 h7
    go_upto_region 5 with fail
    refine region_facts_tail 8 (fun j => j == 6 || j == 7) (F5 a b p q w3.heap.size) (fun z => AB a b w w.heap.size g2 z ∧ w3.heap.size ≤ z.heap.size) (fun x y => Below x.heap.size x y) (List.range' 21 6 ++ [10, 11]) (by kernel_rfl) (by kernel_rfl) (by kernel_rfl) (by decide) (by kernel_rfl) (by kernel_rfl) (F5.keep a b p q w3.heap.size) (fun _ _ h k => ⟨h.1.kept k, Nat.le_trans h.2 k.size⟩) (fun _ _ h => h.size) ⟨⟨hs.1.b1.drew, hs.1.b2.drew, hs.1.below.drew⟩, Nat.le_refl _⟩ ?_ ?_
    · intro fr hfr
      have f3 : fr.getD 3 undef = .pointer (some ⟨w.heap.size, 0, none⟩) := by rw [hfr]; rfl
      have f4 : fr.getD 4 undef = .pointer (some ⟨g2, 0, none⟩) := by rw [hfr]; rfl
      clear hfr
      generalize w.heap.size = g1 at *
      iterate 6
        refine ⟨⟨by first | exact trivial | exact ⟨rfl, fun _ _ h => h⟩, ?_⟩, ?_⟩
        · intro ρ w' hρ hd hS
          refine ⟨?_, fun h => absurd h (by decide)⟩
          simp only [DepF, Region.binds, dat, Nat.reduceLT, Nat.reduceAdd, F5, forall_const, and_true, true_and] at hd
          have hcon := hρ.con
          have e3 := (hρ.slot 3 (by kernel_rfl)).trans f3
          have e4 := (hρ.slot 4 (by kernel_rfl)).trans f4
          have hc1 := hS.1.b1.cell
          have hc2 := hS.1.b2.cell
          simp only [Bits.cells] at hc1 hc2
          (try rw [execOp_call_fn _ _ _ _ _ _ _ _ _ (hρ.fn _)])
          go_simp
          (try simp only [Nat.reduceAdd, Good, F5])
          first
            | exact ⟨trivial, Below.refl _ _⟩
            | exact ⟨rfl, Below.refl _ _⟩
            | (go_at_call 21; refine (both_any a b _ ha hb).mono ?_; rintro e w'' ⟨rfl, hk⟩; refine ⟨_, rfl, ?_, hk⟩; rw [P1.out])
            | (go_at_call 22; refine (either_any a b _ ha hb).mono ?_; rintro e w'' ⟨rfl, hk⟩; refine ⟨_, rfl, ?_, hk⟩; rw [Q1.out])
      iterate 2
        refine ⟨⟨trivial, ?_⟩, ?_⟩
        · intro ρ w' hρ hd hS
          refine ⟨?_, fun _ => ?_⟩
          · go_simp
            simp only [Nat.reduceAdd, Good, F5]
            exact ⟨⟨_, rfl, Blk.new _ _ _, hS.2⟩, alloc_kept _ _⟩
          · go_simp
            exact ⟨_, _, ⟨rfl, rfl⟩, rfl, by simp⟩
      trivial
    · intro vt w4 hs4 hF hd
      have h2 : vt 2 = p.val := hF 2 (by decide)
      have h5 : vt 5 = q.val := hF 5 (by decide)
      obtain ⟨g3, h6, z2, m2⟩ : Zer w3.heap.size (vt 6) w4 := hF 6 (by decide)
      obtain ⟨g4, h7, z3, m3⟩ : Zer w3.heap.size (vt 7) w4 := hF 7 (by decide)
      have hne := hd 6 7 (by decide) (by decide) (by decide) (by decide) (by decide)
      rw [h6, h7] at hne
      simp only [blkOf, ne_eq, Option.some.injEq] at hne
      have hl1 := hs.2
      clear hd hF
      have c2 := z2.cell
      have r2 := z2.frozen
      have c3 := z3.cell
      have r3 := z3.frozen
      have hne' : ¬ g4 = g3 := fun h => hne h.symm
      simp only [List.range'_succ, List.range'_zero, List.cons_append, List.nil_append, setAll, List.setIfInBounds_toArray, List.set_cons_zero, List.set_cons_succ, Nat.reduceAdd]
      rw [h2, h5, h6, h7]
      unfold Bits.val
      clear h2 h5 h6 h7
      simp only [List.drop_succ_cons, List.drop_zero]
      go_wp2_with fail
      have qX := AP.of4 (y := p) (z := q) hs4.1 z2 z3 hne (by omega) (by omega)
      refine (has_any p i _ hp).mono ?_
      rintro e w5 ⟨rfl, hx⟩
      have q5 := qX.kept hx
      rw [Z1.out]
      clear qX hx c2 r2 c3 r3 z2 z3 hs4 m2 m3 hl1 hne hne' hs hW
      have hb4 := q5.b4.cell
      simp only [Bits.cells] at hb4
      go_wp2_with fail
      refine (has_any q i _ hq).mono ?_
      rintro e w6 ⟨rfl, hx⟩
      have q6 := (q5.kept hx).drew
      rw [U1.out]
      clear hx hb4 q5
      go_wp2_with fail
      have hs1 : IntKind.i64.wrap ((ca : Int) + cb) = ((ca + cb : Nat) : Int) := by rw [IntKind.wrap_i64]; omega
      have hs2 : IntKind.i64.wrap ((cp : Int) + cq) = ((ca + cb : Nat) : Int) := by rw [IntKind.wrap_i64]; omega
      refine region_facts (F8 a b p q ca cb cp cq) (AP a b p q w w.heap.size g2 g3 g4) (fun x y => Below x.heap.size x y) (List.range' 45 28 ++ [6]) (by kernel_rfl) (by kernel_rfl) (by decide) (by kernel_rfl) (by kernel_rfl) (F8.keep a b p q ca cb cp cq) (fun _ _ h k => h.kept k) (fun _ _ h => h.size) q6 ?_ ?_
      · intro fr hfr
        have f3 : fr.getD 3 undef = .pointer (some ⟨w.heap.size, 0, none⟩) := by rw [hfr]; rfl
        have f4 : fr.getD 4 undef = .pointer (some ⟨g2, 0, none⟩) := by rw [hfr]; rfl
        have f7 : fr.getD 7 undef = .bool true := by rw [hfr]; rfl
        have f10 : fr.getD 10 undef = .pointer (some ⟨g3, 0, none⟩) := by rw [hfr]; rfl
        have f11 : fr.getD 11 undef = .pointer (some ⟨g4, 0, none⟩) := by rw [hfr]; rfl
        clear hfr
        have S1 := Lib.hid hs1
        have S2 := Lib.hid hs2
        clear hs1 hs2 lc hc
        generalize w.heap.size = g1 at *
        iterate 29
          skip
          refine ⟨⟨by first | exact trivial | exact ⟨rfl, fun _ _ h => h⟩, ?_⟩, ?_⟩
          · intro ρ w' hρ hd hS
            simp only [DepF, Region.binds, dat, Nat.reduceLT, Nat.reduceAdd, F8, forall_const, and_true, true_and] at hd
            have hcon := hρ.con
            have e3 := (hρ.slot 3 (by kernel_rfl)).trans f3
            have e4 := (hρ.slot 4 (by kernel_rfl)).trans f4
            have e7 := (hρ.slot 7 (by kernel_rfl)).trans f7
            have e10 := (hρ.slot 10 (by kernel_rfl)).trans f10
            have e11 := (hρ.slot 11 (by kernel_rfl)).trans f11
            have hc1 := hS.b1.cell
            have hc2 := hS.b2.cell
            have hc3 := hS.b3.cell
            have hc4 := hS.b4.cell
            simp only [Bits.cells] at hc1 hc2 hc3 hc4
            (try rw [execOp_call_fn _ _ _ _ _ _ _ _ _ (hρ.fn _)])
            go_simp
            (try simp only [Nat.reduceAdd, Good, F8])
            first
              | exact ⟨trivial, Below.refl _ _⟩
              | exact ⟨rfl, Below.refl _ _⟩
                | (rw [S1.out]; exact ⟨rfl, Below.refl _ _⟩)
                | (rw [S2.out]; exact ⟨rfl, Below.refl _ _⟩)
                | (go_at_call 20; refine (count_any a _ ha).mono ?_; rintro e w'' ⟨rfl, hk⟩; refine ⟨_, rfl, ?_, hk⟩; rw [C1.out])
                | (go_at_call 20; refine (count_any b _ hb).mono ?_; rintro e w'' ⟨rfl, hk⟩; refine ⟨_, rfl, ?_, hk⟩; rw [C2.out])
                | (go_at_call 20; refine (count_any p _ hp).mono ?_; rintro e w'' ⟨rfl, hk⟩; refine ⟨_, rfl, ?_, hk⟩; rw [C3.out])
                | (go_at_call 20; refine (count_any q _ hq).mono ?_; rintro e w'' ⟨rfl, hk⟩; refine ⟨_, rfl, ?_, hk⟩; rw [C4.out])
                | (go_at_call 21; refine (both_any b a _ hb ha).mono ?_; rintro e w'' ⟨rfl, hk⟩; refine ⟨_, rfl, ?_, hk⟩; rw [P2.out])
                | (go_at_call 22; refine (either_any b a _ hb ha).mono ?_; rintro e w'' ⟨rfl, hk⟩; refine ⟨_, rfl, ?_, hk⟩; rw [Q2.out])
        trivial
      · intro vu w7 hs7 hF
        have h0 : vu 28 = .bool true := hF 28 (by decide)
        clear hF
        have hb' := hs7.below
        simp only [List.range'_succ, List.range'_zero, List.cons_append, List.nil_append, setAll, List.setIfInBounds_toArray, List.set_cons_zero, List.set_cons_succ, Nat.reduceAdd]
        rw [h0]
        clear h0 hs7 q6
        go_wp2
        go_ret
        exact ⟨rfl, hb'⟩
set_option maxRecDepth 100000 in
set_option maxHeartbeats 8000000 in
theorem two_ff (a b p q : Bits) (i : Int) (ca cb cp cq : Nat) (w : World) (ha : a.Ok) (hb : b.Ok) (hp : p.Ok) (hq : q.Ok) (hT : TabAt w) (lc : ca ≤ 256 ∧ cb ≤ 256 ∧ cp ≤ 256 ∧ cq ≤ 256) (hc : cp + cq = ca + cb)
    (P1 : Hid (a.mix (fun x y => x &&& y) 4 b = p)) (P2 : Hid (b.mix (fun x y => x &&& y) 4 a = p)) (Q1 : Hid (a.mix (fun x y => x ||| y) 4 b = q)) (Q2 : Hid (b.mix (fun x y => x ||| y) 4 a = q))
    (X1 : Hid (a.has i = false)) (Y1 : Hid (b.has i = false)) (Z1 : Hid (p.has i = false)) (U1 : Hid (q.has i = false)) (C1 : Hid (a.count = ca)) (C2 : Hid (b.count = cb)) (C3 : Hid (p.count = cp)) (C4 : Hid (q.count = cq)) :
    Calls Tryd.prog 5 #[a.val, b.val, .int .i64 i] w fun e w' => e = .returned (.bool true) ∧ Below w.heap.size w w' := by
  have hgl := glob_lt hT
  have q0 : AB a b w w.heap.size (w.heap.size + 1) ((w.alloc (.cells a.cells 24)).alloc (.cells b.cells 24)) :=
    ⟨(Blk.new w _ _).alloc _, by simpa using Blk.new (w.alloc (.cells a.cells 24)) 24 b.cells, ((Below.refl _ _).alloc (Nat.le_refl _) _).alloc (by simp) _⟩
  have hlt : w.heap.size + 1 < ((w.alloc (.cells a.cells 24)).alloc (.cells b.cells 24)).heap.size := by simp
  have hwk0 := works_any _ (hT.below q0.below hgl)
  unfold Bits.val
  go_enter Tryd.func5, Tryd.ntmps5
  go_wp2_with fail
  refine hwk0.mono ?_
  rintro e w1 ⟨rfl, hx⟩
  have q1 : AB a b w w.heap.size (w.heap.size + 1) w1 := q0.kept hx
  have hlt1 : w.heap.size + 1 < w1.heap.size := Nat.lt_of_lt_of_le hlt hx.size
  clear hx q0 hwk0 hlt
  have hW : w.heap.size < w.heap.size + 1 := by omega
  generalize w.heap.size + 1 = g2 at *
  have k0 : AB a b w w.heap.size g2 w1.drew ∧ g2 < w1.drew.heap.size := ⟨⟨q1.b1.drew, q1.b2.drew, q1.below.drew⟩, hlt1⟩
  clear q1 hlt1
  go_upto_region 4 with fail
  refine region_facts (F4 a b i false false) (fun z => AB a b w w.heap.size g2 z ∧ g2 < z.heap.size) (fun x y => Below x.heap.size x y) (List.range' 15 6 ++ [8, 9]) (by kernel_rfl) (by kernel_rfl) (by decide) (by kernel_rfl) (by kernel_rfl) (F4.keep a b i false false) (fun _ _ h k => ⟨h.1.kept k, Nat.lt_of_lt_of_le h.2 k.size⟩) (fun _ _ h => h.size) k0 ?_ ?_
  · intro fr hfr
    have f2 : fr.getD 2 undef = .int .i64 i := by rw [hfr]; rfl
    have f3 : fr.getD 3 undef = .pointer (some ⟨w.heap.size, 0, none⟩) := by rw [hfr]; rfl
    have f4 : fr.getD 4 undef = .pointer (some ⟨g2, 0, none⟩) := by rw [hfr]; rfl
    clear hfr
    generalize w.heap.size = g1 at *
    iterate 8
      refine ⟨⟨by first | exact trivial | exact ⟨rfl, fun _ _ h => h⟩, ?_⟩, ?_⟩
      · intro ρ w' hρ hd hS
        simp only [DepF, Region.binds, dat, Nat.reduceLT, Nat.reduceAdd, F4, forall_const, and_true, true_and] at hd
        have hcon := hρ.con
        have e2 := (hρ.slot 2 (by kernel_rfl)).trans f2
        have e3 := (hρ.slot 3 (by kernel_rfl)).trans f3
        have e4 := (hρ.slot 4 (by kernel_rfl)).trans f4
        have hc1 := hS.1.b1.cell
        have hc2 := hS.1.b2.cell
        simp only [Bits.cells] at hc1 hc2
        (try rw [execOp_call_fn _ _ _ _ _ _ _ _ _ (hρ.fn _)])
        go_simp
        (try simp only [Nat.reduceAdd, Good, F4])
        first
          | exact ⟨trivial, Below.refl _ _⟩
          | exact ⟨rfl, Below.refl _ _⟩
            | (go_at_call 11; refine (rhas_any a i _ ha).mono ?_; rintro e w'' ⟨rfl, hk⟩; refine ⟨_, rfl, ?_, hk⟩; rw [X1.out])
            | (go_at_call 11; refine (rhas_any b i _ hb).mono ?_; rintro e w'' ⟨rfl, hk⟩; refine ⟨_, rfl, ?_, hk⟩; rw [Y1.out])
    trivial
  · intro vs w3 hs hF
    have h6 : vs 6 = .bool false := hF 6 (by decide)
    have h7 : vs 7 = .bool false := hF 7 (by decide)
    clear hF k0
    simp only [List.range'_succ, List.range'_zero, List.cons_append, List.nil_append, setAll, List.setIfInBounds_toArray, List.set_cons_zero, List.set_cons_succ, Nat.reduceAdd]
    rw [h6, h7]
    clear h6 h7
    go_upto_region 5 with fail
    refine region_facts_tail 8 (fun j => j == 6 || j == 7) (F5 a b p q w3.heap.size) (fun z => AB a b w w.heap.size g2 z ∧ w3.heap.size ≤ z.heap.size) (fun x y => Below x.heap.size x y) (List.range' 21 6 ++ [10, 11]) (by kernel_rfl) (by kernel_rfl) (by kernel_rfl) (by decide) (by kernel_rfl) (by kernel_rfl) (F5.keep a b p q w3.heap.size) (fun _ _ h k => ⟨h.1.kept k, Nat.le_trans h.2 k.size⟩) (fun _ _ h => h.size) ⟨⟨hs.1.b1.drew, hs.1.b2.drew, hs.1.below.drew⟩, Nat.le_refl _⟩ ?_ ?_
    · intro fr hfr
      have f3 : fr.getD 3 undef = .pointer (some ⟨w.heap.size, 0, none⟩) := by rw [hfr]; rfl
      have f4 : fr.getD 4 undef = .pointer (some ⟨g2, 0, none⟩) := by rw [hfr]; rfl
      clear hfr
      generalize w.heap.size = g1 at *
      iterate 6
        refine ⟨⟨by first | exact trivial | exact ⟨rfl, fun _ _ h => h⟩, ?_⟩, ?_⟩
        · intro ρ w' hρ hd hS
          refine ⟨?_, fun h => absurd h (by decide)⟩
          simp only [DepF, Region.binds, dat, Nat.reduceLT, Nat.reduceAdd, F5, forall_const, and_true, true_and] at hd
          have hcon := hρ.con
          have e3 := (hρ.slot 3 (by kernel_rfl)).trans f3
          have e4 := (hρ.slot 4 (by kernel_rfl)).trans f4
          have hc1 := hS.1.b1.cell
          have hc2 := hS.1.b2.cell
          simp only [Bits.cells] at hc1 hc2
          (try rw [execOp_call_fn _ _ _ _ _ _ _ _ _ (hρ.fn _)])
          go_simp
          (try simp only [Nat.reduceAdd, Good, F5])
          first
            | exact ⟨trivial, Below.refl _ _⟩
            | exact ⟨rfl, Below.refl _ _⟩
            | (go_at_call 21; refine (both_any a b _ ha hb).mono ?_; rintro e w'' ⟨rfl, hk⟩; refine ⟨_, rfl, ?_, hk⟩; rw [P1.out])
            | (go_at_call 22; refine (either_any a b _ ha hb).mono ?_; rintro e w'' ⟨rfl, hk⟩; refine ⟨_, rfl, ?_, hk⟩; rw [Q1.out])
      iterate 2
        refine ⟨⟨trivial, ?_⟩, ?_⟩
        · intro ρ w' hρ hd hS
          refine ⟨?_, fun _ => ?_⟩
          · go_simp
            simp only [Nat.reduceAdd, Good, F5]
            exact ⟨⟨_, rfl, Blk.new _ _ _, hS.2⟩, alloc_kept _ _⟩
          · go_simp
            exact ⟨_, _, ⟨rfl, rfl⟩, rfl, by simp⟩
      trivial
    · intro vt w4 hs4 hF hd
      have h2 : vt 2 = p.val := hF 2 (by decide)
      have h5 : vt 5 = q.val := hF 5 (by decide)
      obtain ⟨g3, h6, z2, m2⟩ : Zer w3.heap.size (vt 6) w4 := hF 6 (by decide)
      obtain ⟨g4, h7, z3, m3⟩ : Zer w3.heap.size (vt 7) w4 := hF 7 (by decide)
      have hne := hd 6 7 (by decide) (by decide) (by decide) (by decide) (by decide)
      rw [h6, h7] at hne
      simp only [blkOf, ne_eq, Option.some.injEq] at hne
      have hl1 := hs.2
      clear hd hF
      have c2 := z2.cell
      have r2 := z2.frozen
      have c3 := z3.cell
      have r3 := z3.frozen
      have hne' : ¬ g4 = g3 := fun h => hne h.symm
      simp only [List.range'_succ, List.range'_zero, List.cons_append, List.nil_append, setAll, List.setIfInBounds_toArray, List.set_cons_zero, List.set_cons_succ, Nat.reduceAdd]
      rw [h2, h5, h6, h7]
      unfold Bits.val
      clear h2 h5 h6 h7
      simp only [List.drop_succ_cons, List.drop_zero]
      go_wp2_with fail
      have qX := AP.of4 (y := p) (z := q) hs4.1 z2 z3 hne (by omega) (by omega)
      refine (has_any p i _ hp).mono ?_
      rintro e w5 ⟨rfl, hx⟩
      have q5 := qX.kept hx
      rw [Z1.out]
      clear qX hx c2 r2 c3 r3 z2 z3 hs4 m2 m3 hl1 hne hne' hs hW
      have hb4 := q5.b4.cell
      simp only [Bits.cells] at hb4
      go_wp2_with fail
      refine (has_any q i _ hq).mono ?_
      rintro e w6 ⟨rfl, hx⟩
      have q6 := (q5.kept hx).drew
      rw [U1.out]
      clear hx hb4 q5
      go_wp2_with fail
      have hs1 : IntKind.i64.wrap ((ca : Int) + cb) = ((ca + cb : Nat) : Int) := by rw [IntKind.wrap_i64]; omega
      have hs2 : IntKind.i64.wrap ((cp : Int) + cq) = ((ca + cb : Nat) : Int) := by rw [IntKind.wrap_i64]; omega
      refine region_facts (F8 a b p q ca cb cp cq) (AP a b p q w w.heap.size g2 g3 g4) (fun x y => Below x.heap.size x y) (List.range' 45 28 ++ [6]) (by kernel_rfl) (by kernel_rfl) (by decide) (by kernel_rfl) (by kernel_rfl) (F8.keep a b p q ca cb cp cq) (fun _ _ h k => h.kept k) (fun _ _ h => h.size) q6 ?_ ?_
      · intro fr hfr
        have f3 : fr.getD 3 undef = .pointer (some ⟨w.heap.size, 0, none⟩) := by rw [hfr]; rfl
        have f4 : fr.getD 4 undef = .pointer (some ⟨g2, 0, none⟩) := by rw [hfr]; rfl
        have f7 : fr.getD 7 undef = .bool true := by rw [hfr]; rfl
        have f10 : fr.getD 10 undef = .pointer (some ⟨g3, 0, none⟩) := by rw [hfr]; rfl
        have f11 : fr.getD 11 undef = .pointer (some ⟨g4, 0, none⟩) := by rw [hfr]; rfl
        clear hfr
        have S1 := Lib.hid hs1
        have S2 := Lib.hid hs2
        clear hs1 hs2 lc hc
        generalize w.heap.size = g1 at *
        iterate 29
          skip
          refine ⟨⟨by first | exact trivial | exact ⟨rfl, fun _ _ h => h⟩, ?_⟩, ?_⟩
          · intro ρ w' hρ hd hS
            simp only [DepF, Region.binds, dat, Nat.reduceLT, Nat.reduceAdd, F8, forall_const, and_true, true_and] at hd
            have hcon := hρ.con
            have e3 := (hρ.slot 3 (by kernel_rfl)).trans f3
            have e4 := (hρ.slot 4 (by kernel_rfl)).trans f4
            have e7 := (hρ.slot 7 (by kernel_rfl)).trans f7
            have e10 := (hρ.slot 10 (by kernel_rfl)).trans f10
            have e11 := (hρ.slot 11 (by kernel_rfl)).trans f11
            have hc1 := hS.b1.cell
            have hc2 := hS.b2.cell
            have hc3 := hS.b3.cell
            have hc4 := hS.b4.cell
            simp only [Bits.cells] at hc1 hc2 hc3 hc4
            (try rw [execOp_call_fn _ _ _ _ _ _ _ _ _ (hρ.fn _)])
            go_simp
            (try simp only [Nat.reduceAdd, Good, F8])
            first
              | exact ⟨trivial, Below.refl _ _⟩
              | exact ⟨rfl, Below.refl _ _⟩
                | (rw [S1.out]; exact ⟨rfl, Below.refl _ _⟩)
                | (rw [S2.out]; exact ⟨rfl, Below.refl _ _⟩)
                | (go_at_call 20; refine (count_any a _ ha).mono ?_; rintro e w'' ⟨rfl, hk⟩; refine ⟨_, rfl, ?_, hk⟩; rw [C1.out])
                | (go_at_call 20; refine (count_any b _ hb).mono ?_; rintro e w'' ⟨rfl, hk⟩; refine ⟨_, rfl, ?_, hk⟩; rw [C2.out])
                | (go_at_call 20; refine (count_any p _ hp).mono ?_; rintro e w'' ⟨rfl, hk⟩; refine ⟨_, rfl, ?_, hk⟩; rw [C3.out])
                | (go_at_call 20; refine (count_any q _ hq).mono ?_; rintro e w'' ⟨rfl, hk⟩; refine ⟨_, rfl, ?_, hk⟩; rw [C4.out])
                | (go_at_call 21; refine (both_any b a _ hb ha).mono ?_; rintro e w'' ⟨rfl, hk⟩; refine ⟨_, rfl, ?_, hk⟩; rw [P2.out])
                | (go_at_call 22; refine (either_any b a _ hb ha).mono ?_; rintro e w'' ⟨rfl, hk⟩; refine ⟨_, rfl, ?_, hk⟩; rw [Q2.out])
        trivial
      · intro vu w7 hs7 hF
        have h0 : vu 28 = .bool true := hF 28 (by decide)
        clear hF
        have hb' := hs7.below
        simp only [List.range'_succ, List.range'_zero, List.cons_append, List.nil_append, setAll, List.setIfInBounds_toArray, List.set_cons_zero, List.set_cons_succ, Nat.reduceAdd]
        rw [h0]
        clear h0 hs7 q6
        go_wp2
        go_ret
        exact ⟨rfl, hb'⟩
end Go.Proofs.YtifoeddeofhclaaDoor
