/- Layer 2 (bitmap): the statement Lists, walked. -/
import Derived.Test.YtifoeddeofhclaaDoorPuts
import Derived.Test.YtifoeddeofhclaaDoorPlain
namespace Go.Proofs.YtifoeddeofhclaaDoor
open Go.RowKit






def FL (b o : Bits) (A A2 : Option Addr) (n m c c2 : Nat) : Nat → Value → World → Prop := fun k v _ => match k with
  | 2 => v = .slice A n c
  | 3 => v = o.val
  | 4 => v = o.val
  | 8 => v = b.val
  | 9 => v = .int .i64 m
  | 10 => v = .slice A2 m c2
  | 11 => v = .int .i64 m
  | 18 => v = .slice A2 m c2
  | 19 => v = b.val
  | 20 => v = b.val
  | _ => v = .bool true
theorem FL.keep (b o : Bits) (A A2 : Option Addr) (n m c c2 : Nat) (k : Nat) (v : Value) (w w' : World) (h : FL b o A A2 n m c c2 k v w) (_ : Below w.heap.size w w') : FL b o A A2 n m c c2 k v w' := h
structure LS (b o : Bits) (A A2 : Option Addr) (L M : List Int) (w : World) (g1 g2 : Nat) (w' : World) : Prop where
  b1 : Blk w' g1 24 b.cells
  b2 : Blk w' g2 24 o.cells
  i1 : IntsAt w' w'.heap.size A L
  i2 : IntsAt w' w'.heap.size A2 M
  below : Below w.heap.size w w'
theorem IntsAt.on {x y : World} {A : Option Addr} {L : List Int} (h : IntsAt x x.heap.size A L) (k : Below x.heap.size x y) : IntsAt y y.heap.size A L := (h.below k (Nat.le_refl _)).mono k.size
theorem LS.kept {b o : Bits} {A A2 : Option Addr} {L M : List Int} {w x y : World} {g1 g2 : Nat} (h : LS b o A A2 L M w g1 g2 x) (k : Below x.heap.size x y) : LS b o A A2 L M w g1 g2 y :=
  ⟨h.b1.below k h.b1.lt, h.b2.below k h.b2.lt, h.i1.on k, h.i2.on k, h.below.trans (Below.mono k h.below.size)⟩
attribute [local irreducible] Calls
set_option maxRecDepth 100000 in
set_option maxHeartbeats 8000000 in
theorem lists_long (b : Bits) (A : Option Addr) (n c : Nat) (w : World) (hT : TabAt w) (hn : (300 : Int) < n) :
    Calls Tryd.prog 4 #[b.val, .slice A n c] w fun e w' => e = .returned (.bool true) ∧ Below w.heap.size w w' := by
  have hwk : Works := works_any
  have hcells : b.cells = #[.int .u64 b.w0, .int .u64 b.w1, .int .u64 b.w2, .int .u64 b.w3] := rfl
  have hgl := glob_lt hT
  have g0 : Below w.heap.size w (w.alloc (.cells b.cells 24)) := (Below.refl _ _).alloc (Nat.le_refl _) _
  have B0 : Blk (w.alloc (.cells b.cells 24)) w.heap.size 24 b.cells := Blk.new w 24 b.cells
  have l0 := B0.lt
  have hwk0 := hwk _ (hT.below g0 hgl)
  unfold Bits.val
  go_enter Tryd.func4, Tryd.ntmps4
  go_wp2_with fail
  refine (hwk0).mono ?_
  rintro e w1 ⟨rfl, hx⟩
  try clear hc
  have g1 : Below w.heap.size w w1 := g0.trans (Below.mono (hx) g0.size)
  have B1 : Blk w1 w.heap.size 24 b.cells := Blk.below B0 (hx) l0
  have l1 := B1.lt
  have hc := B1.cell
  rw [hcells] at hc
  clear hx g0 B0 l0
  skip
  go_wp2_with fail
  go_ret
  exact ⟨rfl, g1⟩
set_option maxRecDepth 100000 in
set_option maxHeartbeats 8000000 in
theorem lists_core (b o : Bits) (A : Option Addr) (L M : List Int) (c : Nat) (w : World) (hb : b.Ok) (hT : TabAt w) (hI : IntsAt w w.heap.size A L) (hL : (L.length : Int) ≤ 300) (hM : M.length ≤ 256)
    (O1 : Hid (ofL L = o)) (M1 : Hid (b.list = M)) (M2 : Hid (ofL M = b)) (C1 : Hid (b.count = M.length)) :
    Calls Tryd.prog 4 #[b.val, .slice A L.length c] w fun e w' => e = .returned (.bool true) ∧ Below w.heap.size w w' := by
  have hwk : Works := works_any
  have hcells : b.cells = #[.int .u64 b.w0, .int .u64 b.w1, .int .u64 b.w2, .int .u64 b.w3] := rfl
  have hgl := glob_lt hT
  have g0 : Below w.heap.size w (w.alloc (.cells b.cells 24)) := (Below.refl _ _).alloc (Nat.le_refl _) _
  have B0 : Blk (w.alloc (.cells b.cells 24)) w.heap.size 24 b.cells := Blk.new w 24 b.cells
  have l0 := B0.lt
  have hwk0 := hwk _ (hT.below g0 hgl)
  unfold Bits.val
  go_enter Tryd.func4, Tryd.ntmps4
  go_wp2_with fail
  refine (hwk0).mono ?_
  rintro e w1 ⟨rfl, hx⟩
  try clear hc
  have g1 : Below w.heap.size w w1 := g0.trans (Below.mono (hx) g0.size)
  have B1 : Blk w1 w.heap.size 24 b.cells := Blk.below B0 (hx) l0
  have l1 := B1.lt
  have hc := B1.cell
  rw [hcells] at hc
  clear hx g0 B0 l0
  skip
  go_wp2_with fail
  have hI1 : IntsAt w1 w1.heap.size A L := hI.on g1
  have hgl0 := hgl
  refine (rof_any A L c _ hI1 (by omega)).mono ?_
  rintro e w2 ⟨rfl, hx⟩
  try clear hc
  have hI2 := hI1.on hx
  have g2 : Below w.heap.size w w2 := g1.trans (Below.mono (hx) g1.size)
  have B2 : Blk w2 w.heap.size 24 b.cells := Blk.below B1 (hx) l1
  have l2 := B2.lt
  have hc := B2.cell
  rw [hcells] at hc
  clear hx g1 B1 l1
  rw [O1.out]
  unfold Bits.val
  go_wp2_with fail
  have g3 : Below w.heap.size w (w2.alloc (.cells o.cells 24)) := g2.alloc g2.size _
  have q3 : LS b o A none L [] w w.heap.size w2.heap.size (w2.alloc (.cells o.cells 24)) := ⟨B2.alloc _, Blk.new _ _ _, hI2.on (alloc_kept _ _), fun k hk => absurd hk (by simp), g3⟩
  refine (rlist_any b _ hb).mono ?_
  rintro e w4 ⟨v, rfl, hown, hx⟩
  rw [M1.out] at hown
  obtain ⟨A2, c2, rfl, hJ⟩ := ints_own hown rfl
  have q4 := q3.kept hx
  have q5 : LS b o A A2 L M w w.heap.size w2.heap.size w4 := ⟨q4.b1, q4.b2, q4.i1, hJ, q4.below⟩
  have g4 := q4.below
  generalize w2.heap.size = g2' at *
  clear hx g2 B2 l2 hc q3 g3 q4 hown hI1 hI2 hI
  have hc := q5.b1.cell
  simp only [Bits.cells] at hc
  go_wp2_with fail
  refine (list_any b hb _ (hT.below g4 hgl)).mono ?_
  rintro e w5 ⟨v, rfl, hown, hx⟩
  rw [M1.out] at hown
  obtain ⟨A3, c3, rfl, hK⟩ := ints_own hown rfl
  have q6 := q5.kept hx
  clear hc hown hx q5 g4 hJ
  go_wp2_with fail
  refine (same_any A3 A2 M M c3 c2 w5 w5.heap.size hK q6.i2 (by omega) (by omega) (Nat.le_refl _)).mono ?_
  rintro e w6 ⟨rfl, hx⟩
  have q7 := q6.kept hx
  have k1 : LS b o A A2 L M w w.heap.size g2' w6.drew := ⟨q7.b1.drew, q7.b2.drew, q7.i1, q7.i2, q7.below.drew⟩
  rw [show decide (M = M) = true by simp]
  clear q6 q7 hx hK
  go_wp2_with fail
  refine region_facts (FL b o A A2 L.length M.length c c2) (LS b o A A2 L M w w.heap.size g2') (fun x y => Below x.heap.size x y) (List.range' 24 23 ++ [4]) (by kernel_rfl) (by kernel_rfl) (by decide) (by kernel_rfl) (by kernel_rfl) (FL.keep b o A A2 L.length M.length c c2) (fun _ _ h k => h.kept k) (fun _ _ h => h.size) k1 ?_ ?_
  · intro fr hfr
    have f1 : fr.getD 1 undef = .slice A L.length c := by rw [hfr]; rfl
    have f2 : fr.getD 2 undef = .pointer (some ⟨w.heap.size, 0, none⟩) := by rw [hfr]; rfl
    have f5 : fr.getD 5 undef = .bool true := by rw [hfr]; rfl
    have f6 : fr.getD 6 undef = .pointer (some ⟨g2', 0, none⟩) := by rw [hfr]; rfl
    have f7 : fr.getD 7 undef = .slice A2 M.length c2 := by rw [hfr]; rfl
    have f8 : fr.getD 8 undef = .bool true := by rw [hfr]; rfl
    clear hfr
    generalize w.heap.size = g1 at *
    iterate 24
      refine ⟨⟨by first | exact trivial | exact ⟨rfl, fun _ _ h => h⟩, ?_⟩, ?_⟩
      · intro ρ w' hρ hd hS
        simp only [DepF, Region.binds, dat, Nat.reduceLT, Nat.reduceAdd, FL, forall_const, and_true, true_and] at hd
        have hcon := hρ.con
        have e1 := (hρ.slot 1 (by kernel_rfl)).trans f1
        have e2 := (hρ.slot 2 (by kernel_rfl)).trans f2
        have e5 := (hρ.slot 5 (by kernel_rfl)).trans f5
        have e6 := (hρ.slot 6 (by kernel_rfl)).trans f6
        have e7 := (hρ.slot 7 (by kernel_rfl)).trans f7
        have e8 := (hρ.slot 8 (by kernel_rfl)).trans f8
        have hc1 := hS.b1.cell
        have hc2 := hS.b2.cell
        simp only [Bits.cells] at hc1 hc2
        (try rw [execOp_call_fn _ _ _ _ _ _ _ _ _ (hρ.fn _)])
        go_simp
        (try simp only [Nat.reduceAdd, Good, FL])
        first
          | exact ⟨trivial, Below.refl _ _⟩
          | exact ⟨rfl, Below.refl _ _⟩
          | (go_at_call 19; refine (of_any A L _ _ hS.i1 (by omega)).mono ?_; rintro e w'' ⟨rfl, hk⟩; refine ⟨_, rfl, ?_, hk⟩; rw [O1.out])
          | (go_at_call 19; refine (of_any A2 M _ _ hS.i2 (by omega)).mono ?_; rintro e w'' ⟨rfl, hk⟩; refine ⟨_, rfl, ?_, hk⟩; rw [M2.out])
          | (go_at_call 20; refine (count_any b _ hb).mono ?_; rintro e w'' ⟨rfl, hk⟩; refine ⟨_, rfl, ?_, hk⟩; rw [C1.out])
    trivial
  · intro vs w' hs hF
    have h0 : vs 23 = .bool true := hF 23 (by decide)
    clear hF
    have hb' := hs.below
    simp only [List.range'_succ, List.range'_zero, List.cons_append, List.nil_append, setAll, List.setIfInBounds_toArray, List.set_cons_zero, List.set_cons_succ, Nat.reduceAdd]
    rw [h0]
    clear h0 hs k1
    go_wp2
    go_ret
    exact ⟨rfl, hb'⟩
end Go.Proofs.YtifoeddeofhclaaDoor
