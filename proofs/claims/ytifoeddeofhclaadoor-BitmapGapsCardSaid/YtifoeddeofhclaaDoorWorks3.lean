/- Layer 2 (bitmap): the document's examples, walked. -/
import Derived.Test.YtifoeddeofhclaaDoorWorks2
import Derived.Test.YtifoeddeofhclaaDoorFacts
namespace Go.Proofs.YtifoeddeofhclaaDoor
open Go.RowKit
def wb : Bits := ofL [70, 3, 70, 300]
theorem wf : wb.next 4 = some 70 ∧ wb.last 69 = some 3 ∧ wb.round 71 256 = some 3 ∧ wb.round 5 70 = some 3 ∧ wb.list = [3, 70] ∧ wb.count = 2 ∧ wb.has 70 = true ∧ (wb.drop 70).has 70 = false ∧ (wb.put 4).has 4 = true := by decide +kernel
theorem wf2 : wb.mix (fun x y => x &&& y) 4 (ofL [3, 5]) = ofL [3] ∧ (ofL [3]).mix (fun x y => x ||| y) 4 (ofL [70]) = wb := by decide +kernel
/-- A list's cells, wherever they lie. -/
def SlAt (l : List Int) (v : Value) (w : World) : Prop := ∃ A : Option Addr, v = .slice A l.length l.length ∧ IntsAt w w.heap.size A l
theorem SlAt.below {l : List Int} {v : Value} {w w' : World} (h : SlAt l v w) (k : Below w.heap.size w w') : SlAt l v w' := by
  obtain ⟨A, rfl, h⟩ := h
  exact ⟨A, rfl, (h.below k (Nat.le_refl _)).mono k.size⟩
theorem SlAt.new (w : World) (l : List Int) : SlAt l (.slice (some ⟨w.heap.size, 0, none⟩) l.length l.length) (w.alloc (.cells (l.map (Value.int .i64)).toArray 3)) := ⟨_, rfl, (ints_lit w l).mono (by simp)⟩
theorem alloc_kept (w : World) (o : Obj) : Below w.heap.size w (w.alloc o) := (Below.refl _ _).alloc (Nat.le_refl _) _
theorem SlAt.of {l : List Int} {v : Value} {w : World} (h : SlAt l v w) (hl : l.length ≤ 1000) : Calls Tryd.prog 19 #[v] w fun e w' => e = .returned (ofL l).val ∧ Below w.heap.size w w' := by
  obtain ⟨A, rfl, h⟩ := h
  exact of_any A l _ w h (by omega)
def FW (b d p o5 o3 o7 : Bits) : Nat → Value → World → Prop := fun j v w => match j with
  | 2 => v = .int .i64 70
  | 9 => v = .int .i64 3
  | 16 => v = .int .i64 3
  | 23 => v = .int .i64 3
  | 30 => v = b.val
  | 31 => v = .int .i64 2
  | 35 => v = b.val
  | 39 => v = b.val
  | 40 => v = d.val
  | 41 => v = .bool false
  | 45 => v = b.val
  | 46 => v = p.val
  | 50 => v = b.val
  | 51 => SlAt [3, 5] v w
  | 52 => v = o5.val
  | 53 => v = o3.val
  | 54 => SlAt [3] v w
  | 55 => v = o3.val
  | 59 => SlAt [3] v w
  | 60 => v = o3.val
  | 61 => SlAt [70] v w
  | 62 => v = o7.val
  | 63 => v = b.val
  | 64 => v = b.val
  | _ => v = .bool true
theorem FW.keep (b d p o5 o3 o7 : Bits) (j : Nat) (v : Value) (w w' : World) (h : FW b d p o5 o3 o7 j v w) (k : Below w.heap.size w w') : FW b d p o5 o3 o7 j v w' := by
  unfold FW at h ⊢
  split at h <;> first | exact h | exact SlAt.below h k
def DW : List Nat := List.range' 37 67 ++ [0]
theorem dw_lt (j : Nat) (h : j < 67) : DW.getD j 0 = 37 + j := dat 37 67 [0] j h
structure WS (B : Bits) (w : World) (b : Nat) (w' : World) : Prop where
  blk : Blk w' b 24 B.cells
  below : Below w.heap.size w w'
theorem WS.kept {B : Bits} {w : World} {b : Nat} {x y : World} (h : WS B w b x) (k : Below x.heap.size x y) : WS B w b y := ⟨h.blk.below k h.blk.lt, h.below.trans (Below.mono k h.below.size)⟩
@[go_sem ↓] theorem eqw1 (x : Bits) (w : World) : (binOp .eql 24 x.val x.val).run Tryd.prog w = .ok (.bool true) w := (eqb x x w).trans (by simp)
@[go_sem ↓] theorem eqw2 (x : Bits) (w : World) : (binOp .eql 24 x.val (.agg #[.int .u64 x.w0, .int .u64 x.w1, .int .u64 x.w2, .int .u64 x.w3])).run Tryd.prog w = .ok (.bool true) w := (eqb x x w).trans (by simp)
@[go_sem ↓] theorem eqg (op : BinOp) (p q : Operand) (x y : Bits) (w : World) : (eqGuard op 24 p q x.val y.val).run Tryd.prog w = .ok () w := by
  unfold Bits.val
  simp [eqGuard, go_sem]
@[go_sem ↓] theorem eqg2 (op : BinOp) (p q : Operand) (x y : Bits) (w : World) : (eqGuard op 24 p q x.val (.agg #[.int .u64 y.w0, .int .u64 y.w1, .int .u64 y.w2, .int .u64 y.w3])).run Tryd.prog w = .ok () w := eqg op p q x y w
theorem wb_of : ofL [70, 3, 70, 300] = wb := rfl
theorem wb_ok : wb.Ok := of_ok _
attribute [local irreducible] Calls
set_option maxRecDepth 100000 in
set_option maxHeartbeats 8000000 in
theorem works_core (w : World) (hT : TabAt w) (b d p o5 o3 o7 : Bits) (hok : b.Ok) (dok : d.Ok) (pok : p.Ok) (o5k : o5.Ok) (o3k : o3.Ok) (o7k : o7.Ok)
    (O0 : Hid (ofL [70, 3, 70, 300] = b)) (O5 : Hid (ofL [3, 5] = o5)) (O3 : Hid (ofL [3] = o3)) (O7 : Hid (ofL [70] = o7)) (D1 : Hid (b.drop 70 = d)) (P1 : Hid (b.put 4 = p))
    (F1 : Hid (b.next 4 = some 70)) (F2 : Hid (b.last 69 = some 3)) (F3 : Hid (b.round 71 256 = some 3)) (F4 : Hid (b.round 5 70 = some 3)) (F5 : Hid (b.list = [3, 70])) (F6 : Hid (b.count = 2)) (F7 : Hid (b.has 70 = true)) (F8 : Hid (d.has 70 = false)) (F9 : Hid (p.has 4 = true))
    (E1 : Hid (b.mix (fun x y => x &&& y) 4 o5 = o3)) (E2 : Hid (o3.mix (fun x y => x ||| y) 4 o7 = b)) : Calls Tryd.prog 9 #[] w fun e w' => e = .returned (.bool true) ∧ Below w.heap.size w w' := by
  have hgl := glob_lt hT
  go_enter Tryd.func9, Tryd.ntmps9
  go_wp2_with fail
  refine (of_any (some ⟨w.heap.size, 0, none⟩) [70, 3, 70, 300] 4 _ (by simpa using ints_lit w [70, 3, 70, 300]) (by simp)).mono ?_
  rintro e w1 ⟨rfl, hx⟩
  rw [O0.out]
  have gg := alloc_below hx
  clear hx
  have hcells : b.cells = #[.int .u64 b.w0, .int .u64 b.w1, .int .u64 b.w2, .int .u64 b.w3] := rfl
  have g2 := gg.alloc gg.size (.cells b.cells 24)
  have B2 := Blk.new w1 24 b.cells
  have l2 := B2.lt
  unfold Bits.val
  go_wp2_with fail
  refine (next_any b 4 _ hok (hT.below g2 hgl)).mono ?_
  rintro e w3 ⟨rfl, hx⟩
  try clear hc
  have g3 : Below w.heap.size w w3 := g2.trans (Below.mono (hx) g2.size)
  have B3 : Blk w3 w1.heap.size 24 b.cells := Blk.below B2 (hx) l2
  have l3 := B3.lt
  have hc := B3.cell
  rw [hcells] at hc
  clear hx g2 B2 l2
  rw [F1.out]; unfold pairV
  try unfold Bits.val
  go_wp2_with fail
  refine (last_any b 69 _ hok).mono ?_
  rintro e w4 ⟨rfl, hx⟩
  try clear hc
  have g4 : Below w.heap.size w w4 := g3.trans (Below.mono (hx) g3.size)
  have B4 : Blk w4 w1.heap.size 24 b.cells := Blk.below B3 (hx) l3
  have l4 := B4.lt
  have hc := B4.cell
  rw [hcells] at hc
  clear hx g3 B3 l3
  rw [F2.out]; unfold pairV
  try unfold Bits.val
  go_wp2_with fail
  refine (round_any b 71 256 _ hok (hT.below g4 hgl)).mono ?_
  rintro e w5 ⟨rfl, hx⟩
  try clear hc
  have g5 : Below w.heap.size w w5 := g4.trans (Below.mono (hx) g4.size)
  have B5 : Blk w5 w1.heap.size 24 b.cells := Blk.below B4 (hx) l4
  have l5 := B5.lt
  have hc := B5.cell
  rw [hcells] at hc
  clear hx g4 B4 l4
  rw [F3.out]; unfold pairV
  try unfold Bits.val
  go_wp2_with fail
  refine (round_any b 5 70 _ hok (hT.below g5 hgl)).mono ?_
  rintro e w6 ⟨rfl, hx⟩
  try clear hc
  have g6 : Below w.heap.size w w6 := g5.trans (Below.mono (hx) g5.size)
  have B6 : Blk w6 w1.heap.size 24 b.cells := Blk.below B5 (hx) l5
  have l6 := B6.lt
  have hc := B6.cell
  rw [hcells] at hc
  clear hx g5 B5 l5
  rw [F4.out]; unfold pairV
  try unfold Bits.val
  go_wp2_with fail
  refine (list_any b hok _ (hT.below g6 hgl)).mono ?_
  rintro e w7 ⟨v, rfl, hown, hx⟩
  try clear hc
  have g7 : Below w.heap.size w w7 := g6.trans (Below.mono (hx) g6.size)
  have B7 : Blk w7 w1.heap.size 24 b.cells := Blk.below B6 (hx) l6
  have l7 := B7.lt
  have hc := B7.cell
  rw [hcells] at hc
  clear hx g6 B6 l6
  rw [F5.out] at hown
  obtain ⟨A, cap, rfl, hI⟩ := ints_own hown rfl
  clear hown
  go_wp2_with fail
  refine (same_any A (some ⟨w7.heap.size, 0, none⟩) [3, 70] [3, 70] cap 2 _ (w7.heap.size + 1) ((hI.below ((Below.refl _ _).alloc (Nat.le_refl _) _) (Nat.le_refl _)).mono (by omega)) (by simpa using ints_lit w7 [3, 70]) (by simp) (by simp) (by simp)).mono ?_
  rintro e w8 ⟨rfl, hx⟩
  try clear hc
  have g8 : Below w.heap.size w w8 := g7.trans (Below.mono (alloc_below hx) g7.size)
  have B8 : Blk w8 w1.heap.size 24 b.cells := Blk.below B7 (alloc_below hx) l7
  have l8 := B8.lt
  have hc := B8.cell
  rw [hcells] at hc
  clear hx g7 B7 l7
  rw [show decide (([3, 70] : List Int) = [3, 70]) = true from rfl]
  try unfold Bits.val
  go_wp2_with fail
  clear hI
  generalize w1.heap.size = b1 at *
  have k0 : WS b w b1 w8.drew := ⟨B8.drew, g8.drew⟩
  clear g8 B8 l8 hc gg
  simp only [List.append_eq, List.cons_append, List.nil_append]
  refine region_facts (FW b d p o5 o3 o7) (WS b w b1) (fun x y => Below x.heap.size x y) DW (by kernel_rfl) (by kernel_rfl) (by decide) (by kernel_rfl) (by kernel_rfl) (FW.keep b d p o5 o3 o7) (fun _ _ h k => h.kept k) (fun _ _ h => h.size) k0 ?_ ?_
  · intro fr hfr
    have f1 : fr.getD 1 undef = .pointer (some ⟨b1, 0, none⟩) := by rw [hfr]; rfl
    have f2 : fr.getD 2 undef = .int .i64 70 := by rw [hfr]; rfl
    have f3 : fr.getD 3 undef = .bool true := by rw [hfr]; rfl
    have f4 : fr.getD 4 undef = .int .i64 3 := by rw [hfr]; rfl
    have f5 : fr.getD 5 undef = .bool true := by rw [hfr]; rfl
    have f6 : fr.getD 6 undef = .int .i64 3 := by rw [hfr]; rfl
    have f7 : fr.getD 7 undef = .bool true := by rw [hfr]; rfl
    have f8 : fr.getD 8 undef = .int .i64 3 := by rw [hfr]; rfl
    have f9 : fr.getD 9 undef = .bool true := by rw [hfr]; rfl
    have f10 : fr.getD 10 undef = .bool true := by rw [hfr]; rfl
    clear hfr
    have e1 := fun (ρ : Operand → Value) (h : Rho ρ DW fr) => (h.slot 1 (by kernel_rfl)).trans f1
    have e2 := fun (ρ : Operand → Value) (h : Rho ρ DW fr) => (h.slot 2 (by kernel_rfl)).trans f2
    have e3 := fun (ρ : Operand → Value) (h : Rho ρ DW fr) => (h.slot 3 (by kernel_rfl)).trans f3
    have e4 := fun (ρ : Operand → Value) (h : Rho ρ DW fr) => (h.slot 4 (by kernel_rfl)).trans f4
    have e5 := fun (ρ : Operand → Value) (h : Rho ρ DW fr) => (h.slot 5 (by kernel_rfl)).trans f5
    have e6 := fun (ρ : Operand → Value) (h : Rho ρ DW fr) => (h.slot 6 (by kernel_rfl)).trans f6
    have e7 := fun (ρ : Operand → Value) (h : Rho ρ DW fr) => (h.slot 7 (by kernel_rfl)).trans f7
    have e8 := fun (ρ : Operand → Value) (h : Rho ρ DW fr) => (h.slot 8 (by kernel_rfl)).trans f8
    have e9 := fun (ρ : Operand → Value) (h : Rho ρ DW fr) => (h.slot 9 (by kernel_rfl)).trans f9
    have e10 := fun (ρ : Operand → Value) (h : Rho ρ DW fr) => (h.slot 10 (by kernel_rfl)).trans f10
    clear f1 f2 f3 f4 f5 f6 f7 f8 f9 f10
    iterate 68
      refine ⟨⟨by first | exact trivial | exact ⟨rfl, fun _ _ h => h⟩, ?_⟩, ?_⟩
      · intro ρ w' hρ hd hS
        simp only [DepF, Region.binds, dw_lt, Nat.reduceLT, Nat.reduceAdd, FW, forall_const, and_true, true_and] at hd
        have c := hρ.con
        have e1 := e1 ρ hρ
        have e2 := e2 ρ hρ
        have e3 := e3 ρ hρ
        have e4 := e4 ρ hρ
        have e5 := e5 ρ hρ
        have e6 := e6 ρ hρ
        have e7 := e7 ρ hρ
        have e8 := e8 ρ hρ
        have e9 := e9 ρ hρ
        have e10 := e10 ρ hρ
        have hc := hS.blk.cell
        rw [hcells] at hc
        (try rw [execOp_call_fn _ _ _ _ _ _ _ _ _ (hρ.fn _)])
        go_simp
        (try simp only [Nat.reduceAdd, Good, FW])
        first
          | exact ⟨trivial, Below.refl _ _⟩
          | exact ⟨rfl, Below.refl _ _⟩
          | exact ⟨SlAt.new w' [3, 5], alloc_kept _ _⟩
          | exact ⟨SlAt.new w' [3], alloc_kept _ _⟩
          | exact ⟨SlAt.new w' [70], alloc_kept _ _⟩
          | (go_at_call 20; refine (count_any b _ hok).mono ?_; rintro e w'' ⟨rfl, hk⟩; refine ⟨_, rfl, ?_, hk⟩; rw [F6.out]; rfl)
          | (go_at_call 14; refine (has_any b 70 _ hok).mono ?_; rintro e w'' ⟨rfl, hk⟩; refine ⟨_, rfl, ?_, hk⟩; rw [F7.out])
          | (go_at_call 13; refine (drop_any b 70 _ hok).mono ?_; rintro e w'' ⟨rfl, hk⟩; refine ⟨_, rfl, ?_, hk⟩; rw [D1.out])
          | (go_at_call 14; refine (has_any d 70 _ dok).mono ?_; rintro e w'' ⟨rfl, hk⟩; refine ⟨_, rfl, ?_, hk⟩; rw [F8.out])
          | (go_at_call 12; refine (put_any b 4 _ hok).mono ?_; rintro e w'' ⟨rfl, hk⟩; refine ⟨_, rfl, ?_, hk⟩; rw [P1.out])
          | (go_at_call 14; refine (has_any p 4 _ pok).mono ?_; rintro e w'' ⟨rfl, hk⟩; refine ⟨_, rfl, ?_, hk⟩; rw [F9.out])
          | (go_at_call 19; refine (SlAt.of (l := [3, 5]) hd.1 (by decide)).mono ?_; rintro e w'' ⟨rfl, hk⟩; refine ⟨_, rfl, ?_, hk⟩; rw [O5.out])
          | (go_at_call 19; refine (SlAt.of (l := [3]) hd.1 (by decide)).mono ?_; rintro e w'' ⟨rfl, hk⟩; refine ⟨_, rfl, ?_, hk⟩; rw [O3.out])
          | (go_at_call 19; refine (SlAt.of (l := [70]) hd.1 (by decide)).mono ?_; rintro e w'' ⟨rfl, hk⟩; refine ⟨_, rfl, ?_, hk⟩; rw [O7.out])
          | (go_at_call 21; refine (both_any b o5 _ hok o5k).mono ?_; rintro e w'' ⟨rfl, hk⟩; refine ⟨_, rfl, ?_, hk⟩; rw [E1.out])
          | (go_at_call 22; refine (either_any o3 o7 _ o3k o7k).mono ?_; rintro e w'' ⟨rfl, hk⟩; refine ⟨_, rfl, ?_, hk⟩; rw [E2.out])
    trivial
  · intro vs w' hs hF
    have h0 : vs 67 = .bool true := hF 67 (by decide)
    clear hF
    have hb' := hs.below
    simp only [DW, List.range'_succ, List.range'_zero, List.cons_append, List.nil_append, setAll, List.setIfInBounds_toArray, List.set_cons_zero, List.set_cons_succ, Nat.reduceAdd]
    rw [h0]
    clear h0 hs k0
    go_wp2
    go_ret
    exact ⟨rfl, hb'⟩
theorem works_any : ∀ w, TabAt w → Calls Tryd.prog 9 #[] w fun e w' => e = .returned (.bool true) ∧ Below w.heap.size w w' := fun w hT =>
  works_core w hT wb (wb.drop 70) (wb.put 4) (ofL [3, 5]) (ofL [3]) (ofL [70]) wb_ok (wb_ok.drop _) (wb_ok.put _) (of_ok _) (of_ok _) (of_ok _)
    (Lib.hid wb_of) (Lib.hid rfl) (Lib.hid rfl) (Lib.hid rfl) (Lib.hid rfl) (Lib.hid rfl)
    (Lib.hid wf.1) (Lib.hid wf.2.1) (Lib.hid wf.2.2.1) (Lib.hid wf.2.2.2.1) (Lib.hid wf.2.2.2.2.1) (Lib.hid wf.2.2.2.2.2.1) (Lib.hid wf.2.2.2.2.2.2.1) (Lib.hid wf.2.2.2.2.2.2.2.1) (Lib.hid wf.2.2.2.2.2.2.2.2)
    (Lib.hid wf2.1) (Lib.hid wf2.2)
end Go.Proofs.YtifoeddeofhclaaDoor
