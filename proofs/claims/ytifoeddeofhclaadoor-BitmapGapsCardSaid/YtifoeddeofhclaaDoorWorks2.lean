/- Layer 2 (bitmap): the document's examples, walked. -/
import Derived.Test.YtifoeddeofhclaaDoorLast
namespace Go.Proofs.YtifoeddeofhclaaDoor
open Go.RowKit
theorem ints_lit (w : World) (l : List Int) : IntsAt (w.alloc (.cells (l.map (Value.int .i64)).toArray 3)) (w.heap.size + 1) (some ⟨w.heap.size, 0, none⟩) l := by
  intro k hk
  refine ⟨w.heap.size, 0, rfl, by omega, ?_⟩
  rw [(Blk.new w 3 _).cell, Nat.zero_add]
  simp [hk]
theorem alloc_below {w : World} {o : Obj} {w' : World} (h : Below (w.alloc o).heap.size (w.alloc o) w') : Below w.heap.size w w' := ((Below.refl _ _).alloc (Nat.le_refl _) _).trans (h.mono (by simp))
instance : DecidableEq Bits := fun x y => decidable_of_iff (x.w0 = y.w0 ∧ x.w1 = y.w1 ∧ x.w2 = y.w2 ∧ x.w3 = y.w3) (by cases x; cases y; simp)
theorem eqb (x y : Bits) (w : World) : (binOp .eql 24 x.val y.val).run Tryd.prog w = .ok (.bool (decide (x = y))) w := by
  have hu : Tryd.prog.underlying 24 = some (.array 4 22) := by kernel_rfl
  have hs : ∀ w, (sizeOf 22).run Tryd.prog w = .ok 1 w := fun w => by simp [go_sem]
  have he : Tryd.prog.underlying 22 = some (.int .u64) := by kernel_rfl
  have hd : decide (x = y) = (((x.w0 : Int) == y.w0) && (((x.w1 : Int) == y.w1) && (((x.w2 : Int) == y.w2) && (((x.w3 : Int) == y.w3))))) := by
    rw [Bool.eq_iff_iff]
    cases x
    cases y
    simp
    omega
  rw [hd, Bits.val, Bits.val, run_eql_struct, Op.equalIn]
  have hr : List.range' 0 4 1 = [0, 1, 2, 3] := rfl
  simp only [Sem.run_bind, run_underlying hu, Result.andThen_ok, hs, Std.Legacy.Range.forIn_eq_forIn_range', Std.Legacy.Range.size, Nat.sub_zero, Nat.add_sub_cancel, Nat.div_one, hr]
  have pp : ∀ (cs : Array Value) (i : Nat) (v : Value) (w : World), cs[i]? = some v → (part 22 cs (i * 1)).run Tryd.prog w = .ok v w := fun cs i v w h => by
    simp [part, isAgg, run_underlying he, h]
  have pe : ∀ (a b : Int) (w : World), (Op.equalIn 9999 22 (.int .u64 a) (.int .u64 b)).run Tryd.prog w = .ok (a == b) w := fun a b w => run_equalIn_int w 9998 _ _ _ a b he
  have p0 : ∀ (a b c d : Value) (w : World), (part 22 #[a, b, c, d] 0).run Tryd.prog w = .ok a w := fun a b c d w => by simpa using pp #[a, b, c, d] 0 _ w rfl
  have p1 : ∀ (a b c d : Value) (w : World), (part 22 #[a, b, c, d] 1).run Tryd.prog w = .ok b w := fun a b c d w => by simpa using pp #[a, b, c, d] 1 _ w rfl
  have p2 : ∀ (a b c d : Value) (w : World), (part 22 #[a, b, c, d] 2).run Tryd.prog w = .ok c w := fun a b c d w => by simpa using pp #[a, b, c, d] 2 _ w rfl
  have p3 : ∀ (a b c d : Value) (w : World), (part 22 #[a, b, c, d] 3).run Tryd.prog w = .ok d w := fun a b c d w => by simpa using pp #[a, b, c, d] 3 _ w rfl
  simp only [List.forIn_cons, List.forIn_nil, Sem.run_bind, p0, p1, p2, p3, pe, Result.andThen_ok, Nat.reduceMul]
  by_cases h0 : (x.w0 : Int) = y.w0 <;> by_cases h1 : (x.w1 : Int) = y.w1 <;> by_cases h2 : (x.w2 : Int) = y.w2 <;> by_cases h3 : (x.w3 : Int) = y.w3 <;> simp [p0, p1, p2, p3, pe, h0, h1, h2, h3]
end Go.Proofs.YtifoeddeofhclaaDoor
