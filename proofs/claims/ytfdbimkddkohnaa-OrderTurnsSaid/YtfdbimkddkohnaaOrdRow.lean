/- Order: an input slice of timers, opened. -/
import Derived.Test.YtfdbimkddkohnaaRow
import Derived.Test.YtfdbimkddkohnaaLawSo
namespace Go.Proofs.Ytfdbimkddkohnaa
open Go.ChangeShapes Go.WideShapes Go.ChangeAt Go.RowKit Go.Deep
theorem lits_u64 {n : Int} (h : (Lit.int .u64 n).wf = true) : 0 ≤ n ∧ n ≤ 18446744073709551615 := by
  have h1 : IntKind.u64.min = 0 := rfl
  have h2 : IntKind.u64.max = 18446744073709551615 := rfl
  simp only [Lit.wf, Bool.and_eq_true, decide_eq_true_eq] at h
  omega
theorem lits_i64 {n : Int} (h : (Lit.int .i64 n).wf = true) : -9223372036854775808 ≤ n ∧ n ≤ 9223372036854775807 := by
  have h1 : IntKind.i64.min = -9223372036854775808 := rfl
  have h2 : IntKind.i64.max = 9223372036854775807 := rfl
  simp only [Lit.wf, Bool.and_eq_true, decide_eq_true_eq] at h
  omega
theorem has_lt {P : Program} {W : World} {r : Reach} {base : Nat} {a : Addr} {e : TypeId} {n : Nat} (h : W.has P r base a e n) : a.spot = none ∧ a.block < W.heap.size := by
  obtain ⟨_, hs, row, cells, hsh, _⟩ := h
  refine ⟨hs, ?_⟩
  unfold World.shape? at hsh
  rcases Nat.lt_or_ge a.block W.heap.size with hl | hl
  · exact hl
  · rw [Array.getElem?_eq_none hl] at hsh; cases hsh
theorem okWide_has {P : Program} {t e : TypeId} {W : World} {base : Nat} {a : Addr} {len cap : Nat} (ht : P.underlying t = some (.slice e)) (h : Value.okWide P W .any base t (.slice (some a) len cap)) : a.spot = none ∧ a.block < W.heap.size := by
  simp only [Value.okWide, ht, Cell.okWide, Cell.ok] at h
  exact has_lt h.2.2
theorem tm_at {W : World} {a : Addr} {l : List Timer} (hq : ∀ i (hi : i < l.length), W.cell? (a.add (i * 3 + 0)) = some (.int .u64 l[i].at_) ∧ W.cell? (a.add (i * 3 + 1)) = some (.int .u64 l[i].seq) ∧ W.cell? (a.add (i * 3 + 2)) = some (.int .i64 l[i].place)) : TmAt W W.heap.size (some a) l := by
  intro i hil
  obtain ⟨c0, c1, c2⟩ := hq i hil
  have hz := (hq 0 (by omega)).1
  have hs : a = ⟨a.block, a.off, none⟩ := by
    have := spot_none hz
    simpa [Addr.add] using this
  have hb := block_lt hz
  have hb' : a.block < W.heap.size := by simpa [Addr.add] using hb
  have e : ∀ k, a.add k = ⟨a.block, a.off + k, none⟩ := by
    intro k
    unfold Addr.add
    split
    · rename_i hk; subst hk; exact hs
    · rfl
  rw [e] at c0 c1 c2
  exact ⟨a.block, a.off, congrArg some hs, hb', c0, c1, c2⟩
theorem tm_cell {H : Type} {enc : TypeId × Value → H} {W : World} {a : Addr} {i : Nat}
    (h0 : ∃ (v : Value) (y : DataW H × List MemPlace) (n : Nat), W.cell? (a.add (i * 3 + 0)) = some v ∧ DataW.trod enc Try.prog W 0 (fun _ => true) true n 23 [v] = some y)
    (h1 : ∃ (v : Value) (y : DataW H × List MemPlace) (n : Nat), W.cell? (a.add (i * 3 + 1)) = some v ∧ DataW.trod enc Try.prog W 0 (fun _ => true) true n 23 [v] = some y)
    (h2 : ∃ (v : Value) (y : DataW H × List MemPlace) (n : Nat), W.cell? (a.add (i * 3 + 2)) = some v ∧ DataW.trod enc Try.prog W 0 (fun _ => true) true n 3 [v] = some y) :
    ∃ x : Timer, x.Fit ∧ W.cell? (a.add (i * 3 + 0)) = some (.int .u64 x.at_) ∧ W.cell? (a.add (i * 3 + 1)) = some (.int .u64 x.seq) ∧ W.cell? (a.add (i * 3 + 2)) = some (.int .i64 x.place) := by
  obtain ⟨v0, y0, n0, c0, t0⟩ := h0
  obtain ⟨v1, y1, n1, c1, t1⟩ := h1
  obtain ⟨v2, y2, n2, c2, t2⟩ := h2
  obtain ⟨m0, e0, _, w0⟩ := DataW.trod_int Try.underlying23 t0
  obtain ⟨m1, e1, _, w1⟩ := DataW.trod_int Try.underlying23 t1
  obtain ⟨m2, e2, _, w2⟩ := DataW.trod_int Try.underlying3 t2
  simp only [List.cons.injEq, and_true] at e0 e1 e2
  subst e0 e1 e2
  exact ⟨⟨m0, m1, m2⟩, ⟨(lits_u64 w1).1, (lits_i64 w2).1, (lits_u64 w0).2⟩, c0, c1, c2⟩
theorem open_tms {H : Type} {enc : TypeId × Value → H} {W : World} {fuel : Nat} {a0 : Option Addr} {len cap : Nat} {d : DataW H} {p : List MemPlace}
    (h : DataW.trod enc Try.prog W 0 (fun _ => true) true fuel 33 [.slice a0 len cap] = some (d, p)) (hbd : ∀ g, a0.map (·.block) = some g → g < W.heap.size) :
    ∃ l : List Timer, l.length = len ∧ LAt W (.slice a0 len cap) l ∧ ∀ x ∈ l, x.Fit := by
  rcases open_rows Try.underlying33 Try.underlying25 (by kernel_rfl) (by kernel_rfl) h with ⟨h0, _⟩ | ⟨a, len', cap', el, sp, hcs, hlc, hm, hd, hel, hi⟩
  · simp only [List.cons.injEq, Value.slice.injEq, and_true] at h0
    obtain ⟨rfl, rfl, rfl⟩ := h0
    exact ⟨[], rfl, LAt.nil _, by simp⟩
  · simp only [List.cons.injEq, Value.slice.injEq, and_true] at hcs
    obtain ⟨rfl, rfl, rfl⟩ := hcs
    obtain ⟨l, hl, hq⟩ := list_of len fun i hil => tm_cell (hi i hil 0 _ rfl) (hi i hil 1 _ rfl) (hi i hil 2 _ rfl)
    refine ⟨l, hl, ⟨some a, cap, by rw [hl], tm_at fun i hil => (hq i hil).2, by omega, hm, by simp, hbd⟩, ?_⟩
    intro x hx
    obtain ⟨i, hil, rfl⟩ := List.getElem_of_mem hx
    exact (hq i hil).1
end Go.Proofs.Ytfdbimkddkohnaa
