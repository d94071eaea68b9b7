/- Part 21: the texts PhRow, laid end to end by a program. -/
import Derived.OpenShut
import Derived.Test.YtpbepmipfjcjbaaPk2
import Derived.Test.YtpbepmipfjcjbaaPk19
namespace Go.Proofs.Ytpbepmipfjcjbaa
open Go.ChangeShapes Go.WideShapes Go.ChangeAt Go.RowKit Go.Deep
section
variable {H : Type} {enc : TypeId × Value → H} {P : Program} {w : World} {base : Nat} {spare : Nat → Bool} {held : Bool}
theorem trodAll_n3 {t0 t1 t2 : TypeId} {args : Array Value} {ds : List (DataW H)} {ps : List MemPlace} (h : DataW.TrodAll enc P w base spare held [t0, t1, t2] args.toList ds ps) :
    ∃ v0 v1 v2 d0 d1 d2 p0 p1 p2, args = #[v0, v1, v2] ∧ ds = [d0, d1, d2] ∧ ps = p0 ++ (p1 ++ p2) ∧ DataW.Trod enc P w base spare held t0 v0 d0 p0 ∧ DataW.Trod enc P w base spare held t1 v1 d1 p1 ∧ DataW.Trod enc P w base spare held t2 v2 d2 p2 := by
  obtain ⟨v0, vs, d0, ds', p0, q, hargs, rfl, rfl, h0, hrest⟩ := trodAll_cons h
  obtain ⟨v1, vs, d1, ds', p1, q, rfl, rfl, rfl, h1, hrest⟩ := trodAll_cons hrest
  obtain ⟨v2, vs, d2, ds', p2, q, rfl, rfl, rfl, h2, hrest⟩ := trodAll_cons hrest
  obtain ⟨rfl, rfl, rfl⟩ := trodAll_nil hrest
  exact ⟨v0, v1, v2, d0, d1, d2, p0, p1, p2, by cases args; simp_all, rfl, by simp, h0, h1, h2⟩
theorem trodAll_n4 {t0 t1 t2 t3 : TypeId} {args : Array Value} {ds : List (DataW H)} {ps : List MemPlace} (h : DataW.TrodAll enc P w base spare held [t0, t1, t2, t3] args.toList ds ps) :
    ∃ v0 v1 v2 v3 d0 d1 d2 d3 p0 p1 p2 p3, args = #[v0, v1, v2, v3] ∧ ds = [d0, d1, d2, d3] ∧ ps = p0 ++ (p1 ++ (p2 ++ p3)) ∧ DataW.Trod enc P w base spare held t0 v0 d0 p0 ∧ DataW.Trod enc P w base spare held t1 v1 d1 p1 ∧ DataW.Trod enc P w base spare held t2 v2 d2 p2 ∧ DataW.Trod enc P w base spare held t3 v3 d3 p3 := by
  obtain ⟨v0, vs, d0, ds', p0, q, hargs, rfl, rfl, h0, hrest⟩ := trodAll_cons h
  obtain ⟨v1, vs, d1, ds', p1, q, rfl, rfl, rfl, h1, hrest⟩ := trodAll_cons hrest
  obtain ⟨v2, vs, d2, ds', p2, q, rfl, rfl, rfl, h2, hrest⟩ := trodAll_cons hrest
  obtain ⟨v3, vs, d3, ds', p3, q, rfl, rfl, rfl, h3, hrest⟩ := trodAll_cons hrest
  obtain ⟨rfl, rfl, rfl⟩ := trodAll_nil hrest
  exact ⟨v0, v1, v2, v3, d0, d1, d2, d3, p0, p1, p2, p3, by cases args; simp_all, rfl, by simp, h0, h1, h2, h3⟩
theorem trodAll_5 {t0 t1 t2 t3 t4 : TypeId} {args : Array Value} {ds : List (DataW H)} {ps : List MemPlace} (h : DataW.TrodAll enc P w base spare held [t0, t1, t2, t3, t4] args.toList ds ps) :
    ∃ v0 v1 v2 v3 v4 d0 d1 d2 d3 d4 p0 p1 p2 p3 p4, args = #[v0, v1, v2, v3, v4] ∧ ds = [d0, d1, d2, d3, d4] ∧ ps = p0 ++ (p1 ++ (p2 ++ (p3 ++ p4))) ∧ DataW.Trod enc P w base spare held t0 v0 d0 p0 ∧ DataW.Trod enc P w base spare held t1 v1 d1 p1 ∧ DataW.Trod enc P w base spare held t2 v2 d2 p2 ∧ DataW.Trod enc P w base spare held t3 v3 d3 p3 ∧ DataW.Trod enc P w base spare held t4 v4 d4 p4 := by
  obtain ⟨v0, vs, d0, ds', p0, q, hargs, rfl, rfl, h0, hrest⟩ := trodAll_cons h
  obtain ⟨v1, vs, d1, ds', p1, q, rfl, rfl, rfl, h1, hrest⟩ := trodAll_cons hrest
  obtain ⟨v2, vs, d2, ds', p2, q, rfl, rfl, rfl, h2, hrest⟩ := trodAll_cons hrest
  obtain ⟨v3, vs, d3, ds', p3, q, rfl, rfl, rfl, h3, hrest⟩ := trodAll_cons hrest
  obtain ⟨v4, vs, d4, ds', p4, q, rfl, rfl, rfl, h4, hrest⟩ := trodAll_cons hrest
  obtain ⟨rfl, rfl, rfl⟩ := trodAll_nil hrest
  exact ⟨v0, v1, v2, v3, v4, d0, d1, d2, d3, d4, p0, p1, p2, p3, p4, by cases args; simp_all, rfl, by simp, h0, h1, h2, h3, h4⟩
theorem trodAll_mk5 {t0 t1 t2 t3 t4 : TypeId} {v0 v1 v2 v3 v4 : Value} {d0 d1 d2 d3 d4 : DataW H} {p0 p1 p2 p3 p4 : List MemPlace} (h0 : DataW.Trod enc P w base spare held t0 v0 d0 p0) (h1 : DataW.Trod enc P w base spare held t1 v1 d1 p1) (h2 : DataW.Trod enc P w base spare held t2 v2 d2 p2) (h3 : DataW.Trod enc P w base spare held t3 v3 d3 p3) (h4 : DataW.Trod enc P w base spare held t4 v4 d4 p4) :
    DataW.TrodAll enc P w base spare held [t0, t1, t2, t3, t4] [v0, v1, v2, v3, v4] [d0, d1, d2, d3, d4] (p0 ++ (p1 ++ (p2 ++ (p3 ++ p4)))) := ⟨p0, p1 ++ (p2 ++ (p3 ++ p4)), h0, trodAll_mk4 h1 h2 h3 h4, rfl⟩
end
theorem has_lt {P : Program} {W : World} {r : Reach} {base : Nat} {a : Addr} {e : TypeId} {n : Nat} (h : W.has P r base a e n) : a.spot = none ∧ a.block < W.heap.size := by
  obtain ⟨_, hs, row, cells, hsh, _⟩ := h
  refine ⟨hs, ?_⟩
  unfold World.shape? at hsh
  rcases Nat.lt_or_ge a.block W.heap.size with hl | hl
  · exact hl
  · rw [Array.getElem?_eq_none hl] at hsh; cases hsh
theorem okWide_has {P : Program} {t e : TypeId} {W : World} {base : Nat} {a : Addr} {len cap : Nat} (ht : P.underlying t = some (.slice e)) (h : Value.okWide P W .any base t (.slice (some a) len cap)) : a.spot = none ∧ a.block < W.heap.size := by
  simp only [Value.okWide, ht, Cell.okWide, Cell.ok] at h
  exact has_lt h.2.2
structure ActCells (W : World) (a : Addr) (i : Nat) (x : Act) : Prop where
  c0 : W.cell? ((a.add (i * 5)).add 0) = some (.int .i64 x.kind)
  c1 : W.cell? ((a.add (i * 5)).add 1) = some (.int .u64 x.t.at_)
  c2 : W.cell? ((a.add (i * 5)).add 2) = some (.int .u64 x.t.seq)
  c3 : W.cell? ((a.add (i * 5)).add 3) = some (.int .i64 x.t.place)
  c4 : W.cell? ((a.add (i * 5)).add 4) = some (.int .u64 x.now)
set_option maxRecDepth 100000 in
theorem act_cells {H : Type} {enc : TypeId × Value → H} {W : World} {a : Addr} {i n : Nat} {cs : List Value} {x : DataW H × List MemPlace} (hc : W.cells? 0 (a.add (i * 5)) 5 = some cs)
    (h : DataW.trod enc Try.prog W 0 (fun _ => true) true n 41 cs = some x) : ∃ y : Act, ActCells W a i y := by
  have k1 : Try.prog.cellsOf 3 = 1 := by kernel_rfl
  have k2 : Try.prog.cellsOf 33 = 1 := by kernel_rfl
  have k3 : Try.prog.cellsOf 35 = 3 := by kernel_rfl
  obtain ⟨ys, n', _, _, _, hyl, hfs⟩ := DataW.trod_struct Try.underlying41 h
  obtain ⟨_, hcl, hat⟩ := World.cells?_some hc
  have hys : ys.length = 3 := hyl
  match cs, hcl, hat, hfs with
  | [x0, x1, x2, x3, x4], _, hat, hfs =>
    have g0 : DataW.trod enc Try.prog W 0 (fun _ => true) true n' 3 (([x0, x1, x2, x3, x4].drop 0).take (Try.prog.cellsOf 3)) = ys[0]? := hfs 0 _ rfl
    have g1 : DataW.trod enc Try.prog W 0 (fun _ => true) true n' 35 (([x0, x1, x2, x3, x4].drop 1).take (Try.prog.cellsOf 35)) = ys[1]? := hfs 1 _ rfl
    have g2 : DataW.trod enc Try.prog W 0 (fun _ => true) true n' 33 (([x0, x1, x2, x3, x4].drop 4).take (Try.prog.cellsOf 33)) = ys[2]? := hfs 2 _ rfl
    rw [k1, List.getElem?_eq_getElem (by omega)] at g0
    rw [k3, List.getElem?_eq_getElem (by omega)] at g1
    rw [k2, List.getElem?_eq_getElem (by omega)] at g2
    obtain ⟨zs, n2, _, _, _, hzl, hgs⟩ := DataW.trod_struct Try.underlying35 g1
    have hzs : zs.length = 3 := hzl
    have t0 : DataW.trod enc Try.prog W 0 (fun _ => true) true n2 33 (([x1, x2, x3].drop 0).take (Try.prog.cellsOf 33)) = zs[0]? := hgs 0 _ rfl
    have t1 : DataW.trod enc Try.prog W 0 (fun _ => true) true n2 33 (([x1, x2, x3].drop 1).take (Try.prog.cellsOf 33)) = zs[1]? := hgs 1 _ rfl
    have t2 : DataW.trod enc Try.prog W 0 (fun _ => true) true n2 3 (([x1, x2, x3].drop 2).take (Try.prog.cellsOf 3)) = zs[2]? := hgs 2 _ rfl
    rw [k2, List.getElem?_eq_getElem (by omega)] at t0 t1
    rw [k1, List.getElem?_eq_getElem (by omega)] at t2
    obtain ⟨m0, e0, _, w0⟩ := DataW.trod_int Try.underlying3 g0
    obtain ⟨m1, e1, _, w1⟩ := DataW.trod_int Try.underlying33 t0
    obtain ⟨m2, e2, _, w2⟩ := DataW.trod_int Try.underlying33 t1
    obtain ⟨m3, e3, _, w3⟩ := DataW.trod_int Try.underlying3 t2
    obtain ⟨m4, e4, _, w4⟩ := DataW.trod_int Try.underlying33 g2
    simp only [List.drop_zero, List.drop_succ_cons, List.take_succ_cons, List.take_zero, List.cons.injEq, and_true] at e0 e1 e2 e3 e4
    subst e0 e1 e2 e3 e4
    exact ⟨⟨m0, ⟨m1, m2, m3⟩, m4⟩, hat 0 (by omega), hat 1 (by omega), hat 2 (by omega), hat 3 (by omega), hat 4 (by omega)⟩
theorem add_none {a : Addr} (h : a.spot = none) (k : Nat) : a.add k = ⟨a.block, a.off + k, none⟩ := by
  obtain ⟨b, o, s⟩ := a
  simp only at h
  subst h
  unfold Addr.add
  split
  · rename_i hk
    subst hk
    rfl
  · rfl
set_option maxRecDepth 100000 in
theorem open_acts {H : Type} {enc : TypeId × Value → H} {W : World} {fuel : Nat} {a0 : Option Addr} {len cap : Nat} {d : DataW H} {p : List MemPlace}
    (h : DataW.trod enc Try.prog W 0 (fun _ => true) true fuel 22 [.slice a0 len cap] = some (d, p)) (hbd : ∀ g, a0.map (·.block) = some g → g < W.heap.size) :
    ∃ l : List Act, l.length = len ∧ AcAt W W.heap.size a0 l ∧ len ≤ 2 ^ 63 - 1 := by
  have cE : Try.prog.cellsOf 41 = 5 := by kernel_rfl
  rcases open_slice Try.underlying22 h with ⟨h0, _⟩ | ⟨a, len', cap', m, n, D, Pl, hcs, hb, hlc, hm, hmm, hx, hi⟩
  · simp only [List.cons.injEq, Value.slice.injEq, and_true] at h0
    obtain ⟨rfl, rfl, rfl⟩ := h0
    exact ⟨[], rfl, fun i hi => absurd hi (by simp), by omega⟩
  · simp only [List.cons.injEq, Value.slice.injEq, and_true] at hcs
    obtain ⟨rfl, rfl, rfl⟩ := hcs
    have hlm : len ≤ m := by rw [hmm]; split <;> omega
    obtain ⟨l, hl, hq⟩ := list_of (Q := fun i y => ActCells W a i y) len fun i hil => by
      obtain ⟨cs', hc, ht'⟩ := hi i (by omega)
      rw [cE] at hc
      exact act_cells hc ht'
    refine ⟨l, hl, ?_, by unfold maxLen at hm; omega⟩
    · intro i hil
      have hs : a.spot = none := by
        have := congrArg Addr.spot (spot_none (hq 0 (by omega)).c0)
        simpa [Addr.add] using this
      have hb := hbd a.block rfl
      have e : ∀ j, (a.add (i * 5)).add j = ⟨a.block, a.off + i * 5 + j, none⟩ := by
        intro j
        rw [add_none hs, add_none rfl]
      have hs' : a = ⟨a.block, a.off, none⟩ := by
        have := add_none hs 0
        obtain ⟨b, o, s⟩ := a
        simp only at hs
        rw [hs]
      obtain ⟨c0, c1, c2, c3, c4⟩ := hq i hil
      rw [e] at c0 c1 c2 c3 c4
      exact ⟨a.block, a.off, congrArg some hs', hb, by simpa using c0, c1, c2, c3, c4⟩
end Go.Proofs.Ytpbepmipfjcjbaa
