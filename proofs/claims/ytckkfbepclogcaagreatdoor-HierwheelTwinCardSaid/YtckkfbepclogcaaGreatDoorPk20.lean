/- Part 20: the texts HashRow ActRow, laid end to end by a program. -/
import Derived.Test.YtckkfbepclogcaaGreatDoorTie
import Derived.Test.YtckkfbepclogcaaGreatDoorCards
import Derived.LaidMore
import Derived.OpenShut
import Derived.Stop.Joined
import Derived.SevenTiedAt
import Derived.Lib.SmallJoins
import Derived.Test.YtckkfbepclogcaaGreatDoorPk2
import Derived.Test.YtckkfbepclogcaaGreatDoorPk19
namespace Go.Proofs.YtckkfbepclogcaaGreatDoor
open Go.ChangeShapes Go.WideShapes Go.ChangeAt Go.RowKit Go.Deep
theorem gTab : Tryz.prog.globalNamed "math/bits.deBruijn64tab" = some 0 := by kernel_rfl
theorem tTab : (Tryz.prog.globals[0]?).map (·.type) = some 171 := by kernel_rfl
def laidL : List (String × DataW Unit) := [("math/bits.deBruijn64tab", Rows.laid_math_bits_deBruijn64tab)]
theorem laid_tab : (Rows.laid_math_bits_deBruijn64tab : DataW Unit) = .agg (tabL.map fun n : Nat => .lit (.int .u8 (n : Int))) := by kernel_rfl
theorem cells8 : Tryz.prog.cellsOf 5 = 1 := by kernel_rfl
theorem of_laid {W : World} (h : laidMetH Tryz.prog laidL W) : TabAt W := by
  rw [MakeChecks.laidMetH_plain _ _ _ (by kernel_rfl)] at h
  obtain ⟨ps, ⟨g0, t0, cs0, f0, p0, q0, hg0, ht0, hv0, hd0, _, _⟩, _, _⟩ := h
  obtain rfl := Option.some.inj (gTab.symm.trans hg0)
  obtain rfl := Option.some.inj (tTab.symm.trans ht0)
  obtain ⟨xs, m1, rfl, hx, hlen, hn, hel⟩ := DataW.trod_array Tryz.underlying171 hd0
  simp only [Prod.mk.injEq] at hx
  have hx1 := hx.1
  rw [laid_tab] at hx1
  injection hx1 with hx1
  intro j hj
  have hel := hel j hj
  have hj' : j < xs.length := by omega
  rw [List.getElem?_eq_getElem hj'] at hel
  obtain ⟨k, e1, e2, _⟩ := DataW.trod_int Tryz.underlying5 hel
  have h3 : (tabL.map fun n : Nat => DataW.lit (H := Unit) (.int .u8 (n : Int)))[j]? = (xs.map (·.1))[j]? := by rw [hx1]
  have htl : j < tabL.length := by simpa [tabL] using hj
  rw [List.getElem?_map, List.getElem?_map, List.getElem?_eq_getElem hj', List.getElem?_eq_getElem htl] at h3
  simp only [Option.map_some, Option.some.injEq] at h3
  rw [e2] at h3
  simp only [DataW.lit.injEq, Lit.int.injEq, true_and] at h3
  have hc := World.var?_cell hg0 hv0 j
  rw [hc]
  rw [cells8, Nat.mul_one] at e1
  have h4 : cs0.toList[j]? = some (.int .u8 k) := by
    have := congrArg (·[0]?) e1
    simpa [List.getElem?_take, List.getElem?_drop] using this
  rw [Array.getElem?_toList] at h4
  rw [h4, ← h3]
  simp [htl]
theorem door_met (os : Os) (args : Array Value) : laidMetH Tryz.prog laidL ((World.doorLaid Tryz.prog 14 os).forCall (fun _ _ => 0) ⟨#[], args, []⟩).memory :=
  laidMetH_of_parts (laidMet_of_run' 8 (by kernel_rfl) (by kernel_rfl)) (by kernel_rfl)
theorem u64_wf {n : Int} (h : (Lit.int .u64 n).wf = true) : U64 n := by
  simp [Lit.wf, IntKind.min, IntKind.max, IntKind.bits, IntKind.signed] at h
  unfold U64
  omega
section
variable {H : Type} {enc : TypeId × Value → H} {P : Program} {w : World} {base : Nat} {spare : Nat → Bool} {held : Bool}
theorem trodAll_5 {t0 t1 t2 t3 t4 : TypeId} {args : Array Value} {ds : List (DataW H)} {ps : List MemPlace} (h : DataW.TrodAll enc P w base spare held [t0, t1, t2, t3, t4] args.toList ds ps) :
    ∃ v0 v1 v2 v3 v4 d0 d1 d2 d3 d4 p0 p1 p2 p3 p4, args = #[v0, v1, v2, v3, v4] ∧ ds = [d0, d1, d2, d3, d4] ∧ ps = p0 ++ (p1 ++ (p2 ++ (p3 ++ p4))) ∧ DataW.Trod enc P w base spare held t0 v0 d0 p0 ∧ DataW.Trod enc P w base spare held t1 v1 d1 p1 ∧ DataW.Trod enc P w base spare held t2 v2 d2 p2 ∧ DataW.Trod enc P w base spare held t3 v3 d3 p3 ∧ DataW.Trod enc P w base spare held t4 v4 d4 p4 := by
  obtain ⟨v0, vs, d0, ds', p0, q, hargs, rfl, rfl, h0, hrest⟩ := trodAll_cons h
  obtain ⟨v1, vs, d1, ds', p1, q, rfl, rfl, rfl, h1, hrest⟩ := trodAll_cons hrest
  obtain ⟨v2, vs, d2, ds', p2, q, rfl, rfl, rfl, h2, hrest⟩ := trodAll_cons hrest
  obtain ⟨v3, vs, d3, ds', p3, q, rfl, rfl, rfl, h3, hrest⟩ := trodAll_cons hrest
  obtain ⟨v4, vs, d4, ds', p4, q, rfl, rfl, rfl, h4, hrest⟩ := trodAll_cons hrest
  obtain ⟨rfl, rfl, rfl⟩ := trodAll_nil hrest
  exact ⟨v0, v1, v2, v3, v4, d0, d1, d2, d3, d4, p0, p1, p2, p3, p4, by cases args; simp_all, rfl, by simp, h0, h1, h2, h3, h4⟩
theorem trodAll_mk5 {t0 t1 t2 t3 t4 : TypeId} {v0 v1 v2 v3 v4 : Value} {d0 d1 d2 d3 d4 : DataW H} {p0 p1 p2 p3 p4 : List MemPlace} (h0 : DataW.Trod enc P w base spare held t0 v0 d0 p0) (h1 : DataW.Trod enc P w base spare held t1 v1 d1 p1) (h2 : DataW.Trod enc P w base spare held t2 v2 d2 p2) (h3 : DataW.Trod enc P w base spare held t3 v3 d3 p3) (h4 : DataW.Trod enc P w base spare held t4 v4 d4 p4) :
    DataW.TrodAll enc P w base spare held [t0, t1, t2, t3, t4] [v0, v1, v2, v3, v4] [d0, d1, d2, d3, d4] (p0 ++ (p1 ++ (p2 ++ (p3 ++ p4)))) := ⟨p0, p1 ++ (p2 ++ (p3 ++ p4)), h0, trodAll_mk4 h1 h2 h3 h4, rfl⟩
theorem trodAll_mk6 {t0 t1 t2 t3 t4 t5 : TypeId} {v0 v1 v2 v3 v4 v5 : Value} {d0 d1 d2 d3 d4 d5 : DataW H} {p0 p1 p2 p3 p4 p5 : List MemPlace} (h0 : DataW.Trod enc P w base spare held t0 v0 d0 p0) (h1 : DataW.Trod enc P w base spare held t1 v1 d1 p1) (h2 : DataW.Trod enc P w base spare held t2 v2 d2 p2) (h3 : DataW.Trod enc P w base spare held t3 v3 d3 p3) (h4 : DataW.Trod enc P w base spare held t4 v4 d4 p4) (h5 : DataW.Trod enc P w base spare held t5 v5 d5 p5) :
    DataW.TrodAll enc P w base spare held [t0, t1, t2, t3, t4, t5] [v0, v1, v2, v3, v4, v5] [d0, d1, d2, d3, d4, d5] (p0 ++ (p1 ++ (p2 ++ (p3 ++ (p4 ++ p5))))) := ⟨p0, p1 ++ (p2 ++ (p3 ++ (p4 ++ p5))), h0, trodAll_mk5 h1 h2 h3 h4 h5, rfl⟩
end
end Go.Proofs.YtckkfbepclogcaaGreatDoor
namespace Go.Proofs.YtckkfbepclogcaaGreatDoor
open Go.ChangeShapes Go.WideShapes Go.ChangeAt Go.RowKit Go.Deep
theorem has_lt {P : Program} {W : World} {r : Reach} {base : Nat} {a : Addr} {e : TypeId} {n : Nat} (h : W.has P r base a e n) : a.spot = none ∧ a.block < W.heap.size := by
  obtain ⟨_, hs, row, cells, hsh, _⟩ := h
  refine ⟨hs, ?_⟩
  unfold World.shape? at hsh
  rcases Nat.lt_or_ge a.block W.heap.size with hl | hl
  · exact hl
  · rw [Array.getElem?_eq_none hl] at hsh; cases hsh
theorem okWide_has {P : Program} {t e : TypeId} {W : World} {base : Nat} {a : Addr} {len cap : Nat} (ht : P.underlying t = some (.slice e)) (h : Value.okWide P W .any base t (.slice (some a) len cap)) : a.spot = none ∧ a.block < W.heap.size := by
  simp only [Value.okWide, ht, Cell.okWide, Cell.ok] at h
  exact has_lt h.2.2
structure ActCells (W : World) (a : Addr) (i : Nat) (x : Act) : Prop where
  c0 : W.cell? ((a.add (i * 5)).add 0) = some (.int .i64 x.kind)
  c1 : W.cell? ((a.add (i * 5)).add 1) = some (.int .u64 x.t.at_)
  c2 : W.cell? ((a.add (i * 5)).add 2) = some (.int .u64 x.t.seq)
  c3 : W.cell? ((a.add (i * 5)).add 3) = some (.int .i64 x.t.place)
  c4 : W.cell? ((a.add (i * 5)).add 4) = some (.int .u64 x.now)
  u1 : U64 x.t.at_
  u2 : U64 x.now
set_option maxRecDepth 100000 in
theorem act_cells {H : Type} {enc : TypeId × Value → H} {W : World} {a : Addr} {i n : Nat} {cs : List Value} {x : DataW H × List MemPlace} (hc : W.cells? 0 (a.add (i * 5)) 5 = some cs)
    (h : DataW.trod enc Tryz.prog W 0 (fun _ => true) true n 43 cs = some x) : ∃ y : Act, ActCells W a i y := by
  have k1 : Tryz.prog.cellsOf 3 = 1 := by kernel_rfl
  have k2 : Tryz.prog.cellsOf 22 = 1 := by kernel_rfl
  have k3 : Tryz.prog.cellsOf 37 = 3 := by kernel_rfl
  obtain ⟨ys, n', _, _, _, hyl, hfs⟩ := DataW.trod_struct Tryz.underlying43 h
  obtain ⟨_, hcl, hat⟩ := World.cells?_some hc
  have hys : ys.length = 3 := hyl
  match cs, hcl, hat, hfs with
  | [x0, x1, x2, x3, x4], _, hat, hfs =>
    have g0 : DataW.trod enc Tryz.prog W 0 (fun _ => true) true n' 3 (([x0, x1, x2, x3, x4].drop 0).take (Tryz.prog.cellsOf 3)) = ys[0]? := hfs 0 _ rfl
    have g1 : DataW.trod enc Tryz.prog W 0 (fun _ => true) true n' 37 (([x0, x1, x2, x3, x4].drop 1).take (Tryz.prog.cellsOf 37)) = ys[1]? := hfs 1 _ rfl
    have g2 : DataW.trod enc Tryz.prog W 0 (fun _ => true) true n' 22 (([x0, x1, x2, x3, x4].drop 4).take (Tryz.prog.cellsOf 22)) = ys[2]? := hfs 2 _ rfl
    rw [k1, List.getElem?_eq_getElem (by omega)] at g0
    rw [k3, List.getElem?_eq_getElem (by omega)] at g1
    rw [k2, List.getElem?_eq_getElem (by omega)] at g2
    obtain ⟨zs, n2, _, _, _, hzl, hgs⟩ := DataW.trod_struct Tryz.underlying37 g1
    have hzs : zs.length = 3 := hzl
    have t0 : DataW.trod enc Tryz.prog W 0 (fun _ => true) true n2 22 (([x1, x2, x3].drop 0).take (Tryz.prog.cellsOf 22)) = zs[0]? := hgs 0 _ rfl
    have t1 : DataW.trod enc Tryz.prog W 0 (fun _ => true) true n2 22 (([x1, x2, x3].drop 1).take (Tryz.prog.cellsOf 22)) = zs[1]? := hgs 1 _ rfl
    have t2 : DataW.trod enc Tryz.prog W 0 (fun _ => true) true n2 3 (([x1, x2, x3].drop 2).take (Tryz.prog.cellsOf 3)) = zs[2]? := hgs 2 _ rfl
    rw [k2, List.getElem?_eq_getElem (by omega)] at t0 t1
    rw [k1, List.getElem?_eq_getElem (by omega)] at t2
    obtain ⟨m0, e0, _, w0⟩ := DataW.trod_int Tryz.underlying3 g0
    obtain ⟨m1, e1, _, w1⟩ := DataW.trod_int Tryz.underlying22 t0
    obtain ⟨m2, e2, _, w2⟩ := DataW.trod_int Tryz.underlying22 t1
    obtain ⟨m3, e3, _, w3⟩ := DataW.trod_int Tryz.underlying3 t2
    obtain ⟨m4, e4, _, w4⟩ := DataW.trod_int Tryz.underlying22 g2
    simp only [List.drop_zero, List.drop_succ_cons, List.take_succ_cons, List.take_zero, List.cons.injEq, and_true] at e0 e1 e2 e3 e4
    subst e0 e1 e2 e3 e4
    exact ⟨⟨m0, ⟨m1, m2, m3⟩, m4⟩, hat 0 (by omega), hat 1 (by omega), hat 2 (by omega), hat 3 (by omega), hat 4 (by omega), u64_wf w1, u64_wf w4⟩
theorem add_none {a : Addr} (h : a.spot = none) (k : Nat) : a.add k = ⟨a.block, a.off + k, none⟩ := by
  obtain ⟨b, o, s⟩ := a
  simp only at h
  subst h
  unfold Addr.add
  split
  · rename_i hk
    subst hk
    rfl
  · rfl
set_option maxRecDepth 100000 in
theorem open_acts {H : Type} {enc : TypeId × Value → H} {W : World} {fuel : Nat} {a0 : Option Addr} {len cap : Nat} {d : DataW H} {p : List MemPlace}
    (h : DataW.trod enc Tryz.prog W 0 (fun _ => true) true fuel 23 [.slice a0 len cap] = some (d, p)) (hbd : ∀ g, a0.map (·.block) = some g → g < W.heap.size) :
    ∃ l : List Act, l.length = len ∧ AcAt W W.heap.size a0 l ∧ AcOk l ∧ len ≤ 2 ^ 63 - 1 := by
  have cE : Tryz.prog.cellsOf 43 = 5 := by kernel_rfl
  rcases open_slice Tryz.underlying23 h with ⟨h0, _⟩ | ⟨a, len', cap', m, n, D, Pl, hcs, hb, hlc, hm, hmm, hx, hi⟩
  · simp only [List.cons.injEq, Value.slice.injEq, and_true] at h0
    obtain ⟨rfl, rfl, rfl⟩ := h0
    exact ⟨[], rfl, fun i hi => absurd hi (by simp), fun x hx => absurd hx (by simp), by omega⟩
  · simp only [List.cons.injEq, Value.slice.injEq, and_true] at hcs
    obtain ⟨rfl, rfl, rfl⟩ := hcs
    have hlm : len ≤ m := by rw [hmm]; split <;> omega
    obtain ⟨l, hl, hq⟩ := list_of (Q := fun i y => ActCells W a i y) len fun i hil => by
      obtain ⟨cs', hc, ht'⟩ := hi i (by omega)
      rw [cE] at hc
      exact act_cells hc ht'
    refine ⟨l, hl, ?_, ?_, by unfold maxLen at hm; omega⟩
    · intro i hil
      have hs : a.spot = none := by
        have := congrArg Addr.spot (spot_none (hq 0 (by omega)).c0)
        simpa [Addr.add] using this
      have hb := hbd a.block rfl
      have e : ∀ j, (a.add (i * 5)).add j = ⟨a.block, a.off + i * 5 + j, none⟩ := by
        intro j
        rw [add_none hs, add_none rfl]
      have hs' : a = ⟨a.block, a.off, none⟩ := by
        have := add_none hs 0
        obtain ⟨b, o, s⟩ := a
        simp only at hs
        rw [hs]
      obtain ⟨c0, c1, c2, c3, c4, _, _⟩ := hq i hil
      rw [e] at c0 c1 c2 c3 c4
      exact ⟨a.block, a.off, congrArg some hs', hb, by simpa using c0, c1, c2, c3, c4⟩
    · intro x hx
      obtain ⟨i, hil, rfl⟩ := List.getElem_of_mem hx
      exact ⟨(hq i hil).u1, (hq i hil).u2⟩
end Go.Proofs.YtckkfbepclogcaaGreatDoor
