/- The law: the texts PhRowT, laid end to end by a program. -/
import Derived.Test.YtpbepmipfjcjbaaPk21
import Derived.Test.YtpbepmipfjcjbaaPcLawPT
namespace Go.Proofs.Ytpbepmipfjcjbaa
open Go.ChangeShapes Go.WideShapes Go.ChangeAt Go.RowKit Go.Deep

theorem lits_u64 {n : Int} (h : (Lit.int .u64 n).wf = true) : 0 ≤ n ∧ n ≤ 18446744073709551615 := by
  have h1 : IntKind.u64.min = 0 := rfl
  have h2 : IntKind.u64.max = 18446744073709551615 := rfl
  simp only [Lit.wf, Bool.and_eq_true, decide_eq_true_eq] at h
  omega
theorem lits_i64 {n : Int} (h : (Lit.int .i64 n).wf = true) : -9223372036854775808 ≤ n ∧ n ≤ 9223372036854775807 := by
  have h1 : IntKind.i64.min = -9223372036854775808 := rfl
  have h2 : IntKind.i64.max = 9223372036854775807 := rfl
  simp only [Lit.wf, Bool.and_eq_true, decide_eq_true_eq] at h
  omega
set_option maxRecDepth 100000 in
theorem act_fit {H : Type} {enc : TypeId × Value → H} {W : World} {a : Addr} {i n : Nat} {cs : List Value} {x : DataW H × List MemPlace} (hc : W.cells? 0 (a.add (i * 5)) 5 = some cs)
    (h : DataW.trod enc Try.prog W 0 (fun _ => true) true n 41 cs = some x) : ∃ y : Act, ActCells W a i y ∧ y.t.Fit := by
  have k1 : Try.prog.cellsOf 3 = 1 := by kernel_rfl
  have k2 : Try.prog.cellsOf 33 = 1 := by kernel_rfl
  have k3 : Try.prog.cellsOf 35 = 3 := by kernel_rfl
  obtain ⟨ys, n', _, _, _, hyl, hfs⟩ := DataW.trod_struct Try.underlying41 h
  obtain ⟨_, hcl, hat⟩ := World.cells?_some hc
  have hys : ys.length = 3 := hyl
  match cs, hcl, hat, hfs with
  | [x0, x1, x2, x3, x4], _, hat, hfs =>
    have g0 : DataW.trod enc Try.prog W 0 (fun _ => true) true n' 3 (([x0, x1, x2, x3, x4].drop 0).take (Try.prog.cellsOf 3)) = ys[0]? := hfs 0 _ rfl
    have g1 : DataW.trod enc Try.prog W 0 (fun _ => true) true n' 35 (([x0, x1, x2, x3, x4].drop 1).take (Try.prog.cellsOf 35)) = ys[1]? := hfs 1 _ rfl
    have g2 : DataW.trod enc Try.prog W 0 (fun _ => true) true n' 33 (([x0, x1, x2, x3, x4].drop 4).take (Try.prog.cellsOf 33)) = ys[2]? := hfs 2 _ rfl
    rw [k1, List.getElem?_eq_getElem (by omega)] at g0
    rw [k3, List.getElem?_eq_getElem (by omega)] at g1
    rw [k2, List.getElem?_eq_getElem (by omega)] at g2
    obtain ⟨zs, n2, _, _, _, hzl, hgs⟩ := DataW.trod_struct Try.underlying35 g1
    have hzs : zs.length = 3 := hzl
    have t0 : DataW.trod enc Try.prog W 0 (fun _ => true) true n2 33 (([x1, x2, x3].drop 0).take (Try.prog.cellsOf 33)) = zs[0]? := hgs 0 _ rfl
    have t1 : DataW.trod enc Try.prog W 0 (fun _ => true) true n2 33 (([x1, x2, x3].drop 1).take (Try.prog.cellsOf 33)) = zs[1]? := hgs 1 _ rfl
    have t2 : DataW.trod enc Try.prog W 0 (fun _ => true) true n2 3 (([x1, x2, x3].drop 2).take (Try.prog.cellsOf 3)) = zs[2]? := hgs 2 _ rfl
    rw [k2, List.getElem?_eq_getElem (by omega)] at t0 t1
    rw [k1, List.getElem?_eq_getElem (by omega)] at t2
    obtain ⟨m0, e0, _, w0⟩ := DataW.trod_int Try.underlying3 g0
    obtain ⟨m1, e1, _, w1⟩ := DataW.trod_int Try.underlying33 t0
    obtain ⟨m2, e2, _, w2⟩ := DataW.trod_int Try.underlying33 t1
    obtain ⟨m3, e3, _, w3⟩ := DataW.trod_int Try.underlying3 t2
    obtain ⟨m4, e4, _, w4⟩ := DataW.trod_int Try.underlying33 g2
    simp only [List.drop_zero, List.drop_succ_cons, List.take_succ_cons, List.take_zero, List.cons.injEq, and_true] at e0 e1 e2 e3 e4
    subst e0 e1 e2 e3 e4
    exact ⟨⟨m0, ⟨m1, m2, m3⟩, m4⟩, ⟨hat 0 (by omega), hat 1 (by omega), hat 2 (by omega), hat 3 (by omega), hat 4 (by omega)⟩, (lits_u64 w2).1, (lits_i64 w3).1, (lits_u64 w1).2⟩
set_option maxRecDepth 100000 in
theorem open_fits {H : Type} {enc : TypeId × Value → H} {W : World} {fuel : Nat} {a0 : Option Addr} {len cap : Nat} {d : DataW H} {p : List MemPlace}
    (h : DataW.trod enc Try.prog W 0 (fun _ => true) true fuel 22 [.slice a0 len cap] = some (d, p)) (hbd : ∀ g, a0.map (·.block) = some g → g < W.heap.size) :
    ∃ l : List Act, l.length = len ∧ AcAt W W.heap.size a0 l ∧ len ≤ 2 ^ 63 - 1 ∧ ∀ x ∈ l, x.t.Fit := by
  have cE : Try.prog.cellsOf 41 = 5 := by kernel_rfl
  rcases open_slice Try.underlying22 h with ⟨h0, _⟩ | ⟨a, len', cap', m, n, D, Pl, hcs, hb, hlc, hm, hmm, hx, hi⟩
  · simp only [List.cons.injEq, Value.slice.injEq, and_true] at h0
    obtain ⟨rfl, rfl, rfl⟩ := h0
    exact ⟨[], rfl, fun i hi => absurd hi (by simp), by omega, by simp⟩
  · simp only [List.cons.injEq, Value.slice.injEq, and_true] at hcs
    obtain ⟨rfl, rfl, rfl⟩ := hcs
    have hlm : len ≤ m := by rw [hmm]; split <;> omega
    obtain ⟨l, hl, hq⟩ := list_of (Q := fun i y => ActCells W a i y ∧ y.t.Fit) len fun i hil => by
      obtain ⟨cs', hc, ht'⟩ := hi i (by omega)
      rw [cE] at hc
      exact act_fit hc ht'
    refine ⟨l, hl, ?_, by unfold maxLen at hm; omega, fun x hx => ?_⟩
    · intro i hil
      have hs : a.spot = none := by
        have := congrArg Addr.spot (spot_none (hq 0 (by omega)).1.c0)
        simpa [Addr.add] using this
      have hb := hbd a.block rfl
      have e : ∀ j, (a.add (i * 5)).add j = ⟨a.block, a.off + i * 5 + j, none⟩ := by
        intro j
        rw [add_none hs, add_none rfl]
      have hs' : a = ⟨a.block, a.off, none⟩ := by
        have := add_none hs 0
        obtain ⟨b, o, s⟩ := a
        simp only at hs
        rw [hs]
      obtain ⟨⟨c0, c1, c2, c3, c4⟩, _⟩ := hq i hil
      rw [e] at c0 c1 c2 c3 c4
      exact ⟨a.block, a.off, congrArg some hs', hb, by simpa using c0, c1, c2, c3, c4⟩
    · obtain ⟨i, hil, rfl⟩ := List.getElem_of_mem hx
      exact (hq i hil).2
set_option maxRecDepth 100000 in
theorem pairheapMerged_lifted (os : Os) (started : os.Started) (H : Type) (enc : TypeId × Value → H) :
    ReturnsInHanded {} Try.checked os 7 .any (Rows.pairheapMergedSpec.pre6 enc Try.prog Try.f7 Rows.pairheapMergedRow.domain false) (Rows.pairheapMergedSpec.post enc Try.prog Try.f7 false true false false) := by
  refine returnsInHanded_of_change_sized (C := Try.checked) Try.own started (by kernel_rfl) Try.func7
    (ChangeSpec.witness6 (enc := enc) (C := Try.checked) false ⟨#[], #[.int .i64 0, .slice none 0 0, .slice none 0 0, .int .u64 0], []⟩ 8 (by kernel_rfl) (by kernel_rfl) (by kernel_rfl) (by kernel_rfl)) ?_
  intro W base args ds gs before hval0 hW _ _ _
  have hval : ∀ (j : Nat) t v, Try.f7.params[j]? = some t → args[j]? = some v → Value.okWide Try.prog W .any base t v := hval0
  have hW' := hW
  obtain ⟨p, q, hA0, hV, rfl, _, _⟩ := hW
  have hA : DataW.TrodAll enc Try.prog W 0 (fun _ => true) true Try.f7.params.toList args.toList ds p := hA0
  rw [Try.params7] at hA hval
  clear hA0 hval0
  obtain ⟨v0, v1, v2, v3, d0, d1, d2, d3, p0, p1, p2, p3, rfl, rfl, rfl, h0, h1, h2, h3⟩ := trodAll_n4 hA
  obtain ⟨rfl, rfl⟩ := trodVars_none hV
  obtain ⟨P, rfl, rfl, rfl, w0⟩ := open_int Try.underlying3 (hval 0 3 v0 rfl rfl) h0
  obtain ⟨n, rfl, rfl, rfl, w3⟩ := open_int Try.underlying33 (hval 3 33 v3 rfl rfl) h3
  have hvl := hval 1 22 v1 rfl rfl
  obtain ⟨a0, len, cap, rfl⟩ := okWide_slice Try.underlying22 hvl
  have h1k := h1
  obtain ⟨fuell, hfl⟩ := h1
  have hltl : ∀ x ∈ p1, x.block < W.heap.size := fun x hx => hW'.lt x (by simp [hx])
  obtain ⟨l, rfl, hAcl, hlenl, hfitl⟩ := open_fits (by simpa [Value.cells] using hfl) (fun g e => by
    cases a0 with
    | none => cases e
    | some a =>
      simp only [Option.map_some, Option.some.injEq] at e
      subst e
      exact (okWide_has Try.underlying22 hvl).2)
  have hvk := hval 2 22 v2 rfl rfl
  obtain ⟨a1, len1, cap1, rfl⟩ := okWide_slice Try.underlying22 hvk
  have h2k := h2
  obtain ⟨fuelk, hfk⟩ := h2
  have hltk : ∀ x ∈ p2, x.block < W.heap.size := fun x hx => hW'.lt x (by simp [hx])
  obtain ⟨k, rfl, hAck, hlenk, hfitk⟩ := open_fits (by simpa [Value.cells] using hfk) (fun g e => by
    cases a1 with
    | none => cases e
    | some a =>
      simp only [Option.map_some, Option.some.injEq] at e
      subst e
      exact (okWide_has Try.underlying22 hvk).2)
  refine (pmerged P n a0 a1 l k cap cap1 W hAcl hAck hlenl hlenk hfitl hfitk (lits_u64 w3)).mono fun e W' ⟨he, hn⟩ => ?_
  subst he
  refine ⟨_, rfl, _, _, _, [], [] ++ (p1 ++ (p2 ++ ([] ++ []))), [], hW', ?_, ?_, rfl, hn.frame _, fun h => by cases h⟩
  · exact trodAll_mk1 (shut_bool Try.underlying4 true)
  · exact trodAll_mk4 (shut_int Try.underlying3 w0) (Below.trod Try.laidOut (by kernel_rfl) (of_decide_eq_true (by kernel_rfl)) h1k hn hltl) (Below.trod Try.laidOut (by kernel_rfl) (of_decide_eq_true (by kernel_rfl)) h2k hn hltk) (shut_int Try.underlying33 w3)
theorem PairheapMerged_holds : Rows.PairheapMergedSaid :=
  OpenClaim.holds_of_wide 7 Try.f7 rfl rfl rfl rfl rfl rfl rfl ⟨rfl, rfl, rfl, rfl, rfl⟩ rfl rfl rfl rfl rfl (by kernel_rfl) Try.func7 (by kernel_rfl)
    (of_decide_eq_true (by kernel_rfl)) (by unfold Func.isWrapper; first | (rw [if_pos (by decide +kernel)]; kernel_rfl) | (rw [if_neg (by decide +kernel)]; exact ⟨rfl, rfl⟩))
    (fun os started H enc _ => pairheapMerged_lifted os started H enc)
#print axioms PairheapMerged_holds
end Go.Proofs.Ytpbepmipfjcjbaa
