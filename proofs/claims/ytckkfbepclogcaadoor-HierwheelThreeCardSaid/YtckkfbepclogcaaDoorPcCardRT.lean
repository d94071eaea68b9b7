/- The law: the texts CardRT, laid end to end by a program. -/
import Derived.Test.YtckkfbepclogcaaDoorPk20
import Derived.Test.YtckkfbepclogcaaDoorPcLawRT
namespace Go.Proofs.YtckkfbepclogcaaDoor
open Go.ChangeShapes Go.WideShapes Go.ChangeAt Go.RowKit Go.Deep

theorem open_ticks {H : Type} {enc : TypeId × Value → H} {W : World} {fuel : Nat} {a0 : Option Addr} {len cap : Nat} {x : DataW H × List MemPlace}
    (h : DataW.trod enc Tryd.prog W 0 (fun _ => true) true fuel 78 [.slice a0 len cap] = some x) : ∃ l : List Int, l.length = len ∧ UsAt W W.heap.size a0 l ∧ (∀ y ∈ l, U64 y) ∧ l.length ≤ 9223372036854775807 := by
  rcases open_scal Tryd.underlying78 Tryd.underlying22 (by kernel_rfl) h with ⟨h0, _⟩ | ⟨a, len', cap', el, sp, hcs, hlc, hm, hd, hel, hi⟩
  · simp only [List.cons.injEq, Value.slice.injEq, and_true] at h0
    obtain ⟨rfl, rfl, rfl⟩ := h0
    exact ⟨[], rfl, fun k hk => absurd hk (by simp), by simp, by simp⟩
  · simp only [List.cons.injEq, Value.slice.injEq, and_true] at hcs
    obtain ⟨rfl, rfl, rfl⟩ := hcs
    obtain ⟨l, hl, hq⟩ := list_of (α := Int) (Q := fun i n => W.cell? (a.add i) = some (.int .u64 n) ∧ (Lit.int .u64 n).wf = true) len hi
    refine ⟨l, hl, fun k hk => ?_, fun y hy => ?_, by unfold maxLen at hm; omega⟩
    · have hk' := (hq k hk).1
      have hz := (hq 0 (by omega)).1
      have hs : a = ⟨a.block, a.off, none⟩ := by
        have := spot_none hz
        simpa [Addr.add] using this
      have hb' : a.block < W.heap.size := by simpa [Addr.add] using block_lt hz
      have e : a.add k = ⟨a.block, a.off + k, none⟩ := by
        unfold Addr.add
        split
        · rename_i hk; subst hk; exact hs
        · rfl
      rw [e] at hk'
      exact ⟨a.block, a.off, congrArg some hs, hb', hk'⟩
    · obtain ⟨k, hk, rfl⟩ := List.getElem_of_mem hy
      exact u64_wf (hq k hk).2
set_option maxRecDepth 100000 in
theorem hierwheelThree_lifted (os : Os) (started : os.Started) (H : Type) (enc : TypeId × Value → H) :
    ReturnsInHanded {} Tryd.checked os 9 .any (fun w args => (Rows.hierwheelThreeSpec.pre enc Tryd.prog Tryd.f9 [] false w args ∧ laidMetH Tryd.prog laidL w) ∧ sizedMet enc Tryd.prog Tryd.f9 (OpenSpec.ofChange Rows.hierwheelThreeSpec) false w args)
      (Rows.hierwheelThreeSpec.post enc Tryd.prog Tryd.f9 false true false false) := by
  refine returnsInHanded_of_change_and (C := Tryd.checked) (X := fun w _ => laidMetH Tryd.prog laidL w) (fun _ _ _ hh h => h.of_heap hh) Tryd.own started (by kernel_rfl) Tryd.func9
    (ChangeSpec.witness_shaped (enc := enc) (C := Tryd.checked) (os := os) (X := fun w _ => laidMetH Tryd.prog laidL w) false (World.doorLaid Tryd.prog 14 os) #[.int .i64 0, .int .u64 0, .agg #[.int .u64 0, .int .u64 0, .int .i64 0], .slice none 0 0] 8 rfl (World.shaped_of_RefB (by kernel_rfl) (by kernel_rfl)) (by kernel_rfl) (by kernel_rfl) (by kernel_rfl) (door_met os _)) ?_
  intro W base args ds gs before hval0 hW _ _ hL _
  have hT := of_laid hL
  have hval : ∀ (j : Nat) t v, Tryd.f9.params[j]? = some t → args[j]? = some v → Value.okWide Tryd.prog W .any base t v := hval0
  have hW' := hW
  obtain ⟨p, q, hA0, hV, rfl, _, _⟩ := hW
  have hA : DataW.TrodAll enc Tryd.prog W 0 (fun _ => true) true Tryd.f9.params.toList args.toList ds p := hA0
  rw [Tryd.params9] at hA hval
  obtain ⟨v0, v1, v2, v3, d0, d1, d2, d3, p0, p1, p2, p3, rfl, rfl, rfl, h0, h1, h2, h3⟩ := trodAll_four hA
  obtain ⟨rfl, rfl⟩ := trodVars_none hV
  obtain ⟨bits, rfl, rfl, rfl, w0⟩ := open_int Tryd.underlying3 (hval 0 3 v0 rfl rfl) h0
  obtain ⟨base0, rfl, rfl, rfl, w1⟩ := open_int Tryd.underlying22 (hval 1 22 v1 rfl rfl) h1
  have h2k := h2
  obtain ⟨u0, u1, u2, y0, y1, y2, n1, rfl, rfl, hp1, t0, t1, t2⟩ := Go.Joins.open_agg3 Tryd.underlying37 (by kernel_rfl) (by kernel_rfl) (hval 2 37 v2 rfl rfl) h2
  obtain ⟨m0, e0, _, x0⟩ := DataW.trod_int Tryd.underlying22 t0
  obtain ⟨m1, e1, _, x1⟩ := DataW.trod_int Tryd.underlying22 t1
  obtain ⟨m2, e2, _, x2⟩ := DataW.trod_int Tryd.underlying3 t2
  simp only [List.cons.injEq, and_true] at e0 e1 e2
  subst e0 e1 e2
  obtain ⟨a0, len, cap, rfl⟩ := okWide_slice Tryd.underlying78 (hval 3 78 v3 rfl rfl)
  have h3k := h3
  obtain ⟨fuel, hf⟩ := h3
  obtain ⟨l, rfl, hl, hu, hlen⟩ := open_ticks (by simpa [Value.cells] using hf)
  simp only [List.append_nil, List.nil_append] at hW'
  have hlt2 : ∀ x ∈ p2, x.block < W.heap.size := fun x hx => by simpa using hW'.lt x (by simp [hx])
  have hlt3 : ∀ x ∈ p3, x.block < W.heap.size := fun x hx => by simpa using hW'.lt x (by simp [hx])
  refine (rthree bits base0 ⟨m0, m1, m2⟩ a0 l cap W hT hl hu hlen (u64_wf w1) (u64_wf x0)).mono fun e W' ⟨he, hn⟩ => ?_
  subst he
  refine ⟨_, rfl, _, _, _, [], [] ++ ([] ++ (p2 ++ p3)), [], hW', ?_, ?_, rfl, hn.frame _, fun h => by cases h⟩
  · exact trodAll_mk1 (shut_bool Tryd.underlying4 true)
  · exact trodAll_mk4 (shut_int Tryd.underlying3 w0) (shut_int Tryd.underlying22 w1) (Below.trod Tryd.laidOut (by kernel_rfl) (of_decide_eq_true (by kernel_rfl)) h2k hn hlt2) (Below.trod Tryd.laidOut (by kernel_rfl) (of_decide_eq_true (by kernel_rfl)) h3k hn hlt3)
theorem hierwheelThree_holds : Rows.HierwheelThreeSaid :=
  OpenClaim.holds_of_wide 9 Tryd.f9 rfl rfl rfl rfl rfl rfl rfl ⟨rfl, rfl, rfl, rfl, rfl⟩ rfl rfl rfl rfl rfl (by kernel_rfl) Tryd.func9 (by kernel_rfl)
    (of_decide_eq_true (by kernel_rfl)) (by unfold Func.isWrapper; first | (rw [if_pos (by decide +kernel)]; kernel_rfl) | (rw [if_neg (by decide +kernel)]; exact ⟨rfl, rfl⟩))
    (fun os started H enc _ => hierwheelThree_lifted os started H enc)
theorem hierwheelThreeCard_holds : Rows.HierwheelThreeCardSaid :=
  Claim7.holds_tied_plain_at .later [] [.data] true (true, "7966b6dd208ee85f3473f28c61f3afadf269443b0c46f63cefb6f3a1f980a21e") false
    hierwheelThree_holds (fun _ h => by cases h) (by kernel_rfl) (fun _ h => by cases h) hierwheelThree_row_tie rfl ⟨rfl, rfl⟩ (by kernel_rfl) rfl
    (fun f fn hf hfn => by
      obtain rfl : f = 9 := Option.some.inj ((show Tryd.prog.funcNamed "compline/complinelaw11.HierwheelThree" = some 9 by kernel_rfl).symm.trans hf) |>.symm
      obtain rfl : fn = Tryd.f9 := (Option.some.inj (Tryd.func9.symm.trans hfn)).symm
      exact ⟨by kernel_rfl, fun j t ht => by
        rw [Tryd.params9] at ht
        have hm : t ∈ [3, 22, 37, 78] := by simpa using Array.mem_of_getElem? ht
        have hall : ([3, 22, 37, 78].all fun u => !Tryd.prog.wantsStandIn u) = true := by kernel_rfl
        exact (show Tryd.prog.wantsStandIn t = false by simpa using List.all_eq_true.1 hall t hm)⟩)
    (by kernel_rfl)
#print axioms hierwheelThreeCard_holds
end Go.Proofs.YtckkfbepclogcaaDoor
