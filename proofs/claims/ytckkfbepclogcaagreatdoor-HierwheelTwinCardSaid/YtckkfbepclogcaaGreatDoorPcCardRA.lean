/- The law: the texts CardRA, laid end to end by a program. -/
import Derived.Test.YtckkfbepclogcaaGreatDoorPk20
import Derived.Test.YtckkfbepclogcaaGreatDoorPcLawRA
namespace Go.Proofs.YtckkfbepclogcaaGreatDoor
open Go.ChangeShapes Go.WideShapes Go.ChangeAt Go.RowKit Go.Deep
theorem trodAll_6 {H : Type} {enc : TypeId × Value → H} {P : Program} {w : World} {base : Nat} {spare : Nat → Bool} {held : Bool} {t0 t1 t2 t3 t4 t5 : TypeId} {args : Array Value} {ds : List (DataW H)} {ps : List MemPlace} (h : DataW.TrodAll enc P w base spare held [t0, t1, t2, t3, t4, t5] args.toList ds ps) :
    ∃ v0 v1 v2 v3 v4 v5 d0 d1 d2 d3 d4 d5 p0 p1 p2 p3 p4 p5, args = #[v0, v1, v2, v3, v4, v5] ∧ ds = [d0, d1, d2, d3, d4, d5] ∧ ps = p0 ++ (p1 ++ (p2 ++ (p3 ++ (p4 ++ p5)))) ∧ DataW.Trod enc P w base spare held t0 v0 d0 p0 ∧ DataW.Trod enc P w base spare held t1 v1 d1 p1 ∧ DataW.Trod enc P w base spare held t2 v2 d2 p2 ∧ DataW.Trod enc P w base spare held t3 v3 d3 p3 ∧ DataW.Trod enc P w base spare held t4 v4 d4 p4 ∧ DataW.Trod enc P w base spare held t5 v5 d5 p5 := by
  obtain ⟨v0, vs, d0, ds', p0, q, hargs, rfl, rfl, h0, hrest⟩ := trodAll_cons h
  obtain ⟨v1, vs, d1, ds', p1, q, rfl, rfl, rfl, h1, hrest⟩ := trodAll_cons hrest
  obtain ⟨v2, vs, d2, ds', p2, q, rfl, rfl, rfl, h2, hrest⟩ := trodAll_cons hrest
  obtain ⟨v3, vs, d3, ds', p3, q, rfl, rfl, rfl, h3, hrest⟩ := trodAll_cons hrest
  obtain ⟨v4, vs, d4, ds', p4, q, rfl, rfl, rfl, h4, hrest⟩ := trodAll_cons hrest
  obtain ⟨v5, vs, d5, ds', p5, q, rfl, rfl, rfl, h5, hrest⟩ := trodAll_cons hrest
  obtain ⟨rfl, rfl, rfl⟩ := trodAll_nil hrest
  exact ⟨v0, v1, v2, v3, v4, v5, d0, d1, d2, d3, d4, d5, p0, p1, p2, p3, p4, p5, by cases args; simp_all, rfl, by simp, h0, h1, h2, h3, h4, h5⟩

set_option maxRecDepth 100000 in
theorem hierwheelTwin_lifted (os : Os) (started : os.Started) (H : Type) (enc : TypeId × Value → H) :
    ReturnsInHanded {} Tryz.checked os 4 .any (fun w args => (Rows.hierwheelTwinSpec.pre enc Tryz.prog Tryz.f4 [] false w args ∧ laidMetH Tryz.prog laidL w) ∧ sizedMet enc Tryz.prog Tryz.f4 (OpenSpec.ofChange Rows.hierwheelTwinSpec) false w args)
      (Rows.hierwheelTwinSpec.post enc Tryz.prog Tryz.f4 false true false false) := by
  refine returnsInHanded_of_change_and (C := Tryz.checked) (X := fun w _ => laidMetH Tryz.prog laidL w) (fun _ _ _ hh h => h.of_heap hh) Tryz.own started (by kernel_rfl) Tryz.func4
    (ChangeSpec.witness_shaped (enc := enc) (C := Tryz.checked) (os := os) (X := fun w _ => laidMetH Tryz.prog laidL w) false (World.doorLaid Tryz.prog 14 os) #[.int .i64 0, .int .i64 0, .int .u64 0, .slice none 0 0, .int .i64 0, .int .u64 0] 8 rfl (World.shaped_of_RefB (by kernel_rfl) (by kernel_rfl)) (by kernel_rfl) (by kernel_rfl) (by kernel_rfl) (door_met os _)) ?_
  intro W base args ds gs before hval0 hW _ _ hL _
  have hT := of_laid hL
  have hval : ∀ (j : Nat) t v, Tryz.f4.params[j]? = some t → args[j]? = some v → Value.okWide Tryz.prog W .any base t v := hval0
  have hW' := hW
  obtain ⟨p, q, hA0, hV, rfl, _, _⟩ := hW
  have hA : DataW.TrodAll enc Tryz.prog W 0 (fun _ => true) true Tryz.f4.params.toList args.toList ds p := hA0
  rw [Tryz.params4] at hA hval
  obtain ⟨v0, v1, v2, v3, v4, v5, d0, d1, d2, d3, d4, d5, p0, p1, p2, p3, p4, p5, rfl, rfl, rfl, h0, h1, h2, h3, h4, h5⟩ := trodAll_6 hA
  obtain ⟨rfl, rfl⟩ := trodVars_none hV
  obtain ⟨P, rfl, rfl, rfl, w0⟩ := open_int Tryz.underlying3 (hval 0 3 v0 rfl rfl) h0
  obtain ⟨bits, rfl, rfl, rfl, w1⟩ := open_int Tryz.underlying3 (hval 1 3 v1 rfl rfl) h1
  obtain ⟨base0, rfl, rfl, rfl, w2⟩ := open_int Tryz.underlying22 (hval 2 22 v2 rfl rfl) h2
  obtain ⟨other, rfl, rfl, rfl, w4⟩ := open_int Tryz.underlying3 (hval 4 3 v4 rfl rfl) h4
  obtain ⟨start, rfl, rfl, rfl, w5⟩ := open_int Tryz.underlying22 (hval 5 22 v5 rfl rfl) h5
  have hv3 := hval 3 23 v3 rfl rfl
  obtain ⟨a0, len, cap, rfl⟩ := okWide_slice Tryz.underlying23 hv3
  have h3k := h3
  obtain ⟨fuel, hf⟩ := h3
  simp only [List.append_nil, List.nil_append] at hW'
  have hlt : ∀ x ∈ p3, x.block < W.heap.size := fun x hx => by simpa using hW'.lt x (by simp [hx])
  obtain ⟨l, rfl, hAc, hOk, hlen⟩ := open_acts (by simpa [Value.cells] using hf) (fun g e => by
    cases a0 with
    | none => cases e
    | some a =>
      simp only [Option.map_some, Option.some.injEq] at e
      subst e
      exact (okWide_has Tryz.underlying23 hv3).2)
  refine (rtwin P bits base0 other start a0 l cap W hT hAc hOk hlen (u64_wf w2) (u64_wf w5)).mono fun e W' ⟨he, hn⟩ => ?_
  subst he
  refine ⟨_, rfl, _, _, _, [], [] ++ ([] ++ ([] ++ (p3 ++ ([] ++ [])))), [], hW', ?_, ?_, rfl, hn.frame _, fun h => by cases h⟩
  · exact trodAll_mk1 (shut_bool Tryz.underlying4 true)
  · exact trodAll_mk6 (shut_int Tryz.underlying3 w0) (shut_int Tryz.underlying3 w1) (shut_int Tryz.underlying22 w2) (Below.trod Tryz.laidOut (by kernel_rfl) (of_decide_eq_true (by kernel_rfl)) h3k hn hlt) (shut_int Tryz.underlying3 w4) (shut_int Tryz.underlying22 w5)
theorem hierwheelTwin_holds : Rows.HierwheelTwinSaid :=
  OpenClaim.holds_of_wide 4 Tryz.f4 rfl rfl rfl rfl rfl rfl rfl ⟨rfl, rfl, rfl, rfl, rfl⟩ rfl rfl rfl rfl rfl (by kernel_rfl) Tryz.func4 (by kernel_rfl)
    (of_decide_eq_true (by kernel_rfl)) (by unfold Func.isWrapper; first | (rw [if_pos (by decide +kernel)]; kernel_rfl) | (rw [if_neg (by decide +kernel)]; exact ⟨rfl, rfl⟩))
    (fun os started H enc _ => hierwheelTwin_lifted os started H enc)
theorem hierwheelTwinCard_holds : Rows.HierwheelTwinCardSaid :=
  Claim7.holds_tied_plain_at .later [] [.data] true (true, "64703c229afaf8d147542cead07ffb4ad1139aeaaa4b1cf2bfd5d6d4618f6587") false
    hierwheelTwin_holds (fun _ h => by cases h) (by kernel_rfl) (fun _ h => by cases h) hierwheelTwin_row_tie rfl ⟨rfl, rfl⟩ (by kernel_rfl) rfl
    (fun f fn hf hfn => by
      obtain rfl : f = 4 := Option.some.inj ((show Tryz.prog.funcNamed "compline/complinelaw11.HierwheelTwin" = some 4 by kernel_rfl).symm.trans hf) |>.symm
      obtain rfl : fn = Tryz.f4 := (Option.some.inj (Tryz.func4.symm.trans hfn)).symm
      exact ⟨by kernel_rfl, fun j t ht => by
        rw [Tryz.params4] at ht
        have hm : t ∈ [3, 3, 22, 23, 3, 22] := by simpa using Array.mem_of_getElem? ht
        have hall : ([3, 3, 22, 23, 3, 22].all fun u => !Tryz.prog.wantsStandIn u) = true := by kernel_rfl
        exact (show Tryz.prog.wantsStandIn t = false by simpa using List.all_eq_true.1 hall t hm)⟩)
    (by kernel_rfl)
#print axioms hierwheelTwinCard_holds
end Go.Proofs.YtckkfbepclogcaaGreatDoor
