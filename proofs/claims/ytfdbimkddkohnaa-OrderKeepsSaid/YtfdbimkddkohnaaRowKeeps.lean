/- OrderKeeps holds: for every list of timers and every timer the law returns true, and both read behind the call as they read before. No condition. -/
import Derived.Test.YtfdbimkddkohnaaOrdRow
import Derived.Test.YtfdbimkddkohnaaLawKe
import Derived.Lib.SmallJoins
namespace Go.Proofs.Ytfdbimkddkohnaa
open Go.ChangeShapes Go.WideShapes Go.ChangeAt Go.RowKit Go.Deep
set_option maxRecDepth 100000 in
theorem orderKeeps_lifted (os : Os) (started : os.Started) (H : Type) (enc : TypeId × Value → H) :
    ReturnsInHanded {} Try.checked os 10 .any (Rows.orderKeepsSpec.pre6 enc Try.prog Try.f10 Rows.orderKeepsRow.domain false) (Rows.orderKeepsSpec.post enc Try.prog Try.f10 false true false false) := by
  refine returnsInHanded_of_change_sized (C := Try.checked) Try.own started (by kernel_rfl) Try.func10
    (ChangeSpec.witness6 (enc := enc) (C := Try.checked) false ⟨#[], #[.slice none 0 0, .agg #[.int .u64 0, .int .u64 0, .int .i64 0]], []⟩ 8 (by kernel_rfl) (by kernel_rfl) (by kernel_rfl) (by kernel_rfl)) ?_
  intro W base args ds gs before hval0 hW _ hsz0 _
  clear hsz0
  have hval : ∀ (j : Nat) t v, Try.f10.params[j]? = some t → args[j]? = some v → Value.okWide Try.prog W .any base t v := hval0
  have hW' := hW
  obtain ⟨p, q, hA0, hV, rfl, _, _⟩ := hW
  have hA : DataW.TrodAll enc Try.prog W 0 (fun _ => true) true Try.f10.params.toList args.toList ds p := hA0
  rw [Try.params10] at hA hval
  obtain ⟨v0, v1, d0, d1, p0, p1, rfl, rfl, rfl, h0, h1⟩ := trodAll_two hA
  obtain ⟨rfl, rfl⟩ := trodVars_none hV
  have hv0 := hval 0 33 v0 rfl rfl
  obtain ⟨a0, len, cap, rfl⟩ := okWide_slice Try.underlying33 hv0
  have h0k := h0
  obtain ⟨fuel, hf⟩ := h0
  clear hA0 hval0
  simp only [List.append_nil] at hW'
  have hlt : ∀ x ∈ p0, x.block < W.heap.size := fun x hx => by simpa using hW'.lt x (by simp [hx])
  have hlt1 : ∀ x ∈ p1, x.block < W.heap.size := fun x hx => by simpa using hW'.lt x (by simp [hx])
  obtain ⟨l, rfl, hl, hfit⟩ := open_tms (by simpa [Value.cells] using hf) (fun g e => by
    cases a0 with
    | none => cases e
    | some a =>
      simp only [Option.map_some, Option.some.injEq] at e
      subst e
      exact (okWide_has Try.underlying33 hv0).2)
  have h1k := h1
  obtain ⟨u0, u1, u2, y0, y1, y2, n1, rfl, rfl, hp1, t0, t1, t2⟩ := Go.Joins.open_agg3 Try.underlying25 (by kernel_rfl) (by kernel_rfl) (hval 1 25 v1 rfl rfl) h1
  obtain ⟨m0, e0, _, w0⟩ := DataW.trod_int Try.underlying23 t0
  obtain ⟨m1, e1, _, w1⟩ := DataW.trod_int Try.underlying23 t1
  obtain ⟨m2, e2, _, w2⟩ := DataW.trod_int Try.underlying3 t2
  simp only [List.cons.injEq, and_true] at e0 e1 e2
  subst e0 e1 e2
  refine (keeps_walk _ l ⟨m0, m1, m2⟩ W hl).mono fun e W' ⟨he, hn⟩ => ?_
  subst he
  refine ⟨_, rfl, _, _, _, [], p0 ++ p1, [], hW', ?_, ?_, rfl, hn.frame _, fun h => by cases h⟩
  · exact trodAll_mk1 (shut_bool Try.underlying4 true)
  · exact trodAll_mk2 (Below.trod Try.laidOut (by kernel_rfl) (of_decide_eq_true (by kernel_rfl)) h0k hn hlt) (Below.trod Try.laidOut (by kernel_rfl) (of_decide_eq_true (by kernel_rfl)) h1k hn hlt1)
theorem OrderKeeps_holds : Rows.OrderKeepsSaid :=
  OpenClaim.holds_of_wide 10 Try.f10 rfl rfl rfl rfl rfl rfl rfl ⟨rfl, rfl, rfl, rfl, rfl⟩ rfl rfl rfl rfl rfl (by kernel_rfl) Try.func10 (by kernel_rfl)
    (of_decide_eq_true (by kernel_rfl)) (by unfold Func.isWrapper; first | (rw [if_pos (by decide +kernel)]; kernel_rfl) | (rw [if_neg (by decide +kernel)]; exact ⟨rfl, rfl⟩))
    (fun os started H enc _ => orderKeeps_lifted os started H enc)
#print axioms OrderKeeps_holds
end Go.Proofs.Ytfdbimkddkohnaa
