/- The law: the texts PhRowP, laid end to end by a program. -/
import Derived.Test.YtpbepmipfjcjbaaPk21
import Derived.Test.YtpbepmipfjcjbaaPcLawPP
namespace Go.Proofs.Ytpbepmipfjcjbaa
open Go.ChangeShapes Go.WideShapes Go.ChangeAt Go.RowKit Go.Deep

set_option maxRecDepth 100000 in
theorem pairheapPlays_lifted (os : Os) (started : os.Started) (H : Type) (enc : TypeId × Value → H) :
    ReturnsInHanded {} Try.checked os 3 .any (Rows.pairheapPlaysSpec.pre6 enc Try.prog Try.f3 Rows.pairheapPlaysRow.domain false) (Rows.pairheapPlaysSpec.post enc Try.prog Try.f3 false true false false) := by
  refine returnsInHanded_of_change_sized (C := Try.checked) Try.own started (by kernel_rfl) Try.func3
    (ChangeSpec.witness6 (enc := enc) (C := Try.checked) false ⟨#[], #[.int .i64 0, .slice none 0 0, .int .i64 0], []⟩ 8 (by kernel_rfl) (by kernel_rfl) (by kernel_rfl) (by kernel_rfl)) ?_
  intro W base args ds gs before hval0 hW _ _ _
  have hval : ∀ (j : Nat) t v, Try.f3.params[j]? = some t → args[j]? = some v → Value.okWide Try.prog W .any base t v := hval0
  have hW' := hW
  obtain ⟨p, q, hA0, hV, rfl, _, _⟩ := hW
  have hA : DataW.TrodAll enc Try.prog W 0 (fun _ => true) true Try.f3.params.toList args.toList ds p := hA0
  rw [Try.params3] at hA hval
  clear hA0 hval0
  obtain ⟨v0, v1, v2, d0, d1, d2, p0, p1, p2, rfl, rfl, rfl, h0, h1, h2⟩ := trodAll_n3 hA
  obtain ⟨rfl, rfl⟩ := trodVars_none hV
  obtain ⟨P, rfl, rfl, rfl, w0⟩ := open_int Try.underlying3 (hval 0 3 v0 rfl rfl) h0
  obtain ⟨n, rfl, rfl, rfl, w2⟩ := open_int Try.underlying3 (hval 2 3 v2 rfl rfl) h2
  have hvl := hval 1 22 v1 rfl rfl
  obtain ⟨a0, len, cap, rfl⟩ := okWide_slice Try.underlying22 hvl
  have h1k := h1
  obtain ⟨fuell, hfl⟩ := h1
  have hltl : ∀ x ∈ p1, x.block < W.heap.size := fun x hx => hW'.lt x (by simp [hx])
  obtain ⟨l, rfl, hAcl, hlenl⟩ := open_acts (by simpa [Value.cells] using hfl) (fun g e => by
    cases a0 with
    | none => cases e
    | some a =>
      simp only [Option.map_some, Option.some.injEq] at e
      subst e
      exact (okWide_has Try.underlying22 hvl).2)
  refine (pplays P n a0 l cap W hAcl hlenl).mono fun e W' ⟨he, hn⟩ => ?_
  subst he
  refine ⟨_, rfl, _, _, _, [], [] ++ (p1 ++ []), [], hW', ?_, ?_, rfl, hn.frame _, fun h => by cases h⟩
  · exact trodAll_mk1 (shut_bool Try.underlying4 true)
  · exact trodAll_mk3 (shut_int Try.underlying3 w0) (Below.trod Try.laidOut (by kernel_rfl) (of_decide_eq_true (by kernel_rfl)) h1k hn hltl) (shut_int Try.underlying3 w2)
theorem PairheapPlays_holds : Rows.PairheapPlaysSaid :=
  OpenClaim.holds_of_wide 3 Try.f3 rfl rfl rfl rfl rfl rfl rfl ⟨rfl, rfl, rfl, rfl, rfl⟩ rfl rfl rfl rfl rfl (by kernel_rfl) Try.func3 (by kernel_rfl)
    (of_decide_eq_true (by kernel_rfl)) (by unfold Func.isWrapper; first | (rw [if_pos (by decide +kernel)]; kernel_rfl) | (rw [if_neg (by decide +kernel)]; exact ⟨rfl, rfl⟩))
    (fun os started H enc _ => pairheapPlays_lifted os started H enc)
#print axioms PairheapPlays_holds
end Go.Proofs.Ytpbepmipfjcjbaa
