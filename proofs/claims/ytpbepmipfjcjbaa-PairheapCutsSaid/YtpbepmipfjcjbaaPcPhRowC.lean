/- The law: the texts PhRowC, laid end to end by a program. -/
import Derived.Test.YtpbepmipfjcjbaaPk21
import Derived.Test.YtpbepmipfjcjbaaPcLawPC
namespace Go.Proofs.Ytpbepmipfjcjbaa
open Go.ChangeShapes Go.WideShapes Go.ChangeAt Go.RowKit Go.Deep

theorem open_icat {H : Type} {enc : TypeId × Value → H} {W : World} {fuel : Nat} {a0 : Option Addr} {len cap : Nat} {x : DataW H × List MemPlace}
    (h : DataW.trod enc Try.prog W 0 (fun _ => true) true fuel 51 [.slice a0 len cap] = some x) : ∃ l : List Int, l.length = len ∧ IcAt W W.heap.size a0 l ∧ len ≤ 2 ^ 63 - 1 := by
  rcases open_scal Try.underlying51 Try.underlying3 (by kernel_rfl) h with ⟨h0, _⟩ | ⟨a, len', cap', el, sp, hcs, hlc, hm, hd, hel, hi⟩
  · simp only [List.cons.injEq, Value.slice.injEq, and_true] at h0
    obtain ⟨rfl, rfl, rfl⟩ := h0
    exact ⟨[], rfl, (fun k hk => absurd hk (by simp)), by omega⟩
  · simp only [List.cons.injEq, Value.slice.injEq, and_true] at hcs
    obtain ⟨rfl, rfl, rfl⟩ := hcs
    obtain ⟨l, hl, hq⟩ := list_of (α := Int) (Q := fun i n => W.cell? (a.add i) = some (.int .i64 n)) len fun i hil => by
      obtain ⟨n, h1, _⟩ := hi i hil
      exact ⟨n, h1⟩
    refine ⟨l, hl, fun k hk => ?_, by unfold maxLen at hm; omega⟩
    have hk' := hq k hk
    have hz := hq 0 (by omega)
    have hs : a = ⟨a.block, a.off, none⟩ := by
      have := spot_none hz
      simpa [Addr.add] using this
    have hb' : a.block < W.heap.size := by simpa [Addr.add] using block_lt hz
    have e : a.add k = ⟨a.block, a.off + k, none⟩ := by
      unfold Addr.add
      split
      · rename_i hk; subst hk; exact hs
      · rfl
    rw [e] at hk'
    exact ⟨a.block, a.off, congrArg some hs, hb', hk'⟩
set_option maxRecDepth 100000 in
theorem pairheapCuts_lifted (os : Os) (started : os.Started) (H : Type) (enc : TypeId × Value → H) :
    ReturnsInHanded {} Try.checked os 5 .any (Rows.pairheapCutsSpec.pre6 enc Try.prog Try.f5 Rows.pairheapCutsRow.domain false) (Rows.pairheapCutsSpec.post enc Try.prog Try.f5 false true false false) := by
  refine returnsInHanded_of_change_sized (C := Try.checked) Try.own started (by kernel_rfl) Try.func5
    (ChangeSpec.witness6 (enc := enc) (C := Try.checked) false ⟨#[], #[.int .i64 0, .slice none 0 0, .slice none 0 0], []⟩ 8 (by kernel_rfl) (by kernel_rfl) (by kernel_rfl) (by kernel_rfl)) ?_
  intro W base args ds gs before hval0 hW _ _ _
  have hval : ∀ (j : Nat) t v, Try.f5.params[j]? = some t → args[j]? = some v → Value.okWide Try.prog W .any base t v := hval0
  have hW' := hW
  obtain ⟨p, q, hA0, hV, rfl, _, _⟩ := hW
  have hA : DataW.TrodAll enc Try.prog W 0 (fun _ => true) true Try.f5.params.toList args.toList ds p := hA0
  rw [Try.params5] at hA hval
  clear hA0 hval0
  obtain ⟨v0, v1, v2, d0, d1, d2, p0, p1, p2, rfl, rfl, rfl, h0, h1, h2⟩ := trodAll_n3 hA
  obtain ⟨rfl, rfl⟩ := trodVars_none hV
  obtain ⟨P, rfl, rfl, rfl, w0⟩ := open_int Try.underlying3 (hval 0 3 v0 rfl rfl) h0
  have hvl := hval 1 22 v1 rfl rfl
  obtain ⟨a0, len, cap, rfl⟩ := okWide_slice Try.underlying22 hvl
  have h1k := h1
  obtain ⟨fuell, hfl⟩ := h1
  have hltl : ∀ x ∈ p1, x.block < W.heap.size := fun x hx => hW'.lt x (by simp [hx])
  obtain ⟨l, rfl, hAcl, hlenl⟩ := open_acts (by simpa [Value.cells] using hfl) (fun g e => by
    cases a0 with
    | none => cases e
    | some a =>
      simp only [Option.map_some, Option.some.injEq] at e
      subst e
      exact (okWide_has Try.underlying22 hvl).2)
  obtain ⟨a1, len1, cap1, rfl⟩ := okWide_slice Try.underlying51 (hval 2 51 v2 rfl rfl)
  have h2k := h2
  obtain ⟨fuel2, hf2⟩ := h2
  have hlt2 : ∀ x ∈ p2, x.block < W.heap.size := fun x hx => hW'.lt x (by simp [hx])
  obtain ⟨k, rfl, hk, hlk⟩ := open_icat (by simpa [Value.cells] using hf2)
  refine (pcuts P a0 a1 l k cap cap1 W hAcl hk hlenl hlk).mono fun e W' ⟨he, hn⟩ => ?_
  subst he
  refine ⟨_, rfl, _, _, _, [], [] ++ (p1 ++ p2), [], hW', ?_, ?_, rfl, hn.frame _, fun h => by cases h⟩
  · exact trodAll_mk1 (shut_bool Try.underlying4 true)
  · exact trodAll_mk3 (shut_int Try.underlying3 w0) (Below.trod Try.laidOut (by kernel_rfl) (of_decide_eq_true (by kernel_rfl)) h1k hn hltl) (Below.trod Try.laidOut (by kernel_rfl) (of_decide_eq_true (by kernel_rfl)) h2k hn hlt2)
theorem PairheapCuts_holds : Rows.PairheapCutsSaid :=
  OpenClaim.holds_of_wide 5 Try.f5 rfl rfl rfl rfl rfl rfl rfl ⟨rfl, rfl, rfl, rfl, rfl⟩ rfl rfl rfl rfl rfl (by kernel_rfl) Try.func5 (by kernel_rfl)
    (of_decide_eq_true (by kernel_rfl)) (by unfold Func.isWrapper; first | (rw [if_pos (by decide +kernel)]; kernel_rfl) | (rw [if_neg (by decide +kernel)]; exact ⟨rfl, rfl⟩))
    (fun os started H enc _ => pairheapCuts_lifted os started H enc)
#print axioms PairheapCuts_holds
end Go.Proofs.Ytpbepmipfjcjbaa
