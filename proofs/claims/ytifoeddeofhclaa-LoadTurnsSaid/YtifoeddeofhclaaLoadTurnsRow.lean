/- LoadTurns holds: for every list of notes and every list of bytes the law returns true, and both read behind the call as they read before. No condition. -/
import Derived.Test.YtifoeddeofhclaaLoadRow
import Derived.Test.YtifoeddeofhclaaLoadTurns

namespace Go.Proofs.Ytifoeddeofhclaa
open Go.ChangeShapes Go.WideShapes Go.ChangeAt Go.RowKit Go.Deep
theorem open_bytes {H : Type} {enc : TypeId × Value → H} {W : World} {fuel : Nat} {a0 : Option Addr} {len cap : Nat} {x : DataW H × List MemPlace}
    (h : DataW.trod enc Try.prog W 0 (fun _ => true) true fuel 44 [.slice a0 len cap] = some x) :
    ∃ l : List Int, l.length = len ∧ BytesAt W W.heap.size a0 l ∧ l.length ≤ 9223372036854775807 := by
  rcases open_scal Try.underlying44 Try.underlying5 (by kernel_rfl) h with ⟨h0, _⟩ | ⟨a, len', cap', el, sp, hcs, hlc, hm, hd, hel, hi⟩
  · simp only [List.cons.injEq, Value.slice.injEq, and_true] at h0
    obtain ⟨rfl, rfl, rfl⟩ := h0
    exact ⟨[], rfl, fun i hi => absurd hi (by simp), by simp⟩
  · simp only [List.cons.injEq, Value.slice.injEq, and_true] at hcs
    obtain ⟨rfl, rfl, rfl⟩ := hcs
    obtain ⟨l, hl, hq⟩ := list_of len hi
    refine ⟨l, hl, ?_, by unfold maxLen at hm; omega⟩
    intro i hil
    obtain ⟨c, hwf⟩ := hq i hil
    have hz := (hq 0 (by omega)).1
    have hs : a = ⟨a.block, a.off, none⟩ := by
      have := spot_none hz
      simpa [Addr.add] using this
    have hb := block_lt hz
    have hb' : a.block < W.heap.size := by simpa [Addr.add] using hb
    have e : ∀ k, a.add k = ⟨a.block, a.off + k, none⟩ := by
      intro k
      unfold Addr.add
      split
      · rename_i hk; subst hk; exact hs
      · rfl
    rw [e] at c
    have h1 : IntKind.u8.min = 0 := rfl
    have h2 : IntKind.u8.max = 255 := rfl
    simp only [Lit.wf, Bool.and_eq_true, decide_eq_true_eq] at hwf
    exact ⟨a.block, a.off, congrArg some hs, hb', c, by omega, by omega⟩

set_option maxRecDepth 100000 in
theorem turns_lifted (os : Os) (started : os.Started) (H : Type) (enc : TypeId × Value → H) :
    ReturnsInHanded {} Try.checked os 5 .any (Rows.loadTurnsSpec.pre6 enc Try.prog Try.f5 Rows.loadTurnsRow.domain false) (Rows.loadTurnsSpec.post enc Try.prog Try.f5 false true false false) := by
  refine returnsInHanded_of_change_sized (C := Try.checked) Try.own started (by kernel_rfl) Try.func5
    (ChangeSpec.witness6 (enc := enc) (C := Try.checked) false ⟨#[], #[.slice none 0 0, .slice none 0 0], []⟩ 8 (by kernel_rfl) (by kernel_rfl) (by kernel_rfl) (by kernel_rfl)) ?_
  intro W base args ds gs before hval0 hW _ hsz0 _
  have hsz : (DataW.weightsEach Try.prog (Try.f5.params.toList ++ Rows.loadTurnsSpec.plain.varTypes Try.prog) (ds ++ gs)).all (· ≤ reachBytes) = true := hsz0
  clear hsz0
  have hval : ∀ (j : Nat) t v, Try.f5.params[j]? = some t → args[j]? = some v → Value.okWide Try.prog W .any base t v := hval0
  have hW' := hW
  obtain ⟨p, q, hA0, hV, rfl, _, _⟩ := hW
  have hA : DataW.TrodAll enc Try.prog W 0 (fun _ => true) true Try.f5.params.toList args.toList ds p := hA0
  rw [Try.params5] at hA hval hsz
  obtain ⟨v0, v1, d0, d1, p0, p1, rfl, rfl, rfl, h0, h1⟩ := trodAll_two hA
  obtain ⟨rfl, rfl⟩ := trodVars_none hV
  obtain ⟨a0, len, cap, rfl⟩ := okWide_slice Try.underlying22 (hval 0 22 v0 rfl rfl)
  have h0k := h0
  obtain ⟨fuel, hf⟩ := h0
  simp only [List.append_nil] at hW'
  have hlt : ∀ x ∈ p0, x.block < W.heap.size := fun x hx => by simpa using hW'.lt x (by simp [hx])
  obtain ⟨l, rfl, hl⟩ := open_notes (by simpa [Value.cells] using hf) (fun el sp e => by subst e; exact sized_slice hsz (j := 0) (t := 22) (e := 29) rfl rfl Try.underlying22)
  obtain ⟨a1, len1, cap1, rfl⟩ := okWide_slice Try.underlying44 (hval 1 44 v1 rfl rfl)
  have h1k := h1
  obtain ⟨fuel1, hf1⟩ := h1
  have hlt1 : ∀ x ∈ p1, x.block < W.heap.size := fun x hx => by simpa using hW'.lt x (by simp [hx])
  obtain ⟨u, rfl, hu, hu1⟩ := open_bytes (by simpa [Value.cells] using hf1)
  refine (turns_walk a0 l cap a1 u cap1 W hl hu hu1).mono fun e W' ⟨he, hn⟩ => ?_
  subst he
  refine ⟨_, rfl, _, _, _, [], p0 ++ p1, [], hW', ?_, ?_, rfl, hn.frame _, fun h => by cases h⟩
  · exact trodAll_mk1 (shut_bool Try.underlying4 true)
  · exact trodAll_mk2 (Below.trod Try.laidOut (by kernel_rfl) (of_decide_eq_true (by kernel_rfl)) h0k hn hlt) (Below.trod Try.laidOut (by kernel_rfl) (of_decide_eq_true (by kernel_rfl)) h1k hn hlt1)
theorem LoadTurns_holds : Rows.LoadTurnsSaid :=
  OpenClaim.holds_of_wide 5 Try.f5 rfl rfl rfl rfl rfl rfl rfl ⟨rfl, rfl, rfl, rfl, rfl⟩ rfl rfl rfl rfl rfl (by kernel_rfl) Try.func5 (by kernel_rfl)
    (of_decide_eq_true (by kernel_rfl)) (by unfold Func.isWrapper; first | (rw [if_pos (by decide +kernel)]; kernel_rfl) | (rw [if_neg (by decide +kernel)]; exact ⟨rfl, rfl⟩))
    (fun os started H enc _ => turns_lifted os started H enc)
#print axioms LoadTurns_holds
end Go.Proofs.Ytifoeddeofhclaa
