/- OrderMerges holds: for every list of lists of timers the law returns true, and all lists read behind the call as they read before. No condition. -/
import Derived.Test.YtfdbimkddkohnaaOrdRow
import Derived.Test.YtfdbimkddkohnaaLawMe
namespace Go.Proofs.Ytfdbimkddkohnaa
open Go.ChangeShapes Go.WideShapes Go.ChangeAt Go.RowKit Go.Deep
theorem open_lw {H : Type} {enc : TypeId × Value → H} {W : World} {fuel : Nat} {cs : List Value} {x : DataW H × List MemPlace}
    (h : DataW.trod enc Try.prog W 0 (fun _ => true) true fuel 33 cs = some x) : ∃ (v : Value) (l : List Timer), cs = [v] ∧ LW W v l := by
  rcases open_rows Try.underlying33 Try.underlying25 (by kernel_rfl) (by kernel_rfl) h with ⟨h0, _⟩ | ⟨a, len, cap, el, sp, hcs, hlc, hm, hd, hel, hi⟩
  · exact ⟨_, [], h0, (LAt.nil _).lw⟩
  · obtain ⟨l, hl, hq⟩ := list_of len fun i hil => tm_cell (hi i hil 0 _ rfl) (hi i hil 1 _ rfl) (hi i hil 2 _ rfl)
    exact ⟨_, l, hcs, some a, cap, by rw [hl], tm_at fun i hil => (hq i hil).2, by omega, hm, by simp⟩
theorem ll_at {W : World} {a : Addr} {L : List (List Timer)} (hq : ∀ i (hi : i < L.length), ∃ v, W.cell? (a.add i) = some v ∧ LW W v L[i]) : LL W (some a) L := by
  intro i hil
  obtain ⟨v, c0, hl⟩ := hq i hil
  obtain ⟨v0, hz, _⟩ := hq 0 (by omega)
  have hs : a = ⟨a.block, a.off, none⟩ := by
    have := spot_none hz
    simpa [Addr.add] using this
  have hb := block_lt hz
  have hb' : a.block < W.heap.size := by simpa [Addr.add] using hb
  have e : ∀ k, a.add k = ⟨a.block, a.off + k, none⟩ := by
    intro k
    unfold Addr.add
    split
    · rename_i hk; subst hk; exact hs
    · rfl
  rw [e] at c0
  exact ⟨a.block, a.off, v, congrArg some hs, hb', c0, hl⟩
theorem open_lists {H : Type} {enc : TypeId × Value → H} {W : World} {fuel : Nat} {a0 : Option Addr} {len cap : Nat} {x : DataW H × List MemPlace}
    (h : DataW.trod enc Try.prog W 0 (fun _ => true) true fuel 69 [.slice a0 len cap] = some x) : ∃ L : List (List Timer), L.length = len ∧ LL W a0 L ∧ len ≤ cap ∧ cap ≤ maxLen := by
  have hC : Try.prog.cellsOf 33 = 1 := by kernel_rfl
  rcases open_slice Try.underlying69 h with ⟨h0, _⟩ | ⟨a, len', cap', m, n, D, Pl, hcs, hb, hl, hm, hmm, hx, hi⟩
  · simp only [List.cons.injEq, Value.slice.injEq, and_true] at h0
    obtain ⟨rfl, rfl, rfl⟩ := h0
    exact ⟨[], rfl, fun i hi => absurd hi (by simp), Nat.le_refl _, by simp [maxLen]⟩
  · simp only [List.cons.injEq, Value.slice.injEq, and_true] at hcs
    obtain ⟨rfl, rfl, rfl⟩ := hcs
    have hlm : len ≤ m := by rw [hmm]; split <;> omega
    have hcell : ∀ i, i < len → ∃ l : List Timer, ∃ v, W.cell? (a.add i) = some v ∧ LW W v l := by
      intro i hil
      obtain ⟨cs', hc, ht'⟩ := hi i (by omega)
      rw [hC, Nat.mul_one] at hc
      obtain ⟨v, l, rfl, hlw⟩ := open_lw ht'
      obtain ⟨_, hcl, hat⟩ := World.cells?_some hc
      have := hat 0 (by omega)
      exact ⟨l, v, by simpa [Addr.add] using this, hlw⟩
    obtain ⟨L, hL, hq⟩ := list_of len hcell
    exact ⟨L, hL, ll_at hq, hl, hm⟩
set_option maxRecDepth 100000 in
theorem orderMerges_lifted (os : Os) (started : os.Started) (H : Type) (enc : TypeId × Value → H) :
    ReturnsInHanded {} Try.checked os 11 .any (Rows.orderMergesSpec.pre6 enc Try.prog Try.f11 Rows.orderMergesRow.domain false) (Rows.orderMergesSpec.post enc Try.prog Try.f11 false true false false) := by
  refine returnsInHanded_of_change_sized (C := Try.checked) Try.own started (by kernel_rfl) Try.func11
    (ChangeSpec.witness6 (enc := enc) (C := Try.checked) false ⟨#[], #[.slice none 0 0], []⟩ 8 (by kernel_rfl) (by kernel_rfl) (by kernel_rfl) (by kernel_rfl)) ?_
  intro W base args ds gs before hval0 hW _ hsz0 _
  clear hsz0
  have hval : ∀ (j : Nat) t v, Try.f11.params[j]? = some t → args[j]? = some v → Value.okWide Try.prog W .any base t v := hval0
  have hW' := hW
  obtain ⟨p, q, hA0, hV, rfl, _, _⟩ := hW
  have hA : DataW.TrodAll enc Try.prog W 0 (fun _ => true) true Try.f11.params.toList args.toList ds p := hA0
  rw [Try.params11] at hA hval
  obtain ⟨v0, d0, rfl, rfl, h0⟩ := trodAll_one hA
  obtain ⟨rfl, rfl⟩ := trodVars_none hV
  have hv0 := hval 0 69 v0 rfl rfl
  obtain ⟨a0, len, cap, rfl⟩ := okWide_slice Try.underlying69 hv0
  have h0k := h0
  obtain ⟨fuel, hf⟩ := h0
  clear hA0 hval0
  simp only [List.append_nil] at hW'
  have hlt : ∀ x ∈ p, x.block < W.heap.size := fun x hx => by simpa using hW'.lt x (by simp [hx])
  obtain ⟨L, rfl, hL, hlc, hcm⟩ := open_lists (by simpa [Value.cells] using hf)
  refine (merges_walk a0 L cap W hL hlc hcm).mono fun e W' ⟨he, hn⟩ => ?_
  subst he
  refine ⟨_, rfl, _, _, _, [], p, [], hW', ?_, ?_, rfl, hn.frame _, fun h => by cases h⟩
  · exact trodAll_mk1 (shut_bool Try.underlying4 true)
  · exact trodAll_mk1 (Below.trod Try.laidOut (by kernel_rfl) (of_decide_eq_true (by kernel_rfl)) h0k hn hlt)
theorem OrderMerges_holds : Rows.OrderMergesSaid :=
  OpenClaim.holds_of_wide 11 Try.f11 rfl rfl rfl rfl rfl rfl rfl ⟨rfl, rfl, rfl, rfl, rfl⟩ rfl rfl rfl rfl rfl (by kernel_rfl) Try.func11 (by kernel_rfl)
    (of_decide_eq_true (by kernel_rfl)) (by unfold Func.isWrapper; first | (rw [if_pos (by decide +kernel)]; kernel_rfl) | (rw [if_neg (by decide +kernel)]; exact ⟨rfl, rfl⟩))
    (fun os started H enc _ => orderMerges_lifted os started H enc)
#print axioms OrderMerges_holds
end Go.Proofs.Ytfdbimkddkohnaa
