/- Layer 2 (bitmap): the law BitmapLists: its row, and its tied card: for every input it returns true. Conditions: as the given row lists them (the library's table reads as the program's text lays it; the tie pays that). -/
import Derived.Test.YtifoeddeofhclaaDoorBitRow
import Derived.Test.YtifoeddeofhclaaDoorLawTwo
namespace Go.Proofs.YtifoeddeofhclaaDoor
open Go.ChangeShapes Go.WideShapes Go.ChangeAt Go.RowKit Go.Deep

theorem open_ints {H : Type} {enc : TypeId × Value → H} {W : World} {fuel : Nat} {a0 : Option Addr} {len cap : Nat} {x : DataW H × List MemPlace}
    (h : DataW.trod enc Tryd.prog W 0 (fun _ => true) true fuel 30 [.slice a0 len cap] = some x) : ∃ l : List Int, l.length = len ∧ IntsAt W W.heap.size a0 l := by
  rcases open_scal Tryd.underlying30 Tryd.underlying3 (by kernel_rfl) h with ⟨h0, _⟩ | ⟨a, len', cap', el, sp, hcs, hlc, hm, hd, hel, hi⟩
  · simp only [List.cons.injEq, Value.slice.injEq, and_true] at h0
    obtain ⟨rfl, rfl, rfl⟩ := h0
    exact ⟨[], rfl, fun k hk => absurd hk (by simp)⟩
  · simp only [List.cons.injEq, Value.slice.injEq, and_true] at hcs
    obtain ⟨rfl, rfl, rfl⟩ := hcs
    obtain ⟨l, hl, hq⟩ := list_of (α := Int) (Q := fun i n => W.cell? (a.add i) = some (.int .i64 n)) len fun i hil => by
      obtain ⟨n, h1, _⟩ := hi i hil
      exact ⟨n, h1⟩
    refine ⟨l, hl, fun k hk => ?_⟩
    have hk' := hq k hk
    have hz := hq 0 (by omega)
    have hs : a = ⟨a.block, a.off, none⟩ := by
      have := spot_none hz
      simpa [Addr.add] using this
    have hb' : a.block < W.heap.size := by simpa [Addr.add] using block_lt hz
    have e : a.add k = ⟨a.block, a.off + k, none⟩ := by
      unfold Addr.add
      split
      · rename_i hk; subst hk; exact hs
      · rfl
    rw [e] at hk'
    exact ⟨a.block, a.off, congrArg some hs, hb', hk'⟩
set_option maxRecDepth 100000 in
theorem bitmapLists_lifted (os : Os) (started : os.Started) (H : Type) (enc : TypeId × Value → H) :
    ReturnsInHanded {} Tryd.checked os 4 .any (fun w args => (Rows.bitmapListsSpec.pre enc Tryd.prog Tryd.f4 [] false w args ∧ laidMetH Tryd.prog laidL w) ∧ sizedMet enc Tryd.prog Tryd.f4 (OpenSpec.ofChange Rows.bitmapListsSpec) false w args)
      (Rows.bitmapListsSpec.post enc Tryd.prog Tryd.f4 false true false false) := by
  refine returnsInHanded_of_change_and (C := Tryd.checked) (X := fun w _ => laidMetH Tryd.prog laidL w) (fun _ _ _ hh h => h.of_heap hh) Tryd.own started (by kernel_rfl) Tryd.func4
    (ChangeSpec.witness_shaped (enc := enc) (C := Tryd.checked) (os := os) (X := fun w _ => laidMetH Tryd.prog laidL w) false (World.doorLaid Tryd.prog 14 os) #[.agg #[.int .u64 0, .int .u64 0, .int .u64 0, .int .u64 0], .slice none 0 0] 8 rfl (World.shaped_of_RefB (by kernel_rfl) (by kernel_rfl)) (by kernel_rfl) (by kernel_rfl) (by kernel_rfl) (door_met os _)) ?_
  intro W base args ds gs before hval0 hW _ _ hL _
  have hT := of_laid hL
  have hval : ∀ (j : Nat) t v, Tryd.f4.params[j]? = some t → args[j]? = some v → Value.okWide Tryd.prog W .any base t v := hval0
  have hW' := hW
  obtain ⟨p, q, hA0, hV, rfl, _, _⟩ := hW
  have hA : DataW.TrodAll enc Tryd.prog W 0 (fun _ => true) true Tryd.f4.params.toList args.toList ds p := hA0
  rw [Tryd.params4] at hA hval
  obtain ⟨v0, v1, d0, d1, p0, p1, rfl, rfl, rfl, h0, h1⟩ := trodAll_two hA
  obtain ⟨rfl, rfl⟩ := trodVars_none hV
  obtain ⟨b, hb, rfl⟩ := open_bits h0
  obtain ⟨a0, len, cap, rfl⟩ := okWide_slice Tryd.underlying30 (hval 1 30 v1 rfl rfl)
  have h1k := h1
  obtain ⟨fuel, hf⟩ := h1
  obtain ⟨l, rfl, hl⟩ := open_ints (by simpa [Value.cells] using hf)
  simp only [List.append_nil] at hW'
  have hlt0 : ∀ x ∈ p0, x.block < W.heap.size := fun x hx => by simpa using hW'.lt x (by simp [hx])
  have hlt1 : ∀ x ∈ p1, x.block < W.heap.size := fun x hx => by simpa using hW'.lt x (by simp [hx])
  refine (lists_walk b a0 l cap W hb hT hl).mono fun e W' ⟨he, hn⟩ => ?_
  subst he
  refine ⟨_, rfl, _, _, _, [], p0 ++ p1, [], hW', ?_, ?_, rfl, hn.frame _, fun h => by cases h⟩
  · exact trodAll_mk1 (shut_bool Tryd.underlying4 true)
  · exact trodAll_mk2 (Below.trod Tryd.laidOut (by kernel_rfl) (of_decide_eq_true (by kernel_rfl)) h0 hn hlt0) (Below.trod Tryd.laidOut (by kernel_rfl) (of_decide_eq_true (by kernel_rfl)) h1k hn hlt1)
theorem bitmapLists_holds : Rows.BitmapListsSaid :=
  OpenClaim.holds_of_wide 4 Tryd.f4 rfl rfl rfl rfl rfl rfl rfl ⟨rfl, rfl, rfl, rfl, rfl⟩ rfl rfl rfl rfl rfl (by kernel_rfl) Tryd.func4 (by kernel_rfl)
    (of_decide_eq_true (by kernel_rfl)) (by unfold Func.isWrapper; first | (rw [if_pos (by decide +kernel)]; kernel_rfl) | (rw [if_neg (by decide +kernel)]; exact ⟨rfl, rfl⟩))
    (fun os started H enc _ => bitmapLists_lifted os started H enc)
theorem bitmapListsCard_holds : Rows.BitmapListsCardSaid :=
  Claim7.holds_tied_plain_at .later [] [.data] true (true, "1497e7170030331fe4f42a55982cf4f12677e93ef5b1d79e7dc4aab67e3c76d7") false
    bitmapLists_holds (fun _ h => by cases h) (by kernel_rfl) (fun _ h => by cases h) bitmapLists_row_tie rfl ⟨rfl, rfl⟩ (by kernel_rfl) rfl
    (fun f fn hf hfn => by
      obtain rfl : f = 4 := Option.some.inj ((show Tryd.prog.funcNamed "compline/complinelaw02.BitmapLists" = some 4 by kernel_rfl).symm.trans hf) |>.symm
      obtain rfl : fn = Tryd.f4 := (Option.some.inj (Tryd.func4.symm.trans hfn)).symm
      exact ⟨by kernel_rfl, fun j t ht => by
        rw [Tryd.params4] at ht
        have hm : t ∈ [24, 30] := by simpa using Array.mem_of_getElem? ht
        have hall : ([24, 30].all fun u => !Tryd.prog.wantsStandIn u) = true := by kernel_rfl
        exact (show Tryd.prog.wantsStandIn t = false by simpa using List.all_eq_true.1 hall t hm)⟩)
    (by kernel_rfl)
#print axioms bitmapListsCard_holds
end Go.Proofs.YtifoeddeofhclaaDoor
