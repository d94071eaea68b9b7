/- Layer 14 (load): an input slice of notes, opened; the row of LoadPlays. -/
import Derived.Test.YtifoeddeofhclaaRow
import Derived.Test.YtifoeddeofhclaaLoadPlays
namespace Go.Proofs.Ytifoeddeofhclaa
open Go.ChangeShapes Go.WideShapes Go.ChangeAt Go.RowKit Go.Deep
theorem bytesN : Try.prog.bytesOf 29 = 24 := by kernel_rfl
theorem open_notes {H : Type} {enc : TypeId × Value → H} {W : World} {fuel : Nat} {a0 : Option Addr} {len cap : Nat} {d : DataW H} {p : List MemPlace}
    (h : DataW.trod enc Try.prog W 0 (fun _ => true) true fuel 22 [.slice a0 len cap] = some (d, p))
    (hr : ∀ el sp, d = .slice el sp → (el.length + sp.length) * Try.prog.bytesOf 29 ≤ reachBytes) :
    ∃ l : List Note, l.length = len ∧ NotesIn W a0 l cap := by
  rcases open_rows Try.underlying22 Try.underlying29 (by kernel_rfl) (by kernel_rfl) h with ⟨h0, _⟩ | ⟨a, len', cap', el, sp, hcs, hlc, hm, hd, hel, hi⟩
  · simp only [List.cons.injEq, Value.slice.injEq, and_true] at h0
    obtain ⟨rfl, rfl, rfl⟩ := h0
    exact ⟨[], rfl, NotesAt.nil, by simp, by omega, by simp⟩
  · simp only [List.cons.injEq, Value.slice.injEq, and_true] at hcs
    obtain ⟨rfl, rfl, rfl⟩ := hcs
    have hrr := hr el sp hd
    rw [bytesN, hel] at hrr
    have hrr2 : len * 24 ≤ 140737488351232 := by unfold reachBytes at hrr; omega
    have hcell : ∀ i, i < len → ∃ x : Note, W.cell? (a.add (i * 3 + 0)) = some (.int .i64 x.what) ∧ W.cell? (a.add (i * 3 + 1)) = some (.int .i64 x.n) ∧ W.cell? (a.add (i * 3 + 2)) = some (.int .i64 x.len) := by
      intro i hil
      obtain ⟨v0, y0, n0, c0, t0⟩ := hi i hil 0 _ rfl
      obtain ⟨v1, y1, n1, c1, t1⟩ := hi i hil 1 _ rfl
      obtain ⟨v2, y2, n2, c2, t2⟩ := hi i hil 2 _ rfl
      obtain ⟨m0, e0, _⟩ := DataW.trod_int Try.underlying3 t0
      obtain ⟨m1, e1, _⟩ := DataW.trod_int Try.underlying3 t1
      obtain ⟨m2, e2, _⟩ := DataW.trod_int Try.underlying3 t2
      simp only [List.cons.injEq, and_true] at e0 e1 e2
      subst e0 e1 e2
      exact ⟨⟨m0, m1, m2⟩, c0, c1, c2⟩
    obtain ⟨l, hl, hq⟩ := list_of len hcell
    refine ⟨l, hl, ?_, by omega, by unfold maxLen at hm; exact hm, by rw [hl]; exact hrr2⟩
    intro i hil
    obtain ⟨c0, c1, c2⟩ := hq i hil
    have hz := (hq 0 (by omega)).1
    have hs : a = ⟨a.block, a.off, none⟩ := by
      have := spot_none hz
      simpa [Addr.add] using this
    have hb := block_lt hz
    have hb' : a.block < W.heap.size := by simpa [Addr.add] using hb
    have e : ∀ k, a.add k = ⟨a.block, a.off + k, none⟩ := by
      intro k
      unfold Addr.add
      split
      · rename_i hk; subst hk; exact hs
      · rfl
    rw [e] at c0 c1 c2
    exact ⟨a.block, a.off, congrArg some hs, hb', c0, c1, c2⟩
set_option maxRecDepth 100000 in
theorem plays_lifted (os : Os) (started : os.Started) (H : Type) (enc : TypeId × Value → H) :
    ReturnsInHanded {} Try.checked os 3 .any (Rows.loadPlaysSpec.pre6 enc Try.prog Try.f3 Rows.loadPlaysRow.domain false) (Rows.loadPlaysSpec.post enc Try.prog Try.f3 false true false false) := by
  refine returnsInHanded_of_change_sized (C := Try.checked) Try.own started (by kernel_rfl) Try.func3
    (ChangeSpec.witness6 (enc := enc) (C := Try.checked) false ⟨#[], #[.slice none 0 0, .int .i64 0], []⟩ 8 (by kernel_rfl) (by kernel_rfl) (by kernel_rfl) (by kernel_rfl)) ?_
  intro W base args ds gs before hval0 hW _ hsz0 _
  have hsz : (DataW.weightsEach Try.prog (Try.f3.params.toList ++ Rows.loadPlaysSpec.plain.varTypes Try.prog) (ds ++ gs)).all (· ≤ reachBytes) = true := hsz0
  clear hsz0
  have hval : ∀ (j : Nat) t v, Try.f3.params[j]? = some t → args[j]? = some v → Value.okWide Try.prog W .any base t v := hval0
  have hW' := hW
  obtain ⟨p, q, hA0, hV, rfl, _, _⟩ := hW
  have hA : DataW.TrodAll enc Try.prog W 0 (fun _ => true) true Try.f3.params.toList args.toList ds p := hA0
  rw [Try.params3] at hA hval hsz
  obtain ⟨v0, v1, d0, d1, p0, p1, rfl, rfl, rfl, h0, h1⟩ := trodAll_two hA
  obtain ⟨rfl, rfl⟩ := trodVars_none hV
  obtain ⟨m, rfl, rfl, rfl, wm⟩ := open_int Try.underlying3 (hval 1 3 v1 rfl rfl) h1
  obtain ⟨a0, len, cap, rfl⟩ := okWide_slice Try.underlying22 (hval 0 22 v0 rfl rfl)
  have h0k := h0
  obtain ⟨fuel, hf⟩ := h0
  clear hA0 hval0
  simp only [List.append_nil] at hW'
  have hlt : ∀ x ∈ p0, x.block < W.heap.size := fun x hx => by simpa using hW'.lt x (by simp [hx])
  obtain ⟨l, rfl, hl⟩ := open_notes (by simpa [Value.cells] using hf) (fun el sp e => by subst e; exact sized_slice hsz (j := 0) (t := 22) (e := 29) rfl rfl Try.underlying22)
  refine (plays_walk a0 l cap m W hl).mono fun e W' ⟨he, hn⟩ => ?_
  subst he
  refine ⟨_, rfl, _, _, _, [], p0 ++ [], [], hW', ?_, ?_, rfl, hn.frame _, fun h => by cases h⟩
  · exact trodAll_mk1 (shut_bool Try.underlying4 true)
  · exact trodAll_mk2 (Below.trod Try.laidOut (by kernel_rfl) (of_decide_eq_true (by kernel_rfl)) h0k hn hlt) (shut_int Try.underlying3 wm)
theorem LoadPlays_holds : Rows.LoadPlaysSaid :=
  OpenClaim.holds_of_wide 3 Try.f3 rfl rfl rfl rfl rfl rfl rfl ⟨rfl, rfl, rfl, rfl, rfl⟩ rfl rfl rfl rfl rfl (by kernel_rfl) Try.func3 (by kernel_rfl)
    (of_decide_eq_true (by kernel_rfl)) (by unfold Func.isWrapper; first | (rw [if_pos (by decide +kernel)]; kernel_rfl) | (rw [if_neg (by decide +kernel)]; exact ⟨rfl, rfl⟩))
    (fun os started H enc _ => plays_lifted os started H enc)
#print axioms LoadPlays_holds
end Go.Proofs.Ytifoeddeofhclaa
