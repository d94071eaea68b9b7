/- Order: an input slice of bytes, opened. -/
import Derived.Test.YtfdbimkddkohnaaOrdRow
import Derived.Test.YtfdbimkddkohnaaLawTu
namespace Go.Proofs.Ytfdbimkddkohnaa
open Go.ChangeShapes Go.WideShapes Go.ChangeAt Go.RowKit Go.Deep
theorem open_bytes {H : Type} {enc : TypeId × Value → H} {W : World} {fuel : Nat} {a0 : Option Addr} {len cap : Nat} {x : DataW H × List MemPlace}
    (h : DataW.trod enc Try.prog W 0 (fun _ => true) true fuel 66 [.slice a0 len cap] = some x) :
    ∃ l : List Int, l.length = len ∧ BytesAt W W.heap.size a0 l ∧ l.length ≤ 9223372036854775807 := by
  rcases open_scal Try.underlying66 Try.underlying5 (by kernel_rfl) h with ⟨h0, _⟩ | ⟨a, len', cap', el, sp, hcs, hlc, hm, hd, hel, hi⟩
  · simp only [List.cons.injEq, Value.slice.injEq, and_true] at h0
    obtain ⟨rfl, rfl, rfl⟩ := h0
    exact ⟨[], rfl, fun i hi => absurd hi (by simp), by simp⟩
  · simp only [List.cons.injEq, Value.slice.injEq, and_true] at hcs
    obtain ⟨rfl, rfl, rfl⟩ := hcs
    obtain ⟨l, hl, hq⟩ := list_of len hi
    refine ⟨l, hl, ?_, by unfold maxLen at hm; omega⟩
    intro i hil
    obtain ⟨c, hwf⟩ := hq i hil
    have hz := (hq 0 (by omega)).1
    have hs : a = ⟨a.block, a.off, none⟩ := by
      have := spot_none hz
      simpa [Addr.add] using this
    have hb := block_lt hz
    have hb' : a.block < W.heap.size := by simpa [Addr.add] using hb
    have e : ∀ k, a.add k = ⟨a.block, a.off + k, none⟩ := by
      intro k
      unfold Addr.add
      split
      · rename_i hk; subst hk; exact hs
      · rfl
    rw [e] at c
    have h1 : IntKind.u8.min = 0 := rfl
    have h2 : IntKind.u8.max = 255 := rfl
    simp only [Lit.wf, Bool.and_eq_true, decide_eq_true_eq] at hwf
    exact ⟨a.block, a.off, congrArg some hs, hb', c, by omega, by omega⟩
end Go.Proofs.Ytfdbimkddkohnaa
