/- Layer 2 (bitmap): what the condition on the library's table gives; an argument of four words, opened. -/
import Derived.Test.YtifoeddeofhclaaDoorRow
import Derived.Test.YtifoeddeofhclaaDoorBits2
import Derived.Test.YtifoeddeofhclaaDoorTie
import Derived.Test.YtifoeddeofhclaaDoorCards
import Derived.LaidMore
import Derived.OpenShut
import Derived.Stop.Joined
import Derived.SevenTiedAt
namespace Go.Proofs.YtifoeddeofhclaaDoor
open Go.ChangeShapes Go.WideShapes Go.ChangeAt Go.RowKit Go.Deep
theorem gTab : Tryd.prog.globalNamed "math/bits.deBruijn64tab" = some 0 := by kernel_rfl
theorem tTab : (Tryd.prog.globals[0]?).map (·.type) = some 50 := by kernel_rfl
def laidL : List (String × DataW Unit) := [("math/bits.deBruijn64tab", Rows.laid_math_bits_deBruijn64tab)]
theorem laid_tab : (Rows.laid_math_bits_deBruijn64tab : DataW Unit) = .agg (tabL.map fun n : Nat => .lit (.int .u8 (n : Int))) := by kernel_rfl
theorem cells8 : Tryd.prog.cellsOf 5 = 1 := by kernel_rfl
theorem of_laid {W : World} (h : laidMetH Tryd.prog laidL W) : TabAt W := by
  rw [MakeChecks.laidMetH_plain _ _ _ (by kernel_rfl)] at h
  obtain ⟨ps, ⟨g0, t0, cs0, f0, p0, q0, hg0, ht0, hv0, hd0, _, _⟩, _, _⟩ := h
  obtain rfl := Option.some.inj (gTab.symm.trans hg0)
  obtain rfl := Option.some.inj (tTab.symm.trans ht0)
  obtain ⟨xs, m1, rfl, hx, hlen, hn, hel⟩ := DataW.trod_array Tryd.underlying50 hd0
  simp only [Prod.mk.injEq] at hx
  have hx1 := hx.1
  rw [laid_tab] at hx1
  injection hx1 with hx1
  intro j hj
  have hel := hel j hj
  have hj' : j < xs.length := by omega
  rw [List.getElem?_eq_getElem hj'] at hel
  obtain ⟨k, e1, e2, _⟩ := DataW.trod_int Tryd.underlying5 hel
  have h3 : (tabL.map fun n : Nat => DataW.lit (H := Unit) (.int .u8 (n : Int)))[j]? = (xs.map (·.1))[j]? := by rw [hx1]
  have htl : j < tabL.length := by simpa [tabL] using hj
  rw [List.getElem?_map, List.getElem?_map, List.getElem?_eq_getElem hj', List.getElem?_eq_getElem htl] at h3
  simp only [Option.map_some, Option.some.injEq] at h3
  rw [e2] at h3
  simp only [DataW.lit.injEq, Lit.int.injEq, true_and] at h3
  have hc := World.var?_cell hg0 hv0 j
  rw [hc]
  rw [cells8, Nat.mul_one] at e1
  have h4 : cs0.toList[j]? = some (.int .u8 k) := by
    have := congrArg (·[0]?) e1
    simpa [List.getElem?_take, List.getElem?_drop] using this
  rw [Array.getElem?_toList] at h4
  rw [h4, ← h3]
  simp [htl]
theorem door_met (os : Os) (args : Array Value) : laidMetH Tryd.prog laidL ((World.doorLaid Tryd.prog 14 os).forCall (fun _ _ => 0) ⟨#[], args, []⟩).memory :=
  laidMetH_of_parts (laidMet_of_run' 8 (by kernel_rfl) (by kernel_rfl)) (by kernel_rfl)
theorem open_bits {H : Type} {enc : TypeId × Value → H} {W : World} {v : Value} {d : DataW H} {p : List MemPlace} (h : DataW.Trod enc Tryd.prog W 0 (fun _ => true) true 24 v d p) :
    ∃ b : Bits, b.Ok ∧ v = b.val := by
  obtain ⟨fuel, h⟩ := h
  obtain ⟨xs, m1, rfl, hx, hlen, hn, hel⟩ := DataW.trod_array Tryd.underlying24 h
  have c4 : Tryd.prog.cellsOf 24 = 4 := by kernel_rfl
  have c1 : Tryd.prog.cellsOf 22 = 1 := by kernel_rfl
  rw [c4] at hlen
  have one : ∀ i, i < 4 → ∃ k : Nat, k < 2 ^ 64 ∧ v.cells[i]? = some (.int .u64 k) := by
    intro i hi
    have hel := hel i hi
    have hj' : i < xs.length := by omega
    rw [List.getElem?_eq_getElem hj'] at hel
    obtain ⟨k, e1, e2, hw⟩ := DataW.trod_int Tryd.underlying22 hel
    rw [c1, Nat.mul_one] at e1
    have h4 : v.cells[i]? = some (.int .u64 k) := by
      have := congrArg (·[0]?) e1
      simpa [List.getElem?_take, List.getElem?_drop] using this
    have hk : 0 ≤ k ∧ k < 18446744073709551616 := by
      simp [Lit.wf, IntKind.min, IntKind.max, IntKind.bits, IntKind.signed] at hw
      omega
    refine ⟨k.toNat, by omega, ?_⟩
    rw [h4]
    congr 2
    omega
  obtain ⟨k0, l0, e0⟩ := one 0 (by omega)
  obtain ⟨k1, l1, e1⟩ := one 1 (by omega)
  obtain ⟨k2, l2, e2⟩ := one 2 (by omega)
  obtain ⟨k3, l3, e3⟩ := one 3 (by omega)
  have hv : v.cells.toList = [.int .u64 k0, .int .u64 k1, .int .u64 k2, .int .u64 k3] := by
    rw [← Array.getElem?_toList] at e0 e1 e2 e3
    match hc : v.cells.toList, hlen with
    | [a, b, c, d], _ =>
      rw [hc] at e0 e1 e2 e3
      simp at e0 e1 e2 e3
      rw [e0, e1, e2, e3]
  refine ⟨⟨k0, k1, k2, k3⟩, ⟨l0, l1, l2, l3⟩, ?_⟩
  cases v <;> simp [Value.cells] at hv
  rename_i cs
  unfold Bits.val
  congr 1
  rw [← Array.toArray_toList (xs := cs), hv]
end Go.Proofs.YtifoeddeofhclaaDoor
