/- The document's answer for layer 14: the open window of a list, and the window that was closed last. -/
import Derived.Test.YtifoeddeofhclaaLoadRef
namespace Go.Proofs.Ytifoeddeofhclaa
open Go.RowKit
theorem NotesAt.drop {w : World} {B b o : Nat} {l : List Note} (h : NotesAt w B (some ⟨b, o, none⟩) l) (n : Nat) : NotesAt w B (some ⟨b, o + n * 3, none⟩) (l.drop n) := by
  intro i hi
  simp only [List.length_drop] at hi
  obtain ⟨b', o', e, hb, c0, c1, c2⟩ := h (n + i) (by omega)
  simp only [Option.some.injEq, Addr.mk.injEq, and_true] at e
  obtain ⟨rfl, rfl⟩ := e
  have e1 : o + n * 3 + i * 3 = o + (n + i) * 3 := by omega
  refine ⟨b, o + n * 3, rfl, hb, ?_, ?_, ?_⟩
  · rw [e1, c0]; simp
  · rw [e1, c1]; simp
  · rw [e1, c2]; simp
theorem NotesAt.nil {w : World} {B : Nat} {A : Option Addr} : NotesAt w B A [] := fun i hi => absurd hi (by simp)
theorem NotesAt.take {w : World} {B : Nat} {A : Option Addr} {l : List Note} (h : NotesAt w B A l) (n : Nat) : NotesAt w B A (l.take n) := by
  intro i hi
  simp only [List.length_take] at hi
  obtain ⟨b', o', e, hb, c0, c1, c2⟩ := h i (by omega)
  refine ⟨b', o', e, hb, ?_, ?_, ?_⟩
  · rw [c0]; simp
  · rw [c1]; simp
  · rw [c2]; simp
def Sliced (w : World) (B : Nat) (l : List Note) (e : Ending) (w' : World) : Prop := ∃ A' cap', e = .returned (.slice A' l.length cap') ∧ NotesAt w B A' l ∧ w = w'
theorem notes_form {w : World} {B : Nat} {a : Addr} {l : List Note} (h : NotesAt w B (some a) l) (hl : l ≠ []) : ∃ b o, a = ⟨b, o, none⟩ := by
  cases l with
  | nil => exact absurd rfl hl
  | cons x l => obtain ⟨b, o, e, _⟩ := h 0 (by simp); exact ⟨b, o, Option.some.inj e⟩
theorem NotesAt.cut {w : World} {B : Nat} {a : Addr} {l : List Note} (h : NotesAt w B (some a) l) (n : Nat) : NotesAt w B (some (a.add (n * 3))) (l.drop n) := by
  by_cases hl : l = []
  · subst hl
    simpa using NotesAt.nil
  · obtain ⟨b, o, rfl⟩ := notes_form h hl
    have e : (⟨b, o, none⟩ : Addr).add (n * 3) = ⟨b, o + n * 3, none⟩ := by unfold Addr.add; split <;> simp_all
    rw [e]
    exact h.drop n
theorem f12 (A : Option Addr) (B : Nat) (l : List Note) (cap : Nat) (w : World) (hN : NotesAt w B A l) (hl : l.length ≤ 1000) (hc : l.length ≤ cap) (hc1 : cap ≤ 9223372036854775807) (hn : Hid (A = none → cap = 0)) :
    Calls Try.prog 12 #[.slice A l.length cap] w (Sliced w B (l.drop (l.length / 32 * 32))) := by
  cases A with
  | none =>
    have hl0 : l = [] := by
      cases l with
      | nil => rfl
      | cons x l => obtain ⟨b, o, e, _⟩ := hN 0 (by simp); cases e
    have := hn.out rfl
    subst hl0 this
    go_enter Try.func12, Try.ntmps12
    go_wp2
    go_ret
    exact ⟨none, 0, rfl, NotesAt.nil, rfl⟩
  | some a =>
    go_enter Try.func12, Try.ntmps12
    go_wp2
    · go_ret
      have hd : l.drop (l.length / 32 * 32) = [] := List.drop_eq_nil_of_le (by omega)
      refine ⟨some a, 0, ?_, ?_, rfl⟩
      · rw [List.length_drop]; rfl
      · rw [hd]; exact NotesAt.nil
    · go_ret
      refine ⟨some (a.add (l.length / 32 * 32 * 3)), cap - l.length / 32 * 32, ?_, ?_, rfl⟩
      · rw [List.length_drop]; rfl
      · exact hN.cut _
/-- The window that was closed last. -/
def lastOf (l : List Note) : List Note := (l.drop (l.length / 32 * 32 - 32)).take 32
def ltot (l : List Note) (k : Int) : Int := if l.length < 32 then 0 else total (lastOf l) k
def lmost (l : List Note) : Int := if l.length < 32 then 0 else mostOf (lastOf l)
theorem f14 (A : Option Addr) (B : Nat) (l : List Note) (cap : Nat) (w : World) (hN : NotesAt w B A l) (hB : B ≤ w.heap.size) (hl : l.length ≤ 1000) (hc : l.length ≤ cap) (_hc1 : cap ≤ 9223372036854775807) (hg : Hid (∀ x ∈ l, x.good)) :
    Calls Try.prog 14 #[.slice A l.length cap] w fun e w' => e = .returned (.tuple #[(.agg #[.int .i64 (ltot l 0), .int .i64 (ltot l 1), .int .i64 (ltot l 2), .int .i64 (ltot l 3), .int .i64 (lmost l)] : Value), .bool (decide (32 ≤ l.length))]) ∧ Below w.heap.size w w' := by
  by_cases hlt : l.length < 32
  · have hq : ((l.length : Int) / 32 * 32 == 0) = true := by simp; omega
    have hT : (.agg #[.int .i64 (ltot l 0), .int .i64 (ltot l 1), .int .i64 (ltot l 2), .int .i64 (ltot l 3), .int .i64 (lmost l)] : Value) = .agg #[.int .i64 0, .int .i64 0, .int .i64 0, .int .i64 0, .int .i64 0] := by simp [ltot, lmost, hlt]
    have hD : decide (32 ≤ l.length) = false := by simp; omega
    rw [hT, hD]
    clear hT hD
    go_enter Try.func14, Try.ntmps14
    go_wp2
    refine bodyPost_ret (v := .tuple #[.agg #[.int .i64 0, .int .i64 0, .int .i64 0, .int .i64 0, .int .i64 0], .bool false]) (by simp [results, Try.results14, go_sem]) rfl ⟨rfl, ?_⟩
    exact (Below.refl _ _).alloc (Nat.le_refl _) _
  · have hq : ((l.length : Int) / 32 * 32 == 0) = false := by simp; omega
    cases A with
    | none =>
      exfalso
      obtain ⟨b, o, e, _⟩ := hN 0 (by omega)
      cases e
    | some a =>
      have hT : (.agg #[.int .i64 (ltot l 0), .int .i64 (ltot l 1), .int .i64 (ltot l 2), .int .i64 (ltot l 3), .int .i64 (lmost l)] : Value) = .agg #[.int .i64 (total (lastOf l) 0), .int .i64 (total (lastOf l) 1), .int .i64 (total (lastOf l) 2), .int .i64 (total (lastOf l) 3), .int .i64 (mostOf (lastOf l))] := by simp [ltot, lmost, hlt]
      have hD : decide (32 ≤ l.length) = true := by simp; omega
      have hL : lastOf l = (l.drop (l.length / 32 * 32 - 32)).take 32 := rfl
      have hLl : (lastOf l).length = 32 := by rw [hL]; simp; omega
      have hLg : Hid (∀ x ∈ lastOf l, x.good) := fun x hx => hg.out x (List.mem_of_mem_drop (List.mem_of_mem_take hx))
      have hLN : NotesAt w B (some (a.add ((l.length / 32 * 32 - 32) * 3))) (lastOf l) := (hN.cut _).take 32
      rw [hT, hD]
      clear hT hD hL
      have HLl := Lib.hid hLl
      clear hLl
      go_enter Try.func14, Try.ntmps14
      go_wp2_with fail
      have e1 : l.length / 32 * 32 - (l.length / 32 * 32 - 32) = (lastOf l).length := by rw [HLl.out]; omega
      rw [e1]
      refine (f17 _ B _ _ _ (hLN.alloc hB _) (by rw [HLl.out]; omega) hLg (by simp; omega)).mono ?_
      rintro e w1 ⟨rfl, hb1⟩
      have hb2 := ((Below.refl w.heap.size w).alloc (Nat.le_refl _) (.cells #[.int .i64 0, .int .i64 0, .int .i64 0, .int .i64 0, .int .i64 0] 33)).trans (hb1.mono (by simp))
      have hK := (Blk.new w 33 #[.int .i64 0, .int .i64 0, .int .i64 0, .int .i64 0, .int .i64 0]).below hb1 (by simp)
      have hcell := hK.cell
      have hfro := hK.frozen
      clear hb1
      go_wp2_with fail
      refine bodyPost_ret (v := .tuple #[.agg #[.int .i64 (total (lastOf l) 0), .int .i64 (total (lastOf l) 1), .int .i64 (total (lastOf l) 2), .int .i64 (total (lastOf l) 3), .int .i64 (mostOf (lastOf l))], .bool true]) ?_ rfl ⟨rfl, ?_⟩
      · simp [results, Try.results14, go_sem, hcell]
      · exact ((((hb2.setCell (Nat.le_refl _) _).setCell (Nat.le_refl _) _).setCell (Nat.le_refl _) _).setCell (Nat.le_refl _) _).setCell (Nat.le_refl _) _
end Go.Proofs.Ytifoeddeofhclaa
