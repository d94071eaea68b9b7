/- The document's answer for layer 14: the good ones of a list. -/
import Derived.Test.YtifoeddeofhclaaLoadRef
namespace Go.Proofs.Ytifoeddeofhclaa
open Go.RowKit
theorem info_note : (Try.prog.info? 29).map (fun i => (i.zero, i.size, i.bytes)) = some (some (.agg #[.int .i64 0, .int .i64 0, .int .i64 0]), 3, 24) := by kernel_rfl
theorem goods_snoc (l : List Note) (x : Note) : goods (l ++ [x]) = if x.wrong = 0 then goods l ++ [x] else goods l := by
  unfold goods
  rw [List.filter_append]
  by_cases h : x.wrong = 0
  · rw [if_pos h]
    have := x.wrong_good.1 h
    simp [this]
  · rw [if_neg h]
    have : ¬ x.good := fun hg => h (x.wrong_good.2 hg)
    simp [this]
theorem f11 (A : Option Addr) (l : List Note) (cap : Nat) (w : World) (h : NotesAt w w.heap.size A l) (hl : l.length * 24 ≤ 140737488351232) :
    Calls Try.prog 11 #[.slice A l.length cap] w fun e w' =>
      ∃ v, e = .returned v ∧ w'.ownsRow w.heap.size 29 3 v (goods l).length ((goods l).flatMap Note.cells) ∧ Below w.heap.size w w' := by
  obtain ⟨i0, hi, hz0, hz1, hz2⟩ := info_parts info_note
  go_enter Try.func11, Try.ntmps11
  go_wp2
  go_loopw [3, 4] (fun v i wr => ∃ k : Nat, k ≤ l.length ∧ i = .int .i64 k ∧ wr.ownsRow w.heap.size 29 3 v (goods (l.take k)).length ((goods (l.take k)).flatMap Note.cells) ∧ Below w.heap.size w wr) (fun _ i _ => l.length - (intOf i).toNat)
  case atStart => exact ⟨0, Nat.zero_le _, rfl, ⟨by simp [goods], .inl ⟨rfl, rfl⟩⟩, Below.refl _ _⟩
  case round =>
    obtain ⟨k, hk, rfl, hown, hb⟩ := hrel
    by_cases hlt : k < l.length
    · obtain ⟨b, o, rfl, hbb, c0, c1, c2⟩ := (h.below hb) k hlt
      have hG := goods_snoc (l.take k) l[k]
      rw [← take_snoc l k hlt] at hG
      have hgl : (goods (l.take k)).length ≤ k := by
        have := List.length_filter_le (fun x : Note => decide x.good) (l.take k)
        simp only [List.length_take] at this
        unfold goods
        omega
      go_wp2_with fail
      refine (f10 l[k] wr).mono ?_
      rintro e w1 ⟨rfl, hb1⟩
      have d0 := (hb1.cell (p := ⟨b, o + k * 3, none⟩) (by have := hb.size; simp; omega)).trans c0
      have d1 := (hb1.cell (p := ⟨b, o + k * 3 + 1, none⟩) (by have := hb.size; simp; omega)).trans c1
      have d2 := (hb1.cell (p := ⟨b, o + k * 3 + 2, none⟩) (by have := hb.size; simp; omega)).trans c2
      have hown1 := ownsRow_keep (w' := w1) hown (fun g hg _ => hb1.block g hg)
      have hb2 : Below w.heap.size w w1 := hb.trans (hb1.mono hb.size)
      have hsz := hb2.size
      clear hb1 hown c0 c1 c2 hb
      by_cases hw : l[k].wrong = 0
      · rw [if_pos hw] at hG
        rw [hw]
        have HG := Lib.hid hG
        clear hG hw
        go_wp2_with (at_builtin; refine wpList_append_own _ rfl _ _ 22 rfl w.heap.size 29 i0 (.agg #[.int .i64 0, .int .i64 0, .int .i64 0]) 3 24 Try.underlying22 hi hz0 hz1 hz2 rfl (by decide) _ _ _ rfl (hown1.alloc _) ⟨w1.heap.size, 0, none⟩ 1 1 l[k].cells rfl rfl ?c1 ?c2 ?c3 ?c4 ?c5 ?_)
        case c1 => exact cells_new _ _ l[k].cells
        case c2 => simp [Note.cells, Value.oneCell']
        case c3 => unfold maxLen; omega
        case c4 => omega
        case c5 => simp; omega
        intro v2 w2 hown2 hgr2 _
        have hb3 := below_app hb2 hown1 hgr2 hsz (Nat.le_refl _)
        clear hgr2 hown1 hb2 d0 d1 d2
        go_wp2
        go_roundw
        case rel => exact ⟨k + 1, by omega, by go_num, by rw [HG.out, list_cat, List.length_append]; exact hown2, hb3⟩
        case measure => simp [intOf]; omega
      · rw [if_neg hw] at hG
        have hw1 : (l[k].wrong == 0) = false := by simpa using hw
        have HG := Lib.hid hG
        clear hG hw
        go_wp2
        go_roundw
        case rel => exact ⟨k + 1, by omega, by go_num, by rw [HG.out]; exact hown1, hb2⟩
        case measure => simp [intOf]; omega
    · have ht : l.take k = l := List.take_of_length_le (by omega)
      rw [ht] at hown
      clear ht
      go_wp2
      go_ret
      exact ⟨_, rfl, hown, hb⟩
end Go.Proofs.Ytifoeddeofhclaa
