/- The reference's functions on lists of timers: how many are before one; those due; a list with one more. -/
import Derived.Test.YtfdbimkddkohnaaTimL
namespace Go.Proofs.Ytfdbimkddkohnaa
open Go.RowKit
def nBefore (l : List Timer) (t : Timer) : Nat := l.countP fun x => x.lt t
def putL (l : List Timer) (t : Timer) : List Timer := l.take (nBefore l t) ++ [t] ++ l.drop (nBefore l t)
def dueL (l : List Timer) (now : Int) (due : Bool) : List Timer := l.filter fun x => decide (x.at_ ≤ now) == due
theorem nBefore_le (l : List Timer) (t : Timer) : nBefore l t ≤ l.length := List.countP_le_length
theorem nBefore_snoc (l : List Timer) (x t : Timer) : nBefore (l ++ [x]) t = nBefore l t + if x.lt t then 1 else 0 := by simp [nBefore, List.countP_cons]
theorem cells_one (x : Timer) : [x].flatMap Timer.cells = x.cells := by simp
theorem one_cell (l : List Timer) : ∀ v ∈ l.flatMap Timer.cells, v.oneCell' = true := by
  intro v hv
  obtain ⟨y, _, hy⟩ := List.mem_flatMap.1 hv
  simp only [Timer.cells, List.mem_cons, List.not_mem_nil, or_false] at hy
  rcases hy with rfl | rfl | rfl <;> rfl
theorem tm_src {w : World} {B : Nat} {A : Option Addr} {b o : Nat} {l : List Timer} (h : TmAt w B A l) (hA : A = some ⟨b, o, none⟩) : ∀ j u, (l.flatMap Timer.cells)[j]? = some u → w.cell? ((⟨b, o, none⟩ : Addr).add j) = some u := by
  subst hA
  exact tm_cells h
set_option maxRecDepth 100000 in
set_option maxHeartbeats 1000000 in
theorem find_any (A : Option Addr) (l : List Timer) (c : Nat) (t : Timer) (w : World) (h : TmAt w w.heap.size A l) (hl : l.length ≤ 1000000) :
    Calls Try.prog 41 #[.slice A l.length c, t.val] w fun e w' => e = .returned (.int .i64 (nBefore l t)) ∧ Below w.heap.size w w' := by
  unfold Timer.val
  go_enter Try.func41, Try.ntmps41
  go_wp2
  have hT0 : Blk (w.alloc (.cells #[.int .u64 t.at_, .int .u64 t.seq, .int .i64 t.place] 25)) w.heap.size 25 #[.int .u64 t.at_, .int .u64 t.seq, .int .i64 t.place] := Blk.new _ _ _
  go_loopw [5, 6] (fun n i wr => ∃ k : Nat, k ≤ l.length ∧ i = .int .i64 k ∧ n = .int .i64 (nBefore (l.take k) t) ∧ Blk wr w.heap.size 25 #[.int .u64 t.at_, .int .u64 t.seq, .int .i64 t.place] ∧ Below w.heap.size w wr) (fun _ i _ => l.length - (intOf i).toNat)
  case atStart => exact ⟨0, Nat.zero_le _, rfl, rfl, hT0, (Below.refl _ _).alloc (Nat.le_refl _) _⟩
  case round =>
    obtain ⟨k, hk, rfl, rfl, hT, hb⟩ := hrel
    clear hT0
    have hTc := hT.cell
    by_cases hlt : k < l.length
    · obtain ⟨b, o, rfl, hbb, c0, c1, c2⟩ := (h.below hb (Nat.le_refl _)) k hlt
      have hbw : b < wr.heap.size := Nat.lt_of_lt_of_le hbb hb.size
      have HS := Lib.hid (show nBefore (l.take (k + 1)) t = _ from by rw [take_snoc l k hlt, nBefore_snoc])
      have hn := nBefore_le (l.take k) t
      have hn2 : (l.take k).length ≤ 1000000 := by simp; omega
      generalize nBefore (l.take k) t = n at *
      generalize l[k] = x at *
      go_wp2
      refine still_tail 5 (by kernel_rfl) (by kernel_rfl) ?_
      simp only [List.take_succ_cons, List.take_zero, List.drop_succ_cons, List.drop_zero]
      repeat still_step
      refine wpStill_nil ?_
      go_wp2_with fail
      have hbd := before_any x t wr.drew
      unfold Timer.val at hbd
      refine hbd.mono ?_
      rintro e w2 ⟨rfl, hx⟩
      have hT2 : Blk w2 w.heap.size 25 #[.int .u64 t.at_, .int .u64 t.seq, .int .i64 t.place] := hT.drew.below hx hT.lt
      have hb2 : Below w.heap.size w w2 := hb.drew.trans (Below.mono hx hb.size)
      clear hx hT hTc c0 c1 c2 hb hbd
      cases hxt : x.lt t
      · rw [hxt] at HS
        clear hxt
        go_wp2_with fail
        go_roundw
        case rel => exact ⟨k + 1, by omega, by go_num, by rw [HS.out]; simp, hT2, hb2⟩
        case measure => simp [intOf]; omega
      · rw [hxt] at HS
        clear hxt
        go_wp2_with fail
        go_roundw
        case rel => exact ⟨k + 1, by omega, by go_num, by rw [HS.out]; go_num, hT2, hb2⟩
        case measure => simp [intOf]; omega
    · have ht : l.take k = l := List.take_of_length_le (by omega)
      rw [ht]
      clear ht
      go_wp2
      go_ret
      exact ⟨rfl, hb⟩

set_option maxRecDepth 100000 in
set_option maxHeartbeats 2000000 in
theorem due_any (A : Option Addr) (l : List Timer) (c : Nat) (now : Int) (due : Bool) (w : World) (h : TmAt w w.heap.size A l) (hl : l.length ≤ 1000000) :
    Calls Try.prog 43 #[.slice A l.length c, .int .u64 now, .bool due] w fun e w' => ∃ v, e = .returned v ∧ OwnT w' w.heap.size v (dueL l now due) ∧ Below w.heap.size w w' := by
  obtain ⟨i0, hi, hz0, hz1, hz2⟩ := info_parts info_timer
  go_enter Try.func43, Try.ntmps43
  go_wp2
  go_loopw [7, 8] (fun v i wr => ∃ k : Nat, k ≤ l.length ∧ i = .int .i64 k ∧ OwnT wr w.heap.size v (dueL (l.take k) now due) ∧ Below w.heap.size w wr) (fun _ i _ => l.length - (intOf i).toNat)
  case atStart => exact ⟨0, Nat.zero_le _, rfl, OwnT.nil _ _, Below.refl _ _⟩
  case round =>
    obtain ⟨k, hk, rfl, hown, hb⟩ := hrel
    by_cases hlt : k < l.length
    · obtain ⟨b, o, rfl, hbb, c0, c1, c2⟩ := (h.below hb (Nat.le_refl _)) k hlt
      have hbw : b < wr.heap.size := Nat.lt_of_lt_of_le hbb hb.size
      have hdl : (dueL (l.take k) now due).length ≤ 1000000 := Nat.le_trans (List.length_filter_le _ _) (by simp; omega)
      have HS := Lib.hid (show dueL (l.take (k + 1)) now due = dueL (l.take k) now due ++ if decide (l[k].at_ ≤ now) == due then [l[k]] else [] from by rw [take_snoc l k hlt]; simp only [dueL, List.filter_append, List.filter_cons, List.filter_nil])
      generalize dueL (l.take k) now due = d at *
      generalize l[k] = x at *
      cases hd : decide (x.at_ ≤ now) == due
      · rw [hd] at HS
        go_wp2
        go_roundw
        case rel => exact ⟨k + 1, by omega, by go_num, by have := HS.out; simp at this; rw [this]; exact hown, hb⟩
        case measure => simp [intOf]; omega
      · rw [hd] at HS
        have hwl := hb.size
        go_wp2_with (at_builtin; refine wpList_append_own _ rfl _ _ 33 rfl w.heap.size 25 i0 (.agg #[.int .u64 0, .int .u64 0, .int .i64 0]) 3 24 Try.underlying33 hi hz0 hz1 hz2 rfl (by decide) _ _ _ rfl (hown.alloc _) ⟨wr.heap.size, 0, none⟩ 1 1 x.cells rfl ?c0 ?c1 ?c2 ?c3 ?c4 ?c5 ?_)
        case c0 => rfl
        case c1 => first | exact cells_new _ _ x.cells | exact fun _ _ h => h
        case c2 => intro v hv; exact one_cell [x] v (by rw [cells_one]; exact hv)
        case c3 => unfold maxLen; omega
        case c4 => omega
        case c5 => first | omega | (simp; omega)
        intro v2 w2 hown2 hgr2 _
        have hb2 := below_app hb hown hgr2 hb.size (Nat.le_refl _)
        have hown3 : OwnT w2 w.heap.size v2 (dueL (l.take (k + 1)) now due) := by
          have := HS.out
          simp only [if_pos] at this
          unfold OwnT
          rw [this]
          simpa using hown2
        clear hgr2 hown hown2 hb c0 c1 c2 hd
        go_wp2
        go_roundw
        case rel => exact ⟨k + 1, by omega, by go_num, hown3, hb2⟩
        case measure => simp [intOf]; omega
    · have ht : l.take k = l := List.take_of_length_le (by omega)
      rw [ht] at hown
      clear ht
      go_wp2
      go_ret
      exact ⟨_, rfl, hown, hb⟩
end Go.Proofs.Ytfdbimkddkohnaa
