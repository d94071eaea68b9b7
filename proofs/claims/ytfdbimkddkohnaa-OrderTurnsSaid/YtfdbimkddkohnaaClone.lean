/- Order: slices.Clone of timers. -/
import Derived.Test.YtfdbimkddkohnaaOrd
namespace Go.Proofs.Ytfdbimkddkohnaa
open Go.RowKit

theorem tm_src' {w : World} {a : Addr} {l : List Timer} (h : TmAt w w.heap.size (some a) l) (o : Obj) : ∀ j u, (l.flatMap Timer.cells)[j]? = some u → (w.alloc o).cell? (a.add j) = some u := by
  cases l with
  | nil => intro j u hj; simp at hj
  | cons x l =>
    obtain ⟨b, off, e, _⟩ := h 0 (by simp)
    injection e with e
    subst e
    exact tm_src (h.on ((Below.refl _ _).alloc (Nat.le_refl _) o)) rfl
theorem eql_nil (w : World) (a : Option Addr) (n c n' c' : Nat) : (binOp .eql 33 (.slice a n c) (.slice none n' c')).run Try.prog w = .ok (.bool a.isNone) w := Lib.run_eql_slice_nil w _ _ a n c n' c' Try.underlying33
/-- A list of timers lies at v; of where an empty one points nothing is asked. -/
def LW (w : World) (v : Value) (l : List Timer) : Prop := ∃ A c, v = .slice A l.length c ∧ TmAt w w.heap.size A l ∧ l.length ≤ c ∧ c ≤ maxLen ∧ (A = none → c = 0)
theorem LAt.lw {w : World} {v : Value} {l : List Timer} (h : LAt w v l) : LW w v l := by
  obtain ⟨A, c, h1, h2, h3, h4, h5, _⟩ := h
  exact ⟨A, c, h1, h2, h3, h4, h5⟩
theorem LW.on {x y : World} {v : Value} {l : List Timer} (h : LW x v l) (k : Below x.heap.size x y) : LW y v l := by
  obtain ⟨A, c, h1, h2, h3, h4, h5⟩ := h
  exact ⟨A, c, h1, h2.on k, h3, h4, h5⟩
set_option maxRecDepth 100000 in
set_option maxHeartbeats 2000000 in
theorem clone_any (v : Value) (l : List Timer) (w : World) (h : LW w v l) (hl : l.length ≤ 1000000) :
    Calls Try.prog 54 #[v] w fun e w' => ∃ v', e = .returned v' ∧ OwnT w' w.heap.size v' l ∧ Below w.heap.size w w' := by
  obtain ⟨i0, hi, hz0, hz1, hz2⟩ := info_parts info_timer
  obtain ⟨A, c, rfl, hT, hc, hm, hA⟩ := h
  cases A with
  | none =>
    have hl0 : l = [] := by
      have := hA rfl
      cases l with
      | nil => rfl
      | cons x l => simp at hc; omega
    subst hl0
    have hq := eql_nil
    go_enter Try.func54, Try.ntmps54
    go_wp2
    go_ret
    exact ⟨_, rfl, OwnT.nil _ _, Below.refl _ _⟩
  | some a =>
    have hsrc := tm_src' hT (.cells #[] 25)
    have hq := eql_nil
    have hmade : (w.alloc (.cells #[] 25)).ownsRow w.heap.size 25 3 (.slice (some ⟨w.heap.size, 0, none⟩) 0 0) 0 [] := World.ownsRow_made w #[] 0 (Nat.le_refl _) (Nat.zero_le _) rfl
    clear hT
    go_enter Try.func54, Try.ntmps54
    go_wp2_with (at_builtin; refine wpList_append_own _ rfl _ _ 33 rfl w.heap.size 25 i0 (.agg #[.int .u64 0, .int .u64 0, .int .i64 0]) 3 24 Try.underlying33 hi hz0 hz1 hz2 rfl (by decide) _ _ _ rfl hmade a l.length c (l.flatMap Timer.cells) rfl ?c0 ?c1 ?c2 ?c3 ?c4 ?c5 ?_)
    case c0 => exact flat_len l
    case c1 => exact hsrc
    case c2 => exact one_cell l
    case c3 => unfold maxLen; omega
    case c4 => omega
    case c5 => simp
    intro v2 w2 hown2 hgr2 _
    have hb2 : Below w.heap.size w w2 := ⟨hgr2.os, hgr2.tape, hgr2.output, Nat.le_trans (by simp) hgr2.size, fun k hk => (hgr2.block k (by simp; omega) (by simp [Value.ownBlock]; omega)).trans (Below.heap_alloc _ _ _ hk)⟩
    have hown3 : OwnT w2 w.heap.size v2 l := by
      unfold OwnT
      simpa using hown2
    clear hgr2 hown2 hmade hsrc hi hz0 hz1 hz2 hq
    go_wp2
    go_ret
    exact ⟨_, rfl, hown3, hb2⟩
end Go.Proofs.Ytfdbimkddkohnaa
