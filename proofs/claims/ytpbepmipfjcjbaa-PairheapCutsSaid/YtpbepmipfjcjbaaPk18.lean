/- Part 18: the texts AppT, laid end to end by a program. -/
import Derived.Laws.AppendOwnNone
import Derived.Test.YtpbepmipfjcjbaaPk17
namespace Go.Proofs.Ytpbepmipfjcjbaa
open Go.RowKit
/-- A list of timers lies at v, in memory ahead of B. -/
def LB (w : World) (B : Nat) (v : Value) (l : List Timer) : Prop := ∃ A c, v = .slice A l.length c ∧ TmAt w B A l ∧ l.length ≤ c ∧ c ≤ maxLen ∧ (A = none → c = 0) ∧ (∀ g, A.map (·.block) = some g → g < B)
theorem LAt.lb {w : World} {v : Value} {l : List Timer} (h : LAt w v l) : LB w w.heap.size v l := by
  obtain ⟨A, c, rfl, h1, h2, h3, h4, h5⟩ := h
  exact ⟨A, c, rfl, h1, h2, h3, h4, fun g hg => (h5 g hg).lt⟩
theorem LB.below {w w' : World} {B B' : Nat} {v : Value} {l : List Timer} (h : LB w B v l) (k : Below B' w w') (hB : B ≤ B') : LB w' B v l := by
  obtain ⟨A, c, rfl, hT, hc, hm, hA, hg⟩ := h
  exact ⟨A, c, rfl, hT.below k hB, hc, hm, hA, hg⟩
theorem LB.lw {w : World} {B : Nat} {v : Value} {l : List Timer} (h : LB w B v l) (hB : B ≤ w.heap.size) : LW w v l := by
  obtain ⟨A, c, rfl, hT, hc, hm, hA, _⟩ := h
  exact ⟨A, c, rfl, hT.mono hB, hc, hm, hA⟩
theorem LB.tail {w : World} {B : Nat} {g o c n : Nat} {x : Timer} {l : List Timer} (h : LB w B (.slice (some ⟨g, o, none⟩) n c) (x :: l)) : LB w B (.slice (if c = 1 then some ⟨g, o, none⟩ else some ⟨g, o + 3, none⟩) l.length (c - 1)) l := by
  obtain ⟨A', c', e, hT, hc, hm, hA, hg⟩ := h
  injection e with e1 e2 e3
  subst e1 e3
  simp only [List.length_cons] at hc
  refine ⟨_, c - 1, rfl, ?_, by omega, by omega, ?_, ?_⟩
  · by_cases h0 : 0 < l.length
    · rw [if_neg (by omega)]
      have := hT.drop 1
      simpa using this
    · have hl0 : l = [] := List.eq_nil_of_length_eq_zero (by omega)
      rw [hl0]
      exact TmAt.nil
  · intro e
    split at e <;> cases e
  · intro g' e
    refine hg g' ?_
    split at e <;> exact e
theorem LW.src {w : World} {a : Addr} {n c : Nat} {l : List Timer} (h : LW w (.slice (some a) n c) l) : ∀ j u, (l.flatMap Timer.cells)[j]? = some u → w.cell? (a.add j) = some u := by
  obtain ⟨A', c', e, hT, hc, hm, hA⟩ := h
  injection e with e1 e2 e3
  subst e1 e3
  intro j u hj
  have h0 : 0 < l.length := by
    have := (List.getElem?_eq_some_iff.1 hj).1
    rw [flat_len] at this
    omega
  obtain ⟨b, o, e, hb⟩ := hT.form h0
  injection e with e
  subst e
  exact tm_cells hT j u hj
theorem wp_app_T {o : Oper} {a : Act} {w : World} {K : Act → World → Prop} {Q : Exit → Act → World → Prop} (s x : Operand)
    (ho : o.op = .call { callee := .builtin .append, args := #[s, x], argTypes := #[28, 28] }) (base : Nat) (v : Value) (m : List Timer) (hs : a.eval s = v) (hown : OwnT w base v m)
    (vx : Value) (l : List Timer) (hx : a.eval x = vx) (hl : LW w vx l) (hlen : m.length + l.length ≤ 1000000) (hbase : base ≤ w.heap.size)
    (h : ∀ v' w', OwnT w' base v' (m ++ l) → w.grownBy w' v.ownBlock → K (a.put o.dst v') w') : o.wp Try.prog a w K Q := by
  obtain ⟨i0, hi, hz0, hz1, hz2⟩ := info_parts info_timer
  have hl' := hl
  obtain ⟨A, c, rfl, hT, hc, hm, hA⟩ := hl
  cases A with
  | none =>
    have hc0 := hA rfl
    have hl0 : l = [] := List.eq_nil_of_length_eq_zero (by omega)
    subst hl0 hc0
    have hrun := run_append_owned_none (P := Try.prog) (w := w) base 28 o.type 35 i0 3 Try.underlying28 hi v m.length _ hown
    unfold Oper.wp
    simp only [List.length_nil] at hx
    simp [execOp, ho, resolve, invoke, builtin, hs, hx, hrun, Result.andThen]
    exact h v w (by simpa using hown) ⟨rfl, rfl, rfl, Nat.le_refl _, fun _ _ _ => rfl⟩
  | some ad =>
    refine wp_append_own w s x 28 ho base 35 i0 (.agg #[.int .u64 0, .int .u64 0, .int .i64 0]) 3 24 Try.underlying28 hi hz0 hz1 hz2 rfl (by decide) v m.length _ hs hown ad l.length c (l.flatMap Timer.cells) hx (flat_len l) hl'.src (one_cell l) (by unfold maxLen; omega) (by omega) hbase ?_
    intro v' w' h1 h2 _
    refine h v' w' ?_ h2
    unfold OwnT
    simpa using h1
theorem wpList_app_T {ops : Array Oper} {rest : List Oper} {o : Oper} {a : Act} {w : World} {Q : Exit → Act → World → Prop} (hgd : o.guard = none) (s x : Operand)
    (ho : o.op = .call { callee := .builtin .append, args := #[s, x], argTypes := #[28, 28] }) (base : Nat) (v : Value) (m : List Timer) (hs : a.eval s = v) (hown : OwnT w base v m)
    (vx : Value) (l : List Timer) (hx : a.eval x = vx) (hl : LW w vx l) (hlen : m.length + l.length ≤ 1000000) (hbase : base ≤ w.heap.size)
    (h : ∀ v' w', OwnT w' base v' (m ++ l) → w.grownBy w' v.ownBlock → wpList Try.prog ops Q rest (a.put o.dst v') w') : wpList Try.prog ops Q (o :: rest) a w :=
  wpList_plain hgd fun _ hK => wp_app_T s x ho base v m hs hown vx l hx hl hlen hbase fun v' w' h2 h3 => hK _ _ (h v' w' h2 h3)
theorem step_app_T {ops : Array Oper} {o : Oper} {a : Act} {w : World} {K : Act → World → Prop} {Q : Exit → Act → World → Prop} {E : Prop} (hgd : o.guard = none) (s x : Operand)
    (ho : o.op = .call { callee := .builtin .append, args := #[s, x], argTypes := #[28, 28] }) (base : Nat) (v : Value) (m : List Timer) (hs : a.eval s = v) (hown : OwnT w base v m)
    (vx : Value) (l : List Timer) (hx : a.eval x = vx) (hl : LW w vx l) (hlen : m.length + l.length ≤ 1000000) (hbase : base ≤ w.heap.size)
    (h : ∀ v' w', OwnT w' base v' (m ++ l) → w.grownBy w' v.ownBlock → K (a.put o.dst v') w') : if Region.wanted o (yielded ops a.tmps) = true then Oper.wp Try.prog o a w K Q else E := by
  have hw : Region.wanted o (yielded ops a.tmps) = true := by simp [Region.wanted, hgd]
  rw [if_pos hw]
  exact wp_app_T s x ho base v m hs hown vx l hx hl hlen hbase h
/-- A list of one, just built. -/
theorem LAt.one (w : World) (x : Timer) : LAt (w.alloc (.cells #[.int .u64 x.at_, .int .u64 x.seq, .int .i64 x.place] 35)) (.slice (some ⟨w.heap.size, 0, none⟩) 1 1) [x] := by
  have hB : Blk (w.alloc (.cells #[.int .u64 x.at_, .int .u64 x.seq, .int .i64 x.place] 35)) w.heap.size 35 #[.int .u64 x.at_, .int .u64 x.seq, .int .i64 x.place] := Blk.new _ _ _
  refine ⟨_, 1, rfl, ?_, by simp, by unfold maxLen; omega, by simp, ?_⟩
  · intro i hi
    have : i = 0 := by simpa using hi
    subst this
    exact ⟨_, _, rfl, hB.lt, hB.cell 0, hB.cell 1, hB.cell 2⟩
  · intro g e
    simp only [Option.map_some, Option.some.injEq] at e
    subst e
    exact Lies.of hB
theorem grown_below {w0 w w' : World} {v : Value} {base : Nat} {l : List Timer} (ho : OwnT w base v l) (hg : w.grownBy w' v.ownBlock) (hb : Below base w0 w) (hs : base ≤ w.heap.size) : Below base w0 w' :=
  hb.trans ⟨hg.os, hg.tape, hg.output, hg.size, fun k hk => hg.block k (by omega) (fun e => absurd (own_base ho k e.symm) (by omega))⟩
end Go.Proofs.Ytpbepmipfjcjbaa
