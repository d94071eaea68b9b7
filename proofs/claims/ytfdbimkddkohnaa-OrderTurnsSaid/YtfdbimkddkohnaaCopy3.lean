/- Order: copy of timers (three cells each), and what a list with one more is, cell by cell. -/
import Derived.Test.YtfdbimkddkohnaaSrt
import Derived.Laws.CopyRow
import Derived.Laws.CopyOwn
namespace Go.Proofs.Ytfdbimkddkohnaa
open Go.RowKit
theorem run_copy_row3 {P : Program} (w : World) (dT sT ty elem : TypeId) (g o dLen dCap : Nat) (a : Addr) (sLen sCap m : Nat) (cur : Array Value) (t : TypeId) (cs : List Value)
    (hu : P.underlying dT = some (.slice elem)) (hs : (P.info? elem).map (·.size) = some 3)
    (hg : w.heap[g]? = some (.cells cur t (0, 0))) (hm : Nat.min sLen dLen = m) (hn : cs.length = m * 3)
    (hsrc : ∀ j v, cs[j]? = some v → w.cell? (a.add j) = some v) (hfit : o + cs.length ≤ cur.size) (h1 : ∀ v ∈ cs, v.oneCell' = true) :
    (Builtin.copy_ #[dT, sT] ty #[.slice (some ⟨g, o, none⟩) dLen dCap, .slice (some a) sLen sCap]).run P w =
      .ok (goInt m) (w.setRow g (cur.toList.take o ++ cs ++ cur.toList.drop (o + cs.length)).toArray) := by
  have hl := run_loadCells_list (P := P) w a cs hsrc
  have hst := run_storeCells_at P g o t cs 0 cur w hg (by simpa using hfit) h1
  rw [hn] at hl
  subst hm
  cases hq : P.info? elem with
  | none => simp [hq] at hs
  | some i =>
    have hi : i.size = 3 := by simpa [hq] using hs
    simp [Builtin.copy_, run_underlying hu, Builtin.lenOf, Builtin.firstCells, sizeOf, typeInfo, hq, hi, hl, hst]
theorem wpList_copy_row3 {P : Program} {w : World} {ops : Array Oper} {rest : List Oper} {o : Oper} {a : Act} {Q : Exit → Act → World → Prop} (hgd : o.guard = none) (d s : Operand) (dT sT : TypeId)
    (ho : o.op = .call { callee := .builtin .copy, args := #[d, s], argTypes := #[dT, sT] }) (elem : TypeId) (hu : P.underlying dT = some (.slice elem)) (hsz : (P.info? elem).map (·.size) = some 3)
    (g off dLen dCap : Nat) (ad : Addr) (sLen sCap m : Nat) (hd : a.eval d = .slice (some ⟨g, off, none⟩) dLen dCap) (hs : a.eval s = .slice (some ad) sLen sCap) (hm : Nat.min sLen dLen = m)
    (cur : List Value) (t : TypeId) (hg : w.heap[g]? = some (.cells cur.toArray t (0, 0))) (cs : List Value) (hn : cs.length = m * 3)
    (hsrc : ∀ j v, cs[j]? = some v → w.cell? (ad.add j) = some v) (hfit : off + cs.length ≤ cur.length) (h1 : ∀ v ∈ cs, v.oneCell' = true) (B : Nat) (w0 : World) (hb : Below B w0 w) (hBg : B ≤ g)
    (h : ∀ w', Hid (w'.heap[g]? = some (.cells (splice cur off cs).toArray t (0, 0))) → Below B w0 w' → (∀ k, k ≠ g → w'.heap[k]? = w.heap[k]?) → wpList P ops Q rest (a.put o.dst (goInt m)) w') : wpList P ops Q (o :: rest) a w := by
  refine wpList_plain hgd fun K hK => ?_
  have hrun := run_copy_row3 (P := P) w dT sT o.type elem g off dLen dCap ad sLen sCap m cur.toArray t cs hu hsz hg hm hn hsrc (by simpa using hfit) h1
  unfold Oper.wp
  simp [execOp, ho, resolve, invoke, builtin, hd, hs, hrun, Result.andThen]
  exact hK _ _ (h _ (show _ = _ by simpa [splice] using setRow_heap w g _ _ t _ hg) (below_setRow hb hBg _) (fun k hk => setRow_other w g k _ hk))
theorem step_copy_row3 {P : Program} {ops : Array Oper} {o : Oper} {a : Act} {w : World} {K : Act → World → Prop} {Q : Exit → Act → World → Prop} {E : Prop} (hgd : o.guard = none) (d s : Operand) (dT sT : TypeId)
    (ho : o.op = .call { callee := .builtin .copy, args := #[d, s], argTypes := #[dT, sT] }) (elem : TypeId) (hu : P.underlying dT = some (.slice elem)) (hsz : (P.info? elem).map (·.size) = some 3)
    (g off dLen dCap : Nat) (ad : Addr) (sLen sCap m : Nat) (hd : a.eval d = .slice (some ⟨g, off, none⟩) dLen dCap) (hs : a.eval s = .slice (some ad) sLen sCap) (hm : Nat.min sLen dLen = m)
    (cur : List Value) (t : TypeId) (hg : w.heap[g]? = some (.cells cur.toArray t (0, 0))) (cs : List Value) (hn : cs.length = m * 3)
    (hsrc : ∀ j v, cs[j]? = some v → w.cell? (ad.add j) = some v) (hfit : off + cs.length ≤ cur.length) (h1 : ∀ v ∈ cs, v.oneCell' = true) (B : Nat) (w0 : World) (hb : Below B w0 w) (hBg : B ≤ g)
    (h : ∀ w', Hid (w'.heap[g]? = some (.cells (splice cur off cs).toArray t (0, 0))) → Below B w0 w' → (∀ k, k ≠ g → w'.heap[k]? = w.heap[k]?) → K (a.put o.dst (goInt m)) w') :
    if Region.wanted o (yielded ops a.tmps) = true then Oper.wp P o a w K Q else E := by
  have hw : Region.wanted o (yielded ops a.tmps) = true := by simp [Region.wanted, hgd]
  rw [if_pos hw]
  have hrun := run_copy_row3 (P := P) w dT sT o.type elem g off dLen dCap ad sLen sCap m cur.toArray t cs hu hsz hg hm hn hsrc (by simpa using hfit) h1
  unfold Oper.wp
  simp [execOp, ho, resolve, invoke, builtin, hd, hs, hrun, Result.andThen]
  exact h _ (show _ = _ by simpa [splice] using setRow_heap w g _ _ t _ hg) (below_setRow hb hBg _) (fun k hk => setRow_other w g k _ hk)
theorem flat_take (l : List Timer) (k : Nat) : (l.take k).flatMap Timer.cells = (l.flatMap Timer.cells).take (k * 3) := by
  induction l generalizing k with
  | nil => simp
  | cons x l ih =>
    cases k with
    | zero => simp
    | succ k =>
      rw [List.take_succ_cons, List.flatMap_cons, List.flatMap_cons, ih, show (k + 1) * 3 = x.cells.length + k * 3 from by simp [Timer.cells]; omega, List.take_length_add_append]
theorem flat_drop (l : List Timer) (k : Nat) : (l.drop k).flatMap Timer.cells = (l.flatMap Timer.cells).drop (k * 3) := by
  induction l generalizing k with
  | nil => simp
  | cons x l ih =>
    cases k with
    | zero => simp
    | succ k =>
      rw [List.drop_succ_cons, List.flatMap_cons, ih, show (k + 1) * 3 = x.cells.length + k * 3 from by simp [Timer.cells]; omega, List.drop_length_add_append]
theorem own_cells {w : World} {g cap base : Nat} {L : List Value} {m : List Timer} (hg : w.heap[g]? = some (.cells L.toArray 25 (0, 0))) (hb : base ≤ g) (hl : m.length ≤ cap) (hm : cap ≤ maxLen) (hs : L.length = cap * 3) (h : L.take (m.length * 3) = m.flatMap Timer.cells) :
    OwnT w base (.slice (some ⟨g, 0, none⟩) m.length cap) m :=
  ⟨flat_len m, .inr ⟨g, cap, L.toArray, rfl, hb, hg, hl, hm, by simpa using hs, by simpa using h⟩⟩
/-- The row behind an insertion of three cells x at o: first what stands behind is moved on, then x is put. -/
theorem splice_shift {α : Type} (L : List α) (o n : Nat) (x : List α) (ho : o ≤ n) (hx : x.length = 3) (hn : n + 3 ≤ L.length) :
    (splice (splice L (o + 3) ((L.take n).drop o)) o x).take (n + 3) = (L.take n).take o ++ x ++ (L.take n).drop o := by
  apply List.ext_getElem?
  intro j
  unfold splice
  simp only [List.getElem?_take, List.getElem?_append, List.length_append, List.length_take, List.length_drop, List.getElem?_drop, hx]
  repeat' split
  all_goals (first | rfl | omega | (congr 1; omega) | skip)
theorem splice_new {α : Type} (L R : List α) (o n : Nat) (x : List α) (ho : o ≤ n) (hL : L.length = n) (hx : x.length = 3) (hn : n + 3 ≤ R.length) (hR : R.take o = L.take o) :
    (splice (splice R o x) (o + 3) (L.drop o)).take (n + 3) = L.take o ++ x ++ L.drop o := by
  have hR' : ∀ j, j < o → R[j]? = L[j]? := by
    intro j hj
    have := congrArg (fun z => z[j]?) hR
    simpa [List.getElem?_take, hj] using this
  apply List.ext_getElem?
  intro j
  unfold splice
  simp only [List.getElem?_take, List.getElem?_append, List.length_append, List.length_take, List.length_drop, List.getElem?_drop, hx]
  repeat' split
  all_goals (first | rfl | omega | (exact hR' _ (by omega)) | (exact (List.getElem?_eq_none (by omega)).symm) | (congr 1; omega))
end Go.Proofs.Ytfdbimkddkohnaa
