/- Lists of timers in memory, and the reference's functions on them. -/
import Derived.Test.YtfdbimkddkohnaaTim
namespace Go.Proofs.Ytfdbimkddkohnaa
open Go.RowKit
/-- The slice at A holds the timers l, below block B. -/
def TmAt (w : World) (B : Nat) (A : Option Addr) (l : List Timer) : Prop :=
  ∀ i (h : i < l.length), ∃ b o, A = some ⟨b, o, none⟩ ∧ b < B ∧
    w.cell? ⟨b, o + i * 3, none⟩ = some (.int .u64 l[i].at_) ∧ w.cell? ⟨b, o + i * 3 + 1, none⟩ = some (.int .u64 l[i].seq) ∧ w.cell? ⟨b, o + i * 3 + 2, none⟩ = some (.int .i64 l[i].place)
theorem TmAt.keep {w w' : World} {B : Nat} {A : Option Addr} {l : List Timer} (h : TmAt w B A l) (hk : ∀ b, b < B → A.map (·.block) = some b → w'.heap[b]? = w.heap[b]?) : TmAt w' B A l := by
  intro i hi
  obtain ⟨b, o, rfl, hb, c0, c1, c2⟩ := h i hi
  have e : ∀ k, w'.cell? ⟨b, k, none⟩ = w.cell? ⟨b, k, none⟩ := fun k => World.cell?_of_block (hk b hb rfl)
  exact ⟨b, o, rfl, hb, (e _).trans c0, (e _).trans c1, (e _).trans c2⟩
theorem TmAt.below {w w' : World} {B B' : Nat} {A : Option Addr} {l : List Timer} (h : TmAt w B A l) (hk : Below B' w w') (hB : B ≤ B') : TmAt w' B A l := h.keep fun b hb _ => hk.block b (by omega)
theorem TmAt.mono {w : World} {B B' : Nat} {A : Option Addr} {l : List Timer} (h : TmAt w B A l) (hB : B ≤ B') : TmAt w B' A l := by
  intro i hi
  obtain ⟨b, o, rfl, hb, c⟩ := h i hi
  exact ⟨b, o, rfl, by omega, c⟩
theorem TmAt.on {x y : World} {A : Option Addr} {l : List Timer} (h : TmAt x x.heap.size A l) (k : Below x.heap.size x y) : TmAt y y.heap.size A l := (h.below k (Nat.le_refl _)).mono k.size
theorem TmAt.alloc {w : World} {B : Nat} {A : Option Addr} {l : List Timer} (h : TmAt w B A l) (hB : B ≤ w.heap.size) (o : Obj) : TmAt (w.alloc o) B A l := h.below ((Below.refl _ _).alloc hB o) (Nat.le_refl _)
theorem TmAt.drew {w : World} {B : Nat} {A : Option Addr} {l : List Timer} (h : TmAt w B A l) : TmAt w.drew B A l := h
theorem TmAt.nil {w : World} {B : Nat} {A : Option Addr} : TmAt w B A [] := fun i hi => absurd hi (by simp)
theorem TmAt.take {w : World} {B : Nat} {A : Option Addr} {l : List Timer} (h : TmAt w B A l) (n : Nat) : TmAt w B A (l.take n) := by
  intro i hi
  have hi' : i < l.length := by
    have := hi
    simp at this
    omega
  have e : (l.take n)[i] = l[i] := by simp
  rw [e]
  exact h i hi'
theorem TmAt.drop {w : World} {B b o : Nat} {l : List Timer} (h : TmAt w B (some ⟨b, o, none⟩) l) (n : Nat) : TmAt w B (some ⟨b, o + n * 3, none⟩) (l.drop n) := by
  intro i hi
  have hi' : n + i < l.length := by
    have := hi
    simp at this
    omega
  obtain ⟨b', o', e, hb, c0, c1, c2⟩ := h (n + i) hi'
  simp only [Option.some.injEq, Addr.mk.injEq, and_true] at e
  obtain ⟨rfl, rfl⟩ := e
  have e : (l.drop n)[i] = l[n + i] := by simp
  rw [e]
  refine ⟨b, o + n * 3, rfl, hb, ?_, ?_, ?_⟩
  · rw [show o + n * 3 + i * 3 = o + (n + i) * 3 by omega]; exact c0
  · rw [show o + n * 3 + i * 3 = o + (n + i) * 3 by omega]; exact c1
  · rw [show o + n * 3 + i * 3 = o + (n + i) * 3 by omega]; exact c2
theorem TmAt.form {w : World} {B : Nat} {A : Option Addr} {l : List Timer} (h : TmAt w B A l) (hl : 0 < l.length) : ∃ b o, A = some ⟨b, o, none⟩ ∧ b < B := by
  obtain ⟨b, o, e, hb, _⟩ := h 0 hl
  exact ⟨b, o, e, hb⟩
theorem take_snoc {α : Type} (l : List α) (k : Nat) (h : k < l.length) : l.take (k + 1) = l.take k ++ [l[k]] := by
  rw [List.take_succ_eq_append_getElem h]
/-- The cells cur begin with the timers m. -/
def CurIs (cur : Array Value) (m : List Timer) : Prop := ∀ i (_ : i < m.length), cur[i * 3]? = some (.int .u64 m[i].at_) ∧ cur[i * 3 + 1]? = some (.int .u64 m[i].seq) ∧ cur[i * 3 + 2]? = some (.int .i64 m[i].place)
def put3 (cur : Array Value) (j : Nat) (x : Timer) : Array Value := ((cur.setIfInBounds (j * 3) (.int .u64 x.at_)).setIfInBounds (j * 3 + 1) (.int .u64 x.seq)).setIfInBounds (j * 3 + 2) (.int .i64 x.place)
theorem CurIs.set {cur : Array Value} {m : List Timer} (h : CurIs cur m) (j : Nat) (x : Timer) : CurIs (put3 cur j x) (m.set j x) := by
  intro i hi
  simp only [List.length_set] at hi
  obtain ⟨c0, c1, c2⟩ := h i hi
  have hs : i * 3 + 2 < cur.size := by
    rcases Nat.lt_or_ge (i * 3 + 2) cur.size with hlt | hge
    · exact hlt
    · rw [Array.getElem?_eq_none hge] at c2; cases c2
  unfold put3
  by_cases hij : j = i
  · subst hij
    have e : (m.set j x)[j]'(by simpa using hi) = x := List.getElem_set_self _
    rw [e]
    simp only [Array.getElem?_setIfInBounds, Array.size_setIfInBounds]
    refine ⟨?_, ?_, ?_⟩ <;> (repeat' split) <;> (first | rfl | omega | simp_all)
  · rw [List.getElem_set_ne hij]
    simp only [Array.getElem?_setIfInBounds, Array.size_setIfInBounds]
    refine ⟨?_, ?_, ?_⟩ <;> (repeat' split) <;> (first | assumption | omega)
theorem CurIs.tms {w : World} {g : Nat} {t : TypeId} {cur : Array Value} {m : List Timer} (hb : Blk w g t cur) (h : CurIs cur m) : TmAt w w.heap.size (some ⟨g, 0, none⟩) m := by
  intro i hi
  obtain ⟨c0, c1, c2⟩ := h i hi
  refine ⟨g, 0, rfl, hb.lt, ?_, ?_, ?_⟩
  · rw [Nat.zero_add, hb.cell]; exact c0
  · rw [Nat.zero_add, hb.cell]; exact c1
  · rw [Nat.zero_add, hb.cell]; exact c2
theorem put3_blk {w : World} {g : Nat} {t : TypeId} {cur : Array Value} (h : Blk w g t cur) (j : Nat) (x : Timer) :
    Blk (((w.setCell ⟨g, j * 3, none⟩ (.int .u64 x.at_)).setCell ⟨g, j * 3 + 1, none⟩ (.int .u64 x.seq)).setCell ⟨g, j * 3 + 2, none⟩ (.int .i64 x.place)) g t (put3 cur j x) :=
  ((h.put _ _).put _ _).put _ _
theorem flat_idx : ∀ (m : List Timer) (i : Nat) (hi : i < m.length) (j : Nat), j < 3 → (m.flatMap Timer.cells)[i * 3 + j]? = m[i].cells[j]? := by
  intro m
  induction m with
  | nil => intro i hi; simp at hi
  | cons x m ih =>
    intro i hi j hj
    cases i with
    | zero =>
      have hx : x.cells.length = 3 := rfl
      simp only [List.flatMap_cons]
      rw [List.getElem?_append_left (by omega)]
      simp
    | succ i =>
      have hx : x.cells.length = 3 := rfl
      simp only [List.flatMap_cons, List.getElem_cons_succ]
      rw [List.getElem?_append_right (by omega), hx, ← ih i (by simpa using hi) j hj]
      congr 1
      omega
theorem flat_len (m : List Timer) : (m.flatMap Timer.cells).length = m.length * 3 := by
  induction m with
  | nil => rfl
  | cons x m ih => simp only [List.flatMap_cons, List.length_append, List.length_cons, ih]; have : x.cells.length = 3 := rfl; omega
theorem tm_cells {w : World} {B b o : Nat} {l : List Timer} (h : TmAt w B (some ⟨b, o, none⟩) l) : ∀ j u, (l.flatMap Timer.cells)[j]? = some u → w.cell? ((⟨b, o, none⟩ : Addr).add j) = some u := by
  intro j u hj
  have hjl : j < l.length * 3 := by
    rw [← flat_len]
    exact (List.getElem?_eq_some_iff.1 hj).1
  have hi : j / 3 < l.length := by omega
  obtain ⟨b', o', e, _, c0, c1, c2⟩ := h (j / 3) hi
  simp only [Option.some.injEq, Addr.mk.injEq, and_true] at e
  obtain ⟨rfl, rfl⟩ := e
  have ea : (⟨b, o, none⟩ : Addr).add j = ⟨b, o + j, none⟩ := by unfold Addr.add; split <;> simp_all
  rw [ea]
  have hr : j % 3 = 0 ∨ j % 3 = 1 ∨ j % 3 = 2 := by omega
  have hjj := flat_idx l (j / 3) hi (j % 3) (by omega)
  rw [show j / 3 * 3 + j % 3 = j from by omega, hj] at hjj
  rcases hr with hr | hr | hr
  · rw [hr] at hjj
    rw [show o + j = o + j / 3 * 3 from by omega, c0, hjj]; rfl
  · rw [hr] at hjj
    rw [show o + j = o + j / 3 * 3 + 1 from by omega, c1, hjj]; rfl
  · rw [hr] at hjj
    rw [show o + j = o + j / 3 * 3 + 2 from by omega, c2, hjj]; rfl
theorem own_cur {w : World} {base n : Nat} {v : Value} {l : List Timer} (h : w.ownsRow base 25 3 v n (l.flatMap Timer.cells)) (hn : n = l.length) (h0 : 0 < n) :
    ∃ g cap cur, v = .slice (some ⟨g, 0, none⟩) n cap ∧ Blk w g 25 cur ∧ CurIs cur l ∧ base ≤ g ∧ n ≤ cap := by
  rcases h.2 with ⟨rfl, hl⟩ | ⟨g, cap, cur, rfl, hg, hh, hc, hm, hs, ht⟩
  · omega
  · refine ⟨g, cap, cur, rfl, hh, ?_, hg, hc⟩
    intro i hi
    have hcell : ∀ (j : Nat) (u : Value), (l.flatMap Timer.cells)[j]? = some u → cur[j]? = some u := by
      intro j u hu
      rw [← ht, List.getElem?_take] at hu
      split at hu
      · simpa using hu
      · cases hu
    refine ⟨?_, ?_, ?_⟩
    · have := hcell (i * 3 + 0) _ (by rw [flat_idx l i hi 0 (by omega)]; rfl)
      simpa using this
    · exact hcell (i * 3 + 1) _ (by rw [flat_idx l i hi 1 (by omega)]; rfl)
    · exact hcell (i * 3 + 2) _ (by rw [flat_idx l i hi 2 (by omega)]; rfl)
theorem info_timer : (Try.prog.info? 25).map (fun i => (i.zero, i.size, i.bytes)) = some (some (.agg #[.int .u64 0, .int .u64 0, .int .i64 0]), 3, 24) := by kernel_rfl
/-- A row of the call's own that holds the timers l. -/
def OwnT (w : World) (base : Nat) (v : Value) (l : List Timer) : Prop := w.ownsRow base 25 3 v l.length (l.flatMap Timer.cells)
theorem OwnT.nil (w : World) (base : Nat) : OwnT w base (.slice none 0 0) [] := ⟨rfl, .inl ⟨rfl, rfl⟩⟩
theorem OwnT.at {w : World} {base : Nat} {v : Value} {l : List Timer} (h : OwnT w base v l) : ∃ A cap, v = .slice A l.length cap ∧ TmAt w w.heap.size A l ∧ l.length ≤ cap ∧ cap ≤ maxLen ∧ (∀ g, A.map (·.block) = some g → base ≤ g ∧ g < w.heap.size) := by
  by_cases h0 : 0 < l.length
  · obtain ⟨g, cap, cur, e, hb, hc, hg, hn⟩ := own_cur h rfl h0
    refine ⟨_, cap, e, hc.tms hb, hn, ?_, ?_⟩
    · subst e
      rcases h.2 with ⟨hv, _⟩ | ⟨g', cap', cur', hv, _, _, _, hm, _⟩
      · cases hv
      · injection hv with _ _ hv
        subst hv
        exact hm
    · intro g' hg'
      simp only [Option.map_some, Option.some.injEq] at hg'
      subst hg'
      exact ⟨hg, hb.lt⟩
  · have hl : l = [] := List.eq_nil_of_length_eq_zero (by omega)
    subst hl
    rcases h.2 with ⟨rfl, _⟩ | ⟨g, cap, cur, rfl, hg, hh, _, hm, _⟩
    · exact ⟨none, 0, rfl, TmAt.nil, Nat.zero_le _, by simp [maxLen], by simp⟩
    · refine ⟨_, cap, rfl, TmAt.nil, Nat.zero_le _, hm, ?_⟩
      intro g' hg'
      simp only [Option.map_some, Option.some.injEq] at hg'
      subst hg'
      exact ⟨hg, Blk.lt hh⟩
theorem OwnT.below {w w' : World} {B base : Nat} {v : Value} {l : List Timer} (h : OwnT w base v l) (hb : Below B w w') (hB : w.heap.size ≤ B) : OwnT w' base v l := own_below h hb hB
theorem OwnT.alloc {w : World} {base : Nat} {v : Value} {l : List Timer} (h : OwnT w base v l) (o : Obj) : OwnT (w.alloc o) base v l := World.ownsRow.alloc h o
theorem OwnT.mono {w : World} {base base' : Nat} {v : Value} {l : List Timer} (h : OwnT w base v l) (hb : base' ≤ base) : OwnT w base' v l :=
  ⟨h.1, h.2.imp id (fun ⟨g, cap, cur, h1, h2, h3⟩ => ⟨g, cap, cur, h1, by omega, h3⟩)⟩
/-- Two timers compared. -/
@[go_sem] theorem egT (op : BinOp) (x y : Operand) (xs ys : Array Value) (w : World) : (eqGuard op 25 x y (.agg xs) (.agg ys)).run Try.prog w = .ok () w :=
  run_eqGuard_agg w op 25 x y xs ys (by kernel_rfl)
theorem beq_tm (x y : Timer) : (x.at_ == y.at_ && (x.seq == y.seq && (x.place == y.place && true))) = decide (x = y) := by
  rw [Bool.eq_iff_iff, decide_eq_true_iff, Timer.eq_iff]
  simp
@[go_sem ↓] theorem eqlT (x y : Timer) (w : World) : (binOp .eql 25 (.agg #[.int .u64 x.at_, .int .u64 x.seq, .int .i64 x.place]) (.agg #[.int .u64 y.at_, .int .u64 y.seq, .int .i64 y.place])).run Try.prog w = .ok (.bool (decide (x = y))) w := by
  rw [← beq_tm]
  exact run_eql_scal 25 [_, _, _] [_, _, _] w (by kernel_rfl) (by kernel_rfl) (by kernel_rfl)
@[go_sem ↓] theorem neqT (x y : Timer) (w : World) : (binOp .neq 25 (.agg #[.int .u64 x.at_, .int .u64 x.seq, .int .i64 x.place]) (.agg #[.int .u64 y.at_, .int .u64 y.seq, .int .i64 y.place])).run Try.prog w = .ok (.bool (!decide (x = y))) w := by
  rw [← beq_tm]
  exact run_neq_scal 25 [_, _, _] [_, _, _] w (by kernel_rfl) (by kernel_rfl) (by kernel_rfl)
set_option maxRecDepth 100000 in
set_option maxHeartbeats 1000000 in
theorem same_any (A C : Option Addr) (l m : List Timer) (c d : Nat) (w : World) (h : TmAt w w.heap.size A l) (k : TmAt w w.heap.size C m) (hl : l.length ≤ 1000000) (hm : m.length ≤ 1000000) :
    Calls Try.prog 24 #[.slice A l.length c, .slice C m.length d] w fun e w' => e = .returned (.bool (decide (l = m))) ∧ Below w.heap.size w w' := by
  by_cases hlen : l.length = m.length
  · have hll : ((l.length : Int) != (m.length : Int)) = false := by simp [hlen]
    have HL := Lib.hid hlen
    clear hlen
    go_enter Try.func24, Try.ntmps24
    go_wp2
    go_loopw [5] (fun i wr => ∃ j : Nat, j ≤ l.length ∧ i = .int .i64 j ∧ l.take j = m.take j ∧ Below w.heap.size w wr) (fun i _ => l.length - (intOf i).toNat)
    case atStart => exact ⟨0, by omega, rfl, rfl, Below.refl _ _⟩
    case round =>
      obtain ⟨j, hj, rfl, ht, hb⟩ := hrel
      by_cases hlt : j < l.length
      · obtain ⟨b1, o1, rfl, hb1, c1, c1', c1''⟩ := (h.below hb (Nat.le_refl _)) j hlt
        obtain ⟨b2, o2, rfl, hb2, c2, c2', c2''⟩ := (k.below hb (Nat.le_refl _)) j (by have := HL.out; omega)
        have hjm : j < m.length := by have := HL.out; omega
        have HT := Lib.hid ht
        clear ht
        by_cases he : l[j] = m[j]'(by have := HL.out; omega)
        · have HT2 : Hid (l.take (j + 1) = m.take (j + 1)) := Lib.hid (by rw [List.take_succ_eq_append_getElem hlt, List.take_succ_eq_append_getElem (by have := HL.out; omega : j < m.length), HT.out, he])
          have he2 : decide (l[j] = m[j]'(by have := HL.out; omega)) = true := by simp [he]
          generalize l[j] = x at *
          generalize m[j]'_ = y at *
          clear he
          go_wp2
          refine still_all (by kernel_rfl) (by kernel_rfl) ?_
          repeat still_step
          refine wpStill_nil ?_
          go_wp2
          go_roundw
          case rel => exact ⟨j + 1, by omega, by go_num, HT2.out, hb.drew⟩
          case measure => simp [intOf]; omega
        · have hne : l ≠ m := fun e => he (by subst e; rfl)
          have he2 : decide (l[j] = m[j]'(by have := HL.out; omega)) = false := by simp [he]
          generalize l[j] = x at *
          generalize m[j]'_ = y at *
          clear he
          go_wp2
          refine still_all (by kernel_rfl) (by kernel_rfl) ?_
          repeat still_step
          refine wpStill_nil ?_
          go_wp2
          go_ret
          exact ⟨ret_bool (decide_eq_false hne).symm, hb.drew⟩
      · have : l = m := by have := HL.out; rw [List.take_of_length_le (by omega), List.take_of_length_le (by omega)] at ht; exact ht
        have HT := Lib.hid this
        clear ht this
        go_wp2
        go_ret
        exact ⟨ret_bool (decide_eq_true HT.out).symm, hb⟩
  · have hll : ((l.length : Int) != (m.length : Int)) = true := by simp; omega
    have hne : l ≠ m := fun e => hlen (by rw [e])
    go_enter Try.func24, Try.ntmps24
    go_wp2
    go_ret
    exact ⟨ret_bool (decide_eq_false hne).symm, Below.refl _ _⟩
end Go.Proofs.Ytfdbimkddkohnaa
