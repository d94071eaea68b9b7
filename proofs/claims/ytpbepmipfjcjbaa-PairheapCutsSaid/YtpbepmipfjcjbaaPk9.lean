/- Part 9: the texts PhZ PhO PhI, laid end to end by a program. -/
import Derived.OwnWalk
import Derived.Test.YtpbepmipfjcjbaaPk8
namespace Go.Proofs.Ytpbepmipfjcjbaa
open Go.RowKit
theorem made_blk {w : World} {base g n size : Nat} {e : TypeId} {xs : List Value} (h : w.ownsRow base e size (.slice (some ⟨g, 0, none⟩) n n) n xs) : Blk w g e xs.toArray := by
  rcases h.2 with ⟨hv, _⟩ | ⟨g', cap, cur, hv, hg, hh, hc, hm, hs, ht⟩
  · cases hv
  · simp only [Value.slice.injEq, Option.some.injEq, Addr.mk.injEq, and_true, true_and] at hv
    obtain ⟨rfl, rfl⟩ := hv
    have e2 : cur = xs.toArray := by
      rw [← ht, List.take_of_length_le (by simp [hs])]
    rw [← e2]
    exact hh
theorem grown_below' {w w' : World} (h : w.grownBy w' none) : Below w.heap.size w w' := (Below.refl _ _).grown h (Nat.le_refl _) (fun _ e => by cases e)
theorem info_pn : (Try.prog.info? 69).map (fun i => (i.zero, i.size, i.bytes)) = some (some (.pointer none), 1, 8) := by kernel_rfl
theorem made_ptrs (n : Nat) (nd : Nat → Nat) : madeCells #[.pointer none] n = naC n (fun _ => false) nd := by
  unfold madeCells naC
  refine Array.map_congr_left fun t _ => ?_
  simp [Nat.mod_one]
theorem ph_new_bad (p : Int) (w : World) (h : p < 0 ∨ 1024 < p) :
    Calls Try.prog 9 #[.int .i64 p] w fun e w' => e = .returned (.tuple #[.pointer none, .int .i64 1]) ∧ w = w' := by
  by_cases h0 : p < 0
  · clear h
    go_enter Try.func9, Try.ntmps9
    go_wp2_with fail
    exact bodyPost_ret (v := .tuple #[.pointer none, .int .i64 1]) (by simp [results, Try.results9, go_sem]) rfl ⟨rfl, rfl⟩
  · have h1 : 1024 < p := by omega
    clear h
    go_enter Try.func9, Try.ntmps9
    go_wp2_with fail
    exact bodyPost_ret (v := .tuple #[.pointer none, .int .i64 1]) (by simp [results, Try.results9, go_sem]) rfl ⟨rfl, rfl⟩
set_option maxRecDepth 100000 in
set_option maxHeartbeats 1000000 in
theorem ph_new_ok (P : Nat) (nd : Nat → Nat) (tm : Nat → Timer) (f : Lk) (w : World) (h : P ≤ 1024) :
    Calls Try.prog 9 #[.int .i64 P] w fun e w' => ∃ q nb, e = .returned (.tuple #[.pointer (some ⟨q, 0, none⟩), .int .i64 0]) ∧ PM w' q nb P (fun _ => false) nd tm f none 0 ∧ Below w.heap.size w w' ∧ w.heap.size ≤ q ∧ w.heap.size ≤ nb := by
  obtain ⟨i0, hi, hz0, hz1, hz2⟩ := info_parts info_pn
  go_enter Try.func9, Try.ntmps9
  go_wp2_with (at_make; refine wpList_make_full _ rfl _ _ 68 rfl w.heap.size 69 i0 (.pointer none) 1 Try.underlying68 hi hz0 hz1 .i64 .i64 _ _ P rfl rfl rfl rfl (by rw [hz2]; omega) (by unfold maxLen; omega) (Nat.le_refl _) ?_)
  intro w2 hown hgr
  have hb2 := grown_below' hgr
  have hA : Blk w2 w.heap.size 69 (naC P (fun _ => false) nd) := by
    have e := made_blk hown
    rw [Array.toArray_toList, made_ptrs P nd] at e
    exact e
  clear hown hgr hi hz0 hz1 hz2
  have hsz := hb2.size
  have hlt := hA.lt
  go_wp2
  refine bodyPost_ret (v := .tuple #[.pointer (some ⟨w2.heap.size, 0, none⟩), .int .i64 0]) (by simp [results, Try.results9, go_sem]) rfl ?_
  exact ⟨w2.heap.size, w.heap.size, rfl, ⟨⟨fun i hi => absurd hi.2 (by simp), fun i j hi => absurd hi.2 (by simp)⟩, Blk.new _ _ _, hA.below (alloc_kept' _ _) hlt⟩, hb2.alloc (by omega) _, by omega, Nat.le_refl _⟩
end Go.Proofs.Ytpbepmipfjcjbaa
namespace Go.Proofs.Ytpbepmipfjcjbaa
open Go.RowKit
/-- A row of the call's own that holds the ways to the nodes of l. -/
def OwnP (nd : Nat → Nat) (w : World) (base : Nat) (v : Value) (l : List Nat) : Prop := w.ownsRow base 69 1 v l.length (l.map fun i => Value.pointer (some ⟨nd i, 0, none⟩))
theorem OwnP.nil (nd : Nat → Nat) (w : World) (base : Nat) : OwnP nd w base (.slice none 0 0) [] := ⟨rfl, .inl ⟨rfl, rfl⟩⟩
/-- The ways to the nodes of l, read. -/
def PtAt (nd : Nat → Nat) (w : World) (B : Nat) (A : Option Addr) (l : List Nat) : Prop := ∀ k (h : k < l.length), ∃ b o, A = some ⟨b, o, none⟩ ∧ b < B ∧ w.cell? ⟨b, o + k, none⟩ = some (.pointer (some ⟨nd l[k], 0, none⟩))
theorem PtAt.below {nd : Nat → Nat} {w w' : World} {B B' : Nat} {A : Option Addr} {l : List Nat} (h : PtAt nd w B A l) (hb : Below B' w w') (hB : B ≤ B') : PtAt nd w' B A l := fun k hk => by
  obtain ⟨b, o, rfl, h1, h2⟩ := h k hk
  exact ⟨b, o, rfl, h1, (World.cell?_of_block (hb.block b (by omega))).trans h2⟩
theorem OwnP.at {nd : Nat → Nat} {w : World} {base : Nat} {v : Value} {l : List Nat} (h : OwnP nd w base v l) : ∃ A cap, v = .slice A l.length cap ∧ PtAt nd w w.heap.size A l ∧ l.length ≤ cap ∧ cap ≤ maxLen ∧ (∀ g, A.map (·.block) = some g → base ≤ g ∧ g < w.heap.size) := by
  rcases h.2 with ⟨rfl, hl⟩ | ⟨g, cap, cur, rfl, hg, hh, hc, hm, hs, ht⟩
  · have hl' : l.length = 0 := hl
    rw [hl']
    exact ⟨none, 0, rfl, fun k hk => absurd hk (by omega), Nat.le_refl _, by simp [maxLen], by simp⟩
  · refine ⟨_, cap, rfl, fun k hk => ⟨g, 0, rfl, Blk.lt hh, ?_⟩, hc, hm, fun g' hg' => ?_⟩
    · have hcell : cur[k]? = some (.pointer (some ⟨nd l[k], 0, none⟩)) := by
        have hu : (l.map fun i => Value.pointer (some ⟨nd i, 0, none⟩))[k]? = some (.pointer (some ⟨nd l[k], 0, none⟩)) := by simp [hk]
        rw [← ht, List.getElem?_take] at hu
        split at hu
        · simpa using hu
        · cases hu
      rw [Nat.zero_add]
      exact (Blk.cell hh k).trans hcell
    · simp only [Option.map_some, Option.some.injEq] at hg'
      subst hg'
      exact ⟨hg, Blk.lt hh⟩
theorem OwnP.below {nd : Nat → Nat} {w w' : World} {B base : Nat} {v : Value} {l : List Nat} (h : OwnP nd w base v l) (hb : Below B w w') (hB : w.heap.size ≤ B) : OwnP nd w' base v l := own_below h hb hB
theorem OwnP.alloc {nd : Nat → Nat} {w : World} {base : Nat} {v : Value} {l : List Nat} (h : OwnP nd w base v l) (o : Obj) : OwnP nd (w.alloc o) base v l := World.ownsRow.alloc h o
/-- Nodes that are written lie ahead of it. -/
theorem OwnP.chg {nd : Nat → Nat} {w w' : World} {base : Nat} {v : Value} {l : List Nat} (h : OwnP nd w base v l) {T : Nat → Prop} (k : Chg T w w') (hT : ∀ g, T g → g < base) : OwnP nd w' base v l :=
  ownsRow_keep (w' := w') h fun g hlt hv => k.block g hlt fun e => absurd (own_base h g hv) (by have := hT g e; omega)
end Go.Proofs.Ytpbepmipfjcjbaa
namespace Go.Proofs.Ytpbepmipfjcjbaa
open Go.RowKit
theorem blk_same {w : World} {g : Nat} {t u : TypeId} {cs ds : Array Value} (h : Blk w g t cs) (k : Blk w g u ds) : t = u := by
  unfold Blk at h k
  rw [h] at k
  injection k with k
  injection k with _ k2 _
/-- The blocks that a queue's calls may turn. -/
def QS (q nb P : Nat) (on : Nat → Bool) (nd : Nat → Nat) (g : Nat) : Prop := g = q ∨ g = nb ∨ NB (Liv P on) nd g
section
variable {w w' : World} {q nb P : Nat} {on : Nat → Bool} {nd : Nat → Nat} {tm : Nat → Timer} {f f' : Lk} {root : Option Nat} {n : Int}
theorem PM.ne (h : PM w q nb P on nd tm f root n) : q ≠ nb ∧ (∀ i, Liv P on i → nd i ≠ q ∧ nd i ≠ nb) :=
  ⟨fun e => absurd (blk_same (e ▸ h.qb : Blk w nb 71 _) h.ar) (by decide), fun i hi => ⟨fun e => absurd (blk_same (e ▸ h.nm.blk i hi : Blk w q 82 _) h.qb) (by decide), fun e => absurd (blk_same (e ▸ h.nm.blk i hi : Blk w nb 82 _) h.ar) (by decide)⟩⟩
/-- The nodes have been turned. -/
theorem PM.nodes (h : PM w q nb P on nd tm f root n) {tm' : Nat → Timer} (m : NM w' (Liv P on) nd tm' f') (k : Chg (NB (Liv P on) nd) w w') : PM w' q nb P on nd tm' f' root n := by
  obtain ⟨_, h2⟩ := h.ne
  exact ⟨m, Blk.chg h.qb k (fun ⟨i, hi, e⟩ => (h2 i hi).1 e), h.ar.chg k fun ⟨i, hi, e⟩ => (h2 i hi).2 e⟩
theorem PM.root_ (h : PM w q nb P on nd tm f root n) (v : Option Nat) : PM (w.setCell ⟨q, 1, none⟩ (ptrN nd v)) q nb P on nd tm f v n := by
  obtain ⟨h1, h2⟩ := h.ne
  refine ⟨h.nm.chg (chg_cell w q 1 _) fun i hi => (h2 i hi).1, ?_, h.ar.chg (chg_cell w q 1 _) h1.symm⟩
  have := Blk.put h.qb 1 (ptrN nd v)
  unfold QB
  simpa using this
theorem PM.count (h : PM w q nb P on nd tm f root n) (k : Int) : PM (w.setCell ⟨q, 2, none⟩ (.int .i64 k)) q nb P on nd tm f root k := by
  obtain ⟨h1, h2⟩ := h.ne
  refine ⟨h.nm.chg (chg_cell w q 2 _) fun i hi => (h2 i hi).1, ?_, h.ar.chg (chg_cell w q 2 _) h1.symm⟩
  have := Blk.put h.qb 2 (.int .i64 k)
  unfold QB
  simpa using this
end
set_option maxRecDepth 100000 in
set_option maxHeartbeats 2000000 in
theorem ph_ins_bad (q nb P : Nat) (on : Nat → Bool) (nd : Nat → Nat) (tm : Nat → Timer) (f : Lk) (root : Option Nat) (n : Int) (t : Timer) (w : World) (h : PM w q nb P on nd tm f root n) (hP : P ≤ 1024) (hb : t.place < 0 ∨ (P : Int) ≤ t.place) :
    Calls Try.prog 27 #[.pointer (some ⟨q, 0, none⟩), t.val] w fun e w' => e = .returned (.int .i64 1) ∧ Below w.heap.size w w' := by
  have hk := h.below (alloc_kept' w (.cells #[.int .u64 t.at_, .int .u64 t.seq, .int .i64 t.place] 35))
  have hf := ph_find q nb P on nd tm f root n t.place _ hk hP
  have HB := Lib.hid (alloc_kept' w (.cells #[.int .u64 t.at_, .int .u64 t.seq, .int .i64 t.place] 35))
  unfold fndV at hf
  rw [if_pos hb] at hf
  unfold Timer.val
  clear h hk hb
  go_enter Try.func27, Try.ntmps27
  go_wp2_with fail
  refine hf.mono ?_
  rintro e w1 ⟨rfl, rfl⟩
  clear hf
  go_wp2_with fail
  go_ret
  exact ⟨rfl, HB.out⟩
set_option maxRecDepth 100000 in
set_option maxHeartbeats 2000000 in
theorem ph_ins_twice (q nb P : Nat) (on : Nat → Bool) (nd : Nat → Nat) (tm : Nat → Timer) (f : Lk) (root : Option Nat) (n : Int) (t : Timer) (w : World) (h : PM w q nb P on nd tm f root n) (hP : P ≤ 1024) (hb : ¬ (t.place < 0 ∨ (P : Int) ≤ t.place)) (ho : on t.place.toNat = true) :
    Calls Try.prog 27 #[.pointer (some ⟨q, 0, none⟩), t.val] w fun e w' => e = .returned (.int .i64 4) ∧ Below w.heap.size w w' := by
  have hk := h.below (alloc_kept' w (.cells #[.int .u64 t.at_, .int .u64 t.seq, .int .i64 t.place] 35))
  have hf := ph_find q nb P on nd tm f root n t.place _ hk hP
  have HB := Lib.hid (alloc_kept' w (.cells #[.int .u64 t.at_, .int .u64 t.seq, .int .i64 t.place] 35))
  unfold fndV at hf
  rw [if_neg hb, if_pos ho] at hf
  unfold Timer.val
  generalize nd t.place.toNat = g at *
  clear h hk hb ho
  go_enter Try.func27, Try.ntmps27
  go_wp2_with fail
  refine hf.mono ?_
  rintro e w1 ⟨rfl, rfl⟩
  clear hf
  go_wp2_with fail
  go_ret
  exact ⟨rfl, HB.out⟩
attribute [local irreducible] Calls
set_option linter.unusedSimpArgs false in
set_option maxRecDepth 100000 in
set_option maxHeartbeats 4000000 in
theorem ph_ins_ok (q nb P : Nat) (on : Nat → Bool) (nd : Nat → Nat) (tm : Nat → Timer) (f : Lk) (L : List (Nat × BT)) (n : Int) (t : Timer) (i : Nat) (w : World) (h : PM w q nb P on nd tm f (rootL L) n) (hF : PF P on tm f L) (hL : L.length ≤ 1) (hP : P ≤ 1024) (ht : t.place = i) (hi : i < P) (ho : on i = false) (hn : 0 ≤ n ∧ n ≤ 1024) :
    Calls Try.prog 27 #[.pointer (some ⟨q, 0, none⟩), t.val] w fun e w' => ∃ g f' D, e = .returned (.int .i64 0) ∧ w.heap.size ≤ g ∧ PM w' q nb P (updB on i true) (updN nd i g) (updT tm i t) f' (rootL D) (n + 1) ∧ PF P (updB on i true) (updT tm i t) f' D ∧ D.length ≤ 1 ∧ Chg (QS q nb P on nd) w w' := by
  have hb0 := alloc_kept' w (.cells #[.int .u64 t.at_, .int .u64 t.seq, .int .i64 t.place] 35)
  have hk := h.below hb0
  have hf := ph_find q nb P on nd tm f (rootL L) n t.place _ hk hP
  unfold fndV at hf
  rw [if_neg (by omega), if_neg (by rw [ht, Int.toNat_natCast, ho]; decide)] at hf
  have hb1 := hb0.trans (Below.mono (alloc_kept' (w.alloc (.cells #[.int .u64 t.at_, .int .u64 t.seq, .int .i64 t.place] 35)) (.cells #[.int .u64 t.at_, .int .u64 t.seq, .int .i64 t.place, .pointer none, .pointer none, .pointer none] 82)) (by simp))
  have hg := alloc2_at w (.cells #[.int .u64 t.at_, .int .u64 t.seq, .int .i64 t.place] 35) 82 #[.int .u64 t.at_, .int .u64 t.seq, .int .i64 t.place, .pointer none, .pointer none, .pointer none]
  have bx := (Blk.new w 35 #[.int .u64 t.at_, .int .u64 t.seq, .int .i64 t.place]).alloc (.cells #[.int .u64 t.at_, .int .u64 t.seq, .int .i64 t.place, .pointer none, .pointer none, .pointer none] 82)
  have hlive : ∀ j, Liv P (updB on i true) j ↔ j = i ∨ Liv P on j := fun j => by
    unfold Liv
    by_cases e : j = i
    · subst e; simp [hi, updB_at]
    · simp [e, updB_ne _ _ e]
  have hni : ¬ Liv P on i := fun e => by have := e.2; rw [ho] at this; cases this
  have hNM := h.nm.add t hlive hni (fun j hj y e x => hni (x ▸ hF.ways hj e)) hg (Nat.le_succ _) hb1
  have hPF := (hF.add t hi ho).perm (show ((i, BT.nil) :: L).Perm (L ++ [(i, BT.nil)]) from List.perm_append_comm (l₁ := [(i, BT.nil)]) (l₂ := L))
  have hq1 := Blk.below h.qb hb1 (Blk.lt h.qb)
  have ha1 := h.ar.below hb1 h.ar.lt
  have hlt : q < w.heap.size ∧ nb < w.heap.size := ⟨Blk.lt h.qb, h.ar.lt⟩
  have hne := h.ne.1
  have hrl : ∀ r, rootL L = some r → Liv P on r := fun r e => by
    cases L with
    | nil => cases e
    | cons p C => injection e with e; subst e; exact hF.live (p := p) (by simp) (by simp [BT.ids])
  have hrn : ptrN nd (rootL L) = ptrN (updN nd i (w.heap.size + 1)) (rootL L) := (ptrN_congr fun j e => updN_ne _ _ (show j ≠ i from fun x => hni (x ▸ hrl j e))).symm
  unfold QB at hq1
  rw [hrn] at hq1
  have HT := Lib.hid ht
  have HRN := Lib.hid hrn
  clear ht hrn
  unfold Timer.val
  go_enter Try.func27, Try.ntmps27
  go_wp2_with fail
  refine hf.mono ?_
  rintro e w1 ⟨rfl, rfl⟩
  clear hf hk
  go_upto_region 7 with fail
  generalize hw2 : (w.alloc (.cells #[.int .u64 t.at_, .int .u64 t.seq, .int .i64 t.place] 35)).alloc (.cells #[.int .u64 t.at_, .int .u64 t.seq, .int .i64 t.place, .pointer none, .pointer none, .pointer none] 82) = w2 at *
  have hg0 : w.heap.size ≤ w.heap.size + 1 := Nat.le_succ _
  have gq : q ≠ w.heap.size + 1 := by omega
  have gn : nb ≠ w.heap.size + 1 := by omega
  clear hw2
  have bxc := bx.drew.cell
  rw [HT.out] at bxc
  have hqc := Blk.cell (Blk.drew hq1)
  have haz := ha1.drew.frozen
  have hal := ha1.drew.lt
  have hac := (ha1.drew.cell i).trans (naC_get P on nd i hi)
  refine still_tail 8 (by kernel_rfl) (by kernel_rfl) ?_
  repeat still_step
  refine wpStill_nil ?_
  have hC0 : Chg (QS q nb P on nd) w w2.drew := Chg.of_same (hb1.drew) _
  have hN3 := hNM.drew
  have hq3 := Blk.drew hq1
  have ha3 := ha1.drew
  have hgg : Blk w2.drew (w.heap.size + 1) _ _ := hg.drew
  clear hNM hq1 ha1 bx hg hb1 bxc hqc
  generalize w2.drew = w3 at *
  go_upto_region 8 with fail
  generalize hge : w.heap.size + 1 = g at *
  have hC1 := hC0.setCell (p := ⟨nb, i, none⟩) (fun _ => .inr (.inl rfl)) (.pointer (some ⟨g, 0, none⟩))
  have hP4 : PM (w3.setCell ⟨nb, i, none⟩ (.pointer (some ⟨g, 0, none⟩))) q nb P (updB on i true) (updN nd i g) (updT tm i t) (newF f i) (rootL L) n := by
    refine ⟨hN3.chg (chg_cell w3 nb i _) fun j hj e => absurd (blk_same (e ▸ hN3.blk j hj : Blk w3 nb 82 _) ha3) (by decide), Blk.chg hq3 (chg_cell w3 nb i _) hne, ?_⟩
    have := ha3.put i (.pointer (some ⟨g, 0, none⟩))
    rwa [naC_put P on nd i g hi] at this
  clear hN3 hq3 ha3 haz hal hac hC0 hgg
  generalize w3.setCell ⟨nb, i, none⟩ (.pointer (some ⟨g, 0, none⟩)) = w4 at *
  have hrl2 : ∀ r, rootL L = some r → Liv P (updB on i true) r ∧ r ≠ i := fun r e => ⟨(hlive r).2 (.inr (hrl r e)), fun x => hni (x ▸ hrl r e)⟩
  have hjl : ∀ j, (rootL L = some j ∨ some i = some j) → Liv P (updB on i true) j := fun j hj => hj.elim (fun e => (hrl2 j e).1) fun e => by injection e with e; exact (hlive j).2 (.inl e.symm)
  have hme := ph_meld (Liv P (updB on i true)) (updN nd i g) (updT tm i t) (newF f i) w4 hP4.nm (rootL L) (some i) (fun r e => (hrl2 r e).1) (fun r e => by injection e with e; exact (hlive r).2 (.inl e.symm)) (fun j hj c e => hPF.ways (hjl j hj) (.inl e)) (fun r e e2 => (hrl2 r e).2 (by injection e2 with e2; exact e2.symm))
    (fun j hj c e => ⟨(hPF.kids (hjl j hj) e).1, fun z hz => by
      rcases hz with hz | hz
      · cases L with
        | nil => cases hz
        | cons p C => injection hz with hz; subst hz; exact (hPF.kids (hjl j hj) e).2 p (by simp)
      · injection hz with hz
        subst hz
        exact (hPF.kids (hjl j hj) e).2 (i, .nil) (by simp)⟩)
  obtain ⟨D, hD1, hD2, hD3, _⟩ := hPF.meldO hL (by simp)
  rw [show rootL [(i, BT.nil)] = some i from rfl] at hD2 hD3
  obtain ⟨j, hj⟩ : ∃ j, (meldO (updT tm i t) (newF f i) (rootL L) (some i)).2 = some j := by
    cases rootL L with
    | none => exact ⟨i, rfl⟩
    | some r => exact ⟨_, rfl⟩
  rw [hj] at hme hD3
  rw [ptrN_some, ptrN_some, updN_at] at hme
  have hC5 : ∀ w5, Chg (NB (Liv P (updB on i true)) (updN nd i g)) w4 w5 → Chg (QS q nb P on nd) w w5 := fun w5 k => hC1.trans k fun b hb ⟨z, hz, e⟩ => .inr (.inr (by
    rcases (hlive z).1 hz with rfl | hz
    · rw [updN_at] at e; omega
    · exact ⟨z, hz, by rw [← e, updN_ne _ _ (show z ≠ i from fun x => hni (x ▸ hz))]⟩))
  have hqc := Blk.cell hP4.qb
  have hW : wrap64 (n + 1) = n + 1 := by unfold wrap64; omega
  generalize ptrN (updN nd i g) (rootL L) = rv at *
  clear hrl hrl2 hlive hni HRN hC1 hPF hF h
  go_wp2_with fail
  refine hme.mono ?_
  rintro e w5 ⟨rfl, hMO⟩
  have hC5 := hC5 w5 hMO.chg
  have hP5 := hP4.nodes hMO.nm hMO.chg
  have hFin := (hP5.root_ (some j)).count (n + 1)
  have hq5 := Blk.cell hP5.qb
  have hz5 := Blk.frozen hP5.qb
  have hl5 := Blk.lt hP5.qb
  have hC6 := (hC5.setCell (p := ⟨q, 1, none⟩) (fun _ => .inl rfl) (ptrN (updN nd i g) (some j))).setCell (p := ⟨q, 2, none⟩) (fun _ => .inl rfl) (.int .i64 (n + 1))
  rw [ptrN_some] at hFin hC6
  generalize ptrN (updN nd i g) (rootL L) = rv2 at *
  have HFin := Lib.hid hFin
  have HC6 := Lib.hid hC6
  have HF := Lib.hid hD2
  have HD := Lib.hid hD3
  clear hme hMO hC5 hP5 hP4 hqc hFin hC6 hD2 hD3 hj
  go_wp2_with fail
  go_ret
  exact ⟨g, _, D, rfl, hg0, by rw [HD.out]; exact HFin.out, HF.out, hD1, HC6.out⟩
end Go.Proofs.Ytpbepmipfjcjbaa
