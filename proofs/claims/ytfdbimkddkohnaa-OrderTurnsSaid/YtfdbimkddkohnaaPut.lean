/- Order: slices.Insert of one timer; order.Put. -/
import Derived.Test.YtfdbimkddkohnaaSIns2
import Derived.Test.YtfdbimkddkohnaaOFind
import Derived.Test.YtfdbimkddkohnaaFactsB
namespace Go.Proofs.Ytfdbimkddkohnaa
open Go.RowKit
theorem sins_any (v : Value) (l : List Timer) (k : Nat) (hk : k ≤ l.length) (t : Timer) (base vb : Nat) (w : World) (h : OwnT w base v l) (hb : base ≤ w.heap.size) (hl : l.length ≤ 1000000) (ht : Blk w vb 25 #[.int .u64 t.at_, .int .u64 t.seq, .int .i64 t.place]) (hne : ∀ g, blkOf v = some g → g ≠ vb) :
    Calls Try.prog 57 #[v, .int .i64 k, .slice (some ⟨vb, 0, none⟩) 1 1] w fun e w' => ∃ v', e = .returned v' ∧ OwnT w' base v' (l.take k ++ [t] ++ l.drop k) ∧ Below base w w' := by
  have hend : ∀ hkl : k = l.length, Calls Try.prog 57 #[v, .int .i64 k, .slice (some ⟨vb, 0, none⟩) 1 1] w fun e w' => ∃ v', e = .returned v' ∧ OwnT w' base v' (l.take k ++ [t] ++ l.drop k) ∧ Below base w w' := by
    intro hkl
    subst hkl
    have hown : v.ownBlock ≠ some vb := by
      intro he
      cases v <;> simp only [Value.ownBlock] at he <;> try cases he
      rename_i p _ _
      cases p with
      | none => cases he
      | some a => exact hne a.block rfl (by simpa [Value.ownBlock] using he)
    have e := sins_end v l t base vb w h hb hl ht hown
    simpa using e
  rcases h with ⟨hlen, ⟨rfl, h0⟩ | ⟨g, cap, cur, rfl, hbg, hg, hlc, hm, hs, hcur⟩⟩
  · exact hend (by omega)
  · by_cases hkl : k = l.length
    · exact hend hkl
    · have hgv : vb ≠ g := fun e => hne g rfl e.symm
      by_cases hr : l.length + 1 ≤ cap
      · exact sins_shift g cap k cur l t base vb w hg hs hcur (by omega) hr hm hbg hb hl ht hgv
      · exact sins_grow g cap k cur l t base vb w hg hs hcur (by omega) hlc (by omega) hb hl ht hgv
theorem OwnT.frsh {x w : World} {v : Value} {l : List Timer} (h : OwnT w x.heap.size v l) : Frsh v x w := by
  obtain ⟨A, c, rfl, _, _, _, hA⟩ := h.at
  intro g hg
  cases A with
  | none => cases hg
  | some a => exact hA g hg
def FPt (A : Option Addr) (l : List Timer) (c n : Nat) (t : Timer) (B : Nat) : Nat → Value → World → Prop := fun k v w => match k with
  | 0 => v = .slice A l.length c
  | 1 => OwnT w B v l
  | 2 => v = .slice A l.length c
  | 3 => v = .agg #[.int .u64 t.at_, .int .u64 t.seq, .int .i64 t.place]
  | 4 => v = .int .i64 n
  | 5 => v = .agg #[.int .u64 t.at_, .int .u64 t.seq, .int .i64 t.place]
  | _ => ∃ g, v = .slice (some ⟨g, 0, none⟩) 1 1 ∧ Blk w g 25 #[.int .u64 t.at_, .int .u64 t.seq, .int .i64 t.place]
theorem FPt.keep (A : Option Addr) (l : List Timer) (c n : Nat) (t : Timer) (B : Nat) (k : Nat) (v : Value) (w w' : World) (h : FPt A l c n t B k v w) (r : Below w.heap.size w w') : FPt A l c n t B k v w' := by
  unfold FPt at h ⊢
  split at h
  · exact h
  · exact h.below r (Nat.le_refl _)
  · exact h
  · exact h
  · exact h
  · exact h
  · obtain ⟨g, h1, h2⟩ := h
    exact ⟨g, h1, h2.below r h2.lt⟩
structure SPt (A : Option Addr) (l : List Timer) (c : Nat) (t : Timer) (w w' : World) : Prop where
  box : Blk w' w.heap.size 25 #[.int .u64 t.at_, .int .u64 t.seq, .int .i64 t.place]
  lat : LAt w' (.slice A l.length c) l
  below : Below w.heap.size w w'
theorem SPt.kept {A : Option Addr} {l : List Timer} {c : Nat} {t : Timer} {w x y : World} (h : SPt A l c t w x) (k : Below x.heap.size x y) : SPt A l c t w y :=
  ⟨h.box.below k h.box.lt, h.lat.on k, h.below.trans (Below.mono k h.below.size)⟩
theorem LAt.tm {w : World} {A : Option Addr} {n c : Nat} {l : List Timer} (h : LAt w (.slice A n c) l) : TmAt w w.heap.size A l := by
  obtain ⟨A', c', e, hT, _⟩ := h
  injection e with e1 e2 e3
  subst e1
  exact hT
theorem SPt.size {A : Option Addr} {l : List Timer} {c : Nat} {t : Timer} {w x : World} (h : SPt A l c t w x) : w.heap.size ≤ x.heap.size := h.below.size
set_option maxRecDepth 100000 in
set_option maxHeartbeats 2000000 in
theorem oput_bad (v : Value) (l : List Timer) (t : Timer) (w : World) (h : LAt w v l) (hl : l.length ≤ 1000000) (hs : srtB l = false) :
    Calls Try.prog 33 #[v, t.val] w fun e w' => e = .returned (.tuple #[.slice none 0 0, .int .i64 12]) ∧ Below w.heap.size w w' := by
  obtain ⟨A, c, rfl, hT, _⟩ := h
  have hb0 : Below w.heap.size w (w.alloc (.cells #[.int .u64 t.at_, .int .u64 t.seq, .int .i64 t.place] 25)) := (Below.refl _ _).alloc (Nat.le_refl _) _
  have hcon := sorted_any A l c _ (hT.box (.cells #[.int .u64 t.at_, .int .u64 t.seq, .int .i64 t.place] 25)) hl
  rw [hs] at hcon
  unfold Timer.val at *
  go_enter Try.func33, Try.ntmps33
  go_wp2_with fail
  refine hcon.mono ?_
  rintro e w1 ⟨rfl, hx⟩
  have hb1 := hb0.trans (Below.mono hx (by simp))
  clear hcon hx hb0
  go_wp2_with fail
  go_ret2
  exact ⟨rfl, hb1⟩
attribute [local irreducible] Calls
set_option maxRecDepth 100000 in
set_option maxHeartbeats 2000000 in
theorem oput_ok (v : Value) (l : List Timer) (t : Timer) (w : World) (h : LAt w v l) (hl : l.length ≤ 100000) (hs : srtB l = true) :
    Calls Try.prog 33 #[v, t.val] w fun e w' => ∃ v', e = .returned (.tuple #[v', .int .i64 0]) ∧ OwnT w' w.heap.size v' (putL l t) ∧ Below w.heap.size w w' := by
  have hlat := h
  obtain ⟨A, c, rfl, hT, _⟩ := h
  have hb0 : Below w.heap.size w (w.alloc (.cells #[.int .u64 t.at_, .int .u64 t.seq, .int .i64 t.place] 25)) := (Below.refl _ _).alloc (Nat.le_refl _) _
  have hcon := sorted_any A l c _ (hT.box (.cells #[.int .u64 t.at_, .int .u64 t.seq, .int .i64 t.place] 25)) (by omega)
  rw [hs] at hcon
  have hsrt := (srtB_iff l).1 hs
  have k0 : SPt A l c t w (w.alloc (.cells #[.int .u64 t.at_, .int .u64 t.seq, .int .i64 t.place] 25)) := ⟨Blk.new _ _ _, hlat.on hb0, hb0⟩
  have hn := nBefore_le l t
  have HP := Lib.hid (show putL l t = l.take (nBefore l t) ++ [t] ++ l.drop (nBefore l t) from rfl)
  have HF := Lib.hid (fun w1 h1 => find_in A l c t w1 h1 (by omega) hsrt)
  generalize putL l t = res at *
  generalize nBefore l t = n at *
  clear hT hlat
  unfold Timer.val at *
  go_enter Try.func33, Try.ntmps33
  go_wp2_with fail
  refine hcon.mono ?_
  rintro e w1 ⟨rfl, hx⟩
  have k1 := (k0.kept hx).kept ((Below.refl _ _).drew)
  clear hcon hx hb0 k0
  go_upto_region 3 with fail
  refine region_facts_own 7 (fun j => j == 1 || j == 6) (FPt A l c n t w.heap.size) (SPt A l c t w) (fun x y => Below x.heap.size x y) (List.range' 9 7 ++ []) (by kernel_rfl) (by kernel_rfl) (by kernel_rfl) (by decide) (by kernel_rfl) (by kernel_rfl) (FPt.keep A l c n t w.heap.size) (fun _ _ h k => h.kept k) (fun _ _ h => h.size) k1 ?_ ?_
  · intro fr hfr
    have f0 : fr.getD 0 undef = .slice A l.length c := by rw [hfr]; rfl
    have f3 : fr.getD 3 undef = .pointer (some ⟨w.heap.size, 0, none⟩) := by rw [hfr]; rfl
    clear hfr
    iterate 7
      refine ⟨⟨trivial, ?_⟩, ?_⟩
      · intro ρ w' hρ hd hS
        simp only [DepF, Region.binds, dat, Nat.reduceLT, Nat.reduceAdd, FPt, forall_const, and_true] at hd
        have hcon := hρ.con
        have e0 := (hρ.slot 0 (by kernel_rfl)).trans f0
        have e3 := (hρ.slot 3 (by kernel_rfl)).trans f3
        have hc1 := hS.box.cell
        (try rw [execOp_call_fn _ _ _ _ _ _ _ _ _ (hρ.fn _)])
        go_simp
        (try simp only [GoodB, FPt])
        first
          | exact ⟨rfl, Below.refl _ _, fun h => absurd h (by decide)⟩
          | exact ⟨trivial, Below.refl _ _, fun h => absurd h (by decide)⟩
          | (go_at_call 54; refine (clone_any _ l w' hS.lat.lw (by omega)).mono ?_; rintro e w'' ⟨v', rfl, ho, hk⟩; exact ⟨v', rfl, ho.mono hS.size, hk, fun _ => ho.frsh⟩)
          | (go_at_call 58; refine (HF.out w' hS.lat.tm).mono ?_; rintro e w'' ⟨rfl, hk⟩; exact ⟨_, rfl, rfl, hk, fun h => absurd h (by decide)⟩)
          | exact ⟨⟨_, rfl, Blk.new _ _ _⟩, alloc_kept' _ _, fun _ g hg => by simp [blkOf] at hg; subst hg; simp⟩
    trivial
  · intro vs w3 hs3 hF hd
    have h1 : OwnT w3 w.heap.size (vs 1) l := hF 1 (by decide)
    have h4 : vs 4 = .int .i64 n := hF 4 (by decide)
    obtain ⟨g, h6, hg6⟩ : ∃ g, vs 6 = .slice (some ⟨g, 0, none⟩) 1 1 ∧ Blk w3 g 25 #[.int .u64 t.at_, .int .u64 t.seq, .int .i64 t.place] := hF 6 (by decide)
    have hdd := hd 1 6 (by decide) (by decide) (by decide) (by decide) (by decide)
    rw [h6] at hdd
    have hsi := sins_any (vs 1) l n hn t w.heap.size g w3 h1 hs3.size (by omega) hg6 (fun g' e1 e2 => hdd g' e1 (by subst e2; rfl))
    rw [← HP.out] at hsi
    have hb3 := hs3.below
    clear hF hd hdd hg6 hs3 k1 h1
    simp only [List.range'_succ, List.range'_zero, List.append_nil, setAll, List.setIfInBounds_toArray, List.set_cons_zero, List.set_cons_succ, Nat.reduceAdd]
    rw [h4, h6]
    clear h4 h6
    simp only [List.drop_succ_cons, List.drop_zero]
    go_wp2_with fail
    refine hsi.mono ?_
    rintro e w4 ⟨v4, rfl, ho4, hb4⟩
    have hb5 := hb3.trans hb4
    clear hsi hb3 hb4
    go_wp2_with fail
    go_ret2
    exact ⟨v4, rfl, ho4, hb5⟩
end Go.Proofs.Ytfdbimkddkohnaa
