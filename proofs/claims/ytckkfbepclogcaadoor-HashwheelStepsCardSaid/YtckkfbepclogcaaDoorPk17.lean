/- Part 17: the texts HPen HDue, laid end to end by a program. -/
import Derived.Maps.AppendAt
import Derived.Test.YtckkfbepclogcaaDoorPk14
import Derived.Test.YtckkfbepclogcaaDoorPk16
namespace Go.Proofs.YtckkfbepclogcaaDoor
open Go.RowKit

theorem pend_succ (k : Nat) (on : Nat → Bool) (tm : Nat → Timer) : pendL (k + 1) on tm = pendL k on tm ++ if on k = true then [tm k] else [] := by
  unfold pendL
  rw [List.range_succ, List.filter_append, List.map_append]
  by_cases h : on k = true <;> simp [h]
set_option maxRecDepth 100000 in
set_option maxHeartbeats 2000000 in
theorem hpending_any (q tb c nb P S : Nat) (s : HSt) (b : Bits) (lk : Int) (w : World) (h : HM w q tb c nb P S s b lk) (z : HSz P S) :
    Calls Tryd.prog 52 #[.pointer (some ⟨q, 0, none⟩)] w fun e w' => ∃ v, e = .returned v ∧ OwnT w' w.heap.size v (s.pend P) ∧ Below w.heap.size w w' := by
  obtain ⟨i0, hi, hz0, hz1, hz2⟩ := info_parts info_timer
  have hP := z.hP
  have hc := h.blk.cell
  go_enter Tryd.func52, Tryd.ntmps52
  go_wp2
  clear hc
  go_loopw [3, 12] (fun v i wr => ∃ k : Nat, k ≤ P ∧ i = .int .i64 k ∧ OwnT wr w.heap.size v (pendL k s.on s.tm) ∧ Below w.heap.size w wr) (fun _ i _ => P - (intOf i).toNat)
  case atStart => exact ⟨0, Nat.zero_le _, rfl, OwnT.nil _ _, Below.refl _ _⟩
  case round =>
    obtain ⟨k, hk, rfl, hown, hb⟩ := hrel
    by_cases hlt : k < P
    · have hg := hget_any q tb c nb P S s b lk k wr (h.below hb) z
      have HS := Lib.hid (pend_succ k s.on s.tm)
      have hdl : (pendL k s.on s.tm).length ≤ 1024 := Nat.le_trans (pendL_le _ _ _) (by omega)
      by_cases hon : s.on k = true
      · have ha : atW P s k = some (s.tm k) := by
          unfold atW
          rw [atP_on (by omega) (by rw [Int.toNat_natCast]; exact hon), Int.toNat_natCast]
        rw [ha] at hg
        rw [if_pos hon] at HS
        generalize s.tm k = x at *
        generalize pendL k s.on s.tm = d at *
        unfold pairT at hg
        simp only [Option.getD_some, Option.isSome_some] at hg
        unfold Timer.val at hg
        clear ha hon h
        go_wp2_with fail
        refine hg.mono ?_
        rintro e w1 ⟨rfl, hx⟩
        have hown1 : OwnT w1 w.heap.size _ d := ownsRow_keep (w' := w1) hown (fun g hg _ => hx.block g hg)
        have hb1 : Below w.heap.size w w1 := hb.trans (Below.mono hx hb.size)
        clear hg hx hown hb
        go_wp2_with (at_builtin; refine wpList_append_own _ rfl _ _ 29 rfl w.heap.size 37 i0 (.agg #[.int .u64 0, .int .u64 0, .int .i64 0]) 3 24 Tryd.underlying29 hi hz0 hz1 hz2 rfl (by decide) _ _ _ rfl ((hown1.alloc _).alloc _) ⟨w1.heap.size + 1, 0, none⟩ 1 1 x.cells rfl ?c0 ?c1 ?c2 ?c3 ?c4 ?c5 ?_)
        case c0 => rfl
        case c1 =>
          have := cells_new (w1.alloc (.cells #[.int .u64 x.at_, .int .u64 x.seq, .int .i64 x.place] 37)) 37 x.cells
          rw [World.size_alloc] at this
          exact this
        case c2 => intro v hv; exact one_cell [x] v (by rw [cells_one]; exact hv)
        case c3 => unfold maxLen; omega
        case c4 => omega
        case c5 => have := hb1.size; simp; omega
        intro v2 w2 hown2 hgr2 _
        have hwl := hb1.size
        have hb2 := below_app (hb1.alloc hwl (.cells #[.int .u64 x.at_, .int .u64 x.seq, .int .i64 x.place] 37)) (hown1.alloc _) hgr2 (by simp; omega) (Nat.le_refl _)
        have hown3 : OwnT w2 w.heap.size v2 (pendL (k + 1) s.on s.tm) := by
          unfold OwnT
          rw [HS.out, List.length_append, List.flatMap_append, cells_one]
          exact hown2
        clear hgr2 hown1 hown2 hb1
        go_wp2
        go_roundw
        case rel => exact ⟨k + 1, by omega, by go_num, hown3, hb2⟩
        case measure => simp [intOf]; omega
      · have ha : atW P s k = none := by
          unfold atW
          exact atP_off (by rw [Int.toNat_natCast]; exact hon)
        rw [ha] at hg
        rw [if_neg hon, List.append_nil] at HS
        generalize pendL k s.on s.tm = d at *
        unfold pairT at hg
        simp only [Option.getD_none, Option.isSome_none] at hg
        unfold Timer.val Timer.zero at hg
        clear ha hon
        go_wp2_with fail
        refine hg.mono ?_
        rintro e w1 ⟨rfl, hx⟩
        have hown1 : OwnT (w1.alloc (.cells #[.int .u64 0, .int .u64 0, .int .i64 0] 37)) w.heap.size _ d := OwnT.alloc (ownsRow_keep (w' := w1) hown (fun g hg _ => hx.block g hg)) _
        have hb1 : Below w.heap.size w (w1.alloc (.cells #[.int .u64 0, .int .u64 0, .int .i64 0] 37)) := (hb.trans (Below.mono hx hb.size)).alloc (Nat.le_trans hb.size hx.size) _
        have HW := Lib.hid hown1
        have HB := Lib.hid hb1
        clear hg hx hown hb h hown1 hb1
        go_wp2_with fail
        go_roundw
        case rel => exact ⟨k + 1, by omega, by go_num, by rw [HS.out]; exact HW.out, HB.out⟩
        case measure => simp [intOf]; omega
    · obtain rfl : k = P := by omega
      clear h
      go_wp2
      go_ret
      exact ⟨_, rfl, hown, hb⟩
set_option maxRecDepth 100000 in
theorem hq_all (q tb c nb P S : Nat) (base lk : Int) (m : List Timer) (w : World) (h : HQ w q tb c nb P S base lk m) (z : HSz P S) :
    Calls Tryd.prog 26 #[.pointer (some ⟨q, 0, none⟩)] w fun e w' => ∃ v, e = .returned v ∧ OwnT w' w.heap.size v m ∧ Below w.heap.size w w' := by
  obtain ⟨s, b, hm, hp, rfl⟩ := h.ex
  have hP := z.hP
  have hpe := hpending_any q tb c nb P S s b lk w hm z
  have hsort := hp.sort
  have hle : (s.pend P).length ≤ 1000000 := Nat.le_trans (pendL_le _ _ _) (by omega)
  clear h hm hp
  go_enter Tryd.func26, Tryd.ntmps26
  go_wp2_with fail
  refine hpe.mono ?_
  rintro e w1 ⟨v, rfl, ho, hx⟩
  have hs := osort_any v (s.pend P) w1 ho.lat hle
  rw [show sortL (s.pend P) = m from hsort] at hs
  clear hpe
  go_wp2_with fail
  refine hs.mono ?_
  rintro e w2 ⟨v2, rfl, ho2, hy⟩
  go_wp2_with fail
  go_ret
  exact ⟨_, rfl, ho2.mono hx.size, hx.trans (Below.mono hy hx.size)⟩
set_option maxRecDepth 100000 in
theorem hq_min (q tb c nb P S : Nat) (base lk : Int) (m : List Timer) (w : World) (h : HQ w q tb c nb P S base lk m) (z : HSz P S) :
    Calls Tryd.prog 23 #[.pointer (some ⟨q, 0, none⟩)] w fun e w' => e = .returned (pairT m.head?) ∧ Below w.heap.size w w' := by
  obtain ⟨s, b, hm, hp, rfl⟩ := h.ex
  have hP := z.hP
  have hb0 : Below w.heap.size w (w.alloc (.cells #[.int .u64 0, .int .u64 0, .int .i64 0] 37)) := (Below.refl _ _).alloc (Nat.le_refl _) _
  have q0 : Blk (w.alloc (.cells #[.int .u64 0, .int .u64 0, .int .i64 0] 37)) w.heap.size 37 #[.int .u64 0, .int .u64 0, .int .i64 0] := Blk.new _ _ _
  have hpe := hpending_any q tb c nb P S s b lk _ (hm.below hb0) z
  have hmin : firstL (s.pend P) = m.head? := hp.min
  have hle : (s.pend P).length ≤ 100000 := Nat.le_trans (pendL_le _ _ _) (by omega)
  clear h hm hp
  go_enter Tryd.func23, Tryd.ntmps23
  go_wp2_with fail
  refine hpe.mono ?_
  rintro e w1 ⟨v, rfl, ho, hx⟩
  have hs := tfirst_any v (s.pend P) w1 ho.lat hle
  rw [hmin] at hs
  have q1 := q0.below hx q0.lt
  have hb1 := hb0.trans (Below.mono hx hb0.size)
  clear hpe ho hx hb0 q0
  go_wp2_with fail
  refine hs.mono ?_
  rintro e w2 ⟨rfl, hy⟩
  have q2 := q1.below hy q1.lt
  have hb2 := hb1.trans (Below.mono hy hb1.size)
  have z2 := q2.frozen
  have c2 := q2.cell
  have l2 := q2.lt
  have hs3 := fun a b c i => (((q2.put 0 a).put 1 b).put 2 c).cell i
  have HB := Lib.hid (show ∀ a b c, Below w.heap.size w (((w2.setCell ⟨w.heap.size, 0, none⟩ a).setCell ⟨w.heap.size, 1, none⟩ b).setCell ⟨w.heap.size, 2, none⟩ c) from fun _ _ _ => ((hb2.setCell (Nat.le_refl _) _).setCell (Nat.le_refl _) _).setCell (Nat.le_refl _) _)
  clear hs hy q1 hb1
  have HV := Lib.hid (show pairT m.head? = .tuple #[(m.head?.getD Timer.zero).val, .bool m.head?.isSome] from rfl)
  unfold pairT Timer.val
  generalize m.head?.isSome = ok at *
  generalize m.head?.getD Timer.zero = x at *
  go_wp2_with fail
  refine bodyPost_ret (v := .tuple #[x.val, .bool ok]) (by simp [results, Tryd.results23, go_sem, Timer.val, hs3]) rfl ⟨by rw [HV.out], HB.out _ _ _⟩
end Go.Proofs.YtckkfbepclogcaaDoor
namespace Go.Proofs.YtckkfbepclogcaaDoor
open Go.RowKit
/-- The ints at A are xs. -/
def NatsAt (w : World) (A : Option Addr) (xs : List Nat) : Prop := ∀ k (h : k < xs.length), ∃ g cur, A = some ⟨g, 0, none⟩ ∧ Blk w g 3 cur ∧ cur[k]? = some (.int .i64 (xs[k] : Nat))
theorem NatsAt.keep {w w' : World} {A : Option Addr} {xs : List Nat} (h : NatsAt w A xs) (hk : ∀ g cur, Blk w g 3 cur → w'.heap[g]? = w.heap[g]?) : NatsAt w' A xs := by
  intro k hlt
  obtain ⟨g, cur, e, hb, hc⟩ := h k hlt
  exact ⟨g, cur, e, (hk g cur hb).trans hb, hc⟩
theorem nats_own {w : World} {base : Nat} {v : Value} {xs : List Nat} (h : w.ownsRow base 3 1 v xs.length (xs.map natV)) : ∃ A cap, v = .slice A xs.length cap ∧ NatsAt w A xs := by
  rcases h.2 with ⟨rfl, hl⟩ | ⟨g, cap, cur, rfl, hg, hh, hc, hm, hs, ht⟩
  · have : xs = [] := List.eq_nil_of_length_eq_zero hl
    subst this
    exact ⟨none, 0, rfl, fun k hk => absurd hk (by simp)⟩
  · refine ⟨some ⟨g, 0, none⟩, cap, rfl, ?_⟩
    intro k hk
    refine ⟨g, cur, rfl, hh, ?_⟩
    have hu : (xs.map natV)[k]? = some (.int .i64 (xs[k] : Nat)) := by simp [hk, natV]
    rw [← ht, List.getElem?_take] at hu
    split at hu
    · simpa using hu
    · cases hu
theorem grown_chg' {w w' : World} {ob : Option Nat} (hg : w.grownBy w' ob) : Chg (fun g => ob = some g) w w' :=
  ⟨hg.os, hg.tape, hg.output, hg.size, fun k hk hn => hg.block k hk (fun e => hn e.symm)⟩
theorem HM.chg {w w' : World} {q tb c nb P S : Nat} {s : HSt} {b : Bits} {lk : Int} {T : Nat → Prop} (h : HM w q tb c nb P S s b lk) (k : Chg T w w') (h1 : ¬ T q) (h2 : ¬ T tb) (h3 : ¬ T c) (h4 : ¬ T nb) : HM w' q tb c nb P S s b lk :=
  ⟨h.blk.chg k h1, h.tms.chg k h2, h.ch.chg k h3 h4, h.busy, h.ok⟩
/-- Of the list j all those due have been taken: l' are they. -/
structure DueOf (P S : Nat) (s : HSt) (j : Nat) (now : Int) (l' : List Timer) (s' : HSt) : Prop where
  took : Took P (S + 1) (slotOf S) s (fun x => x.at_ ≤ now) l' s'
  left : ∀ i, i < P → s'.inn i = some j → now < (s'.tm i).at_
  else_ : ∀ m, m ≠ j → s'.L m = s.L m
/-- What the taking may change: the wheel, and the row that the taken ones are put behind. -/
def DS (q nb : Nat) (v : Value) : Nat → Prop := fun g => g = q ∨ g = nb ∨ v.ownBlock = some g
/-- The row lies where it lay, or anew. -/
def Anew (w : World) (v u : Value) : Prop := ∀ g, u.ownBlock = some g → v.ownBlock = some g ∨ w.heap.size ≤ g
set_option maxRecDepth 100000 in
set_option maxHeartbeats 2000000 in
theorem hdue_any (q tb c nb P S j base : Nat) (s : HSt) (b : Bits) (lk now : Int) (v : Value) (l : List Timer) (w : World) (h : HM w q tb c nb P S s b lk) (z : HSz P S) (hj : j < S + 1) (hown : OwnT w base v l) (hl : l.length ≤ 5000)
    (hq : q < base) (ht : tb < base) (hcb : c < base) (hn : nb < base) (hbw : base ≤ w.heap.size) :
    Calls Tryd.prog 54 #[.pointer (some ⟨q, 0, none⟩), v, .int .i64 j, .int .u64 now] w fun e w' =>
      ∃ v' l' s' b', e = .returned v' ∧ HM w' q tb c nb P S s' b' lk ∧ OwnT w' base v' (l ++ l') ∧ DueOf P S s j now l' s' ∧ Chg (DS q nb v) w w' ∧ Anew w v v' := by
  obtain ⟨i0, hi, hz0, hz1, hz2⟩ := info_parts info_timer
  have hP := z.hP
  have hS2 := z.hS2
  have hc := h.blk.cell
  have hnd := h.ok.nodup j hj
  have hpl : (s.pend P).length ≤ P := pendL_le _ _ _
  have hal := call_any c nb P (S + 1) j s.inn s.L w h.ch (by omega) hj
  obtain ⟨A0, c0, rfl, _⟩ := hown.at
  go_enter Tryd.func54, Tryd.ntmps54
  go_wp2_with fail
  refine hal.mono ?_
  rintro e w1 ⟨xv, rfl, hxo, hx⟩
  obtain ⟨A1, c1, rfl, hxs⟩ := nats_own hxo
  have h1 := h.below hx
  have hown1 : OwnT w1 base (.slice A0 l.length c0) (l ++ []) := by rw [List.append_nil]; exact ownsRow_keep (w' := w1) hown (fun g hg _ => hx.block g hg)
  have hch1 : Chg (DS q nb (.slice A0 l.length c0)) w w1 := Chg.of_same hx _
  have han1 : Anew w (.slice A0 l.length c0) (.slice A0 l.length c0) := fun _ e => .inl e
  have hsw := Swp.start (P := P) h.ok hj (fun x => now < x.at_)
  have htk := Took.refl (P := P) (N := S + 1) (f := slotOf S) h.ok (fun x => x.at_ ≤ now)
  have hmem := fun i hi => (h.ok.mem j hj i hi).1
  have hin := hmem
  clear hal hxo hx hc hown h
  generalize hxe : s.L j = xs at *
  have hxl : xs.length ≤ P := by
    have := nodup_le xs (List.range P) hnd fun x hx => List.mem_range.2 (hmem x hx)
    simpa using this
  have hb1 : base ≤ w1.heap.size := Nat.le_trans hbw hch1.size
  clear hxe
  go_wp2_with fail
  go_loopw [1, 21] (fun u i wr => ∃ (k : Nat) (s' : HSt) (b' : Bits) (l' : List Timer), k ≤ xs.length ∧ i = .int .i64 k ∧ HM wr q tb c nb P S s' b' lk ∧ OwnT wr base u (l ++ l') ∧ Took P (S + 1) (slotOf S) s (fun x => x.at_ ≤ now) l' s' ∧ Swp P s (fun x => now < x.at_) j xs k s' ∧ NatsAt wr A1 xs ∧ Chg (DS q nb (.slice A0 l.length c0)) w wr ∧ base ≤ wr.heap.size ∧ Anew w (.slice A0 l.length c0) u) (fun _ i _ => xs.length - (intOf i).toNat)
  case atStart => exact ⟨0, s, b, [], Nat.zero_le _, rfl, h1, hown1, htk, hsw, hxs, hch1, hb1, han1⟩
  case round =>
    clear h1 hown1 htk hsw hxs hch1 hb1 han1
    obtain ⟨k, s', b', l', hk, rfl, hm, hown, htk, hsw, hxs, hch, hbr, han⟩ := hrel
    by_cases hlt : k < xs.length
    · have hl' : l'.length ≤ P := by
        have := htk.len
        omega
      have hxm : xs[k] ∈ xs.drop k := by
        rw [List.drop_eq_getElem_cons hlt]
        exact List.mem_cons_self
      have hin' := hsw.rest _ hxm
      have hxP := hmem _ (List.getElem_mem hlt)
      obtain ⟨g, cur, rfl, hgb, hgc⟩ := hxs k hlt
      have cx := (hgb.cell k).trans hgc
      have htm := htk.tm
      have t0 := (hm.tms.cell _).trans (tmC_at P s'.tm xs[k] hxP)
      have hmc := hm.blk.cell
      have hqb := hm.blk
      obtain ⟨nx, pv, hcn, _⟩ := hm.ch.st
      have hnodb := hcn.nod
      clear hgb hgc hcn
      by_cases hdu : (s'.tm xs[k]).at_ ≤ now
      · have hcan := hcan_ok q tb c nb P S xs[k] j s' b' lk wr hm z hxP hin'
        have HT := Lib.hid (htk.one hxP hin' (show (s.tm xs[k]).at_ ≤ now by rw [← htm]; exact hdu))
        have HW := Lib.hid (hsw.take hnd hlt)
        rw [← htm] at HT
        clear hsw htk htm hmem hnd hxm
        generalize hxv : xs[k] = x at *
        generalize s'.tm x = y at *
        have hdl : (l ++ l').length ≤ 100000 := by simp; omega
        have HL := Lib.hid (show (l ++ l') ++ [y] = l ++ (l' ++ [y]) by simp)
        generalize l ++ l' = d at *
        unfold teV Timer.val at hcan
        obtain ⟨A5, c5, rfl, _⟩ := hown.at
        go_wp2_with fail
        refine hcan.mono ?_
        rintro e w2 ⟨rfl, ⟨b2, hm2⟩, hk2⟩
        have hown2 : OwnT w2 base (.slice A5 d.length c5) d := ownsRow_keep (w' := w2) hown (fun g2 hg2 hgo => hk2.block g2 hg2 (by have := own_base hown g2 hgo; omega))
        have hxs2 : NatsAt w2 (some ⟨g, 0, none⟩) xs := hxs.keep fun g2 cur2 hb2 => hk2.block g2 hb2.lt (fun e => by
          rcases e with rfl | rfl
          · exact hb2.ne hqb (by decide) rfl
          · exact hb2.ne hnodb (by decide) rfl)
        have hch2 : Chg (DS q nb (.slice A0 l.length c0)) w w2 := hch.trans hk2 (fun k _ e => by
          rcases e with rfl | rfl
          · exact .inl rfl
          · exact .inr (.inl rfl))
        have hb2 : base ≤ w2.heap.size := Nat.le_trans hbr hk2.size
        have hwl := hch2.size
        clear hcan hown hxs hch hk2 hqb hnodb hm hmc t0 cx hin' hdu
        go_wp2_with (at_builtin; refine wpList_append_own_at _ rfl _ _ 29 rfl base 37 i0 (.agg #[.int .u64 0, .int .u64 0, .int .i64 0]) 3 24 Tryd.underlying29 hi hz0 hz1 hz2 rfl (by decide) _ _ _ rfl ((hown2.alloc _).alloc _) ⟨w2.heap.size + 1, 0, none⟩ 1 1 y.cells rfl ?c0 ?c1 ?c2 ?c3 ?c4 ?c5 ?_)
        case c0 => rfl
        case c1 =>
          have := cells_new (w2.alloc (.cells #[.int .u64 y.at_, .int .u64 y.seq, .int .i64 y.place] 37)) 37 y.cells
          rw [World.size_alloc] at this
          exact this
        case c2 => intro v hv; exact one_cell [y] v (by rw [cells_one]; exact hv)
        case c3 => unfold maxLen; omega
        case c4 => omega
        case c5 => simp; omega
        intro v2 w3 hown3 hgr3 _ hat
        have hk3 : Chg (fun g => (Value.slice A5 d.length c5).ownBlock = some g) w2 w3 := by
          have k1 : Chg (fun g => (Value.slice A5 d.length c5).ownBlock = some g) w2 ((w2.alloc (.cells #[.int .u64 y.at_, .int .u64 y.seq, .int .i64 y.place] 37)).alloc (.cells y.cells.toArray 37)) := ((Chg.refl _ w2).alloc _).alloc _
          exact k1.trans (grown_chg' hgr3) (fun g _ e => e)
        have hbo := own_base hown2
        have hm3 := hm2.chg hk3 (fun e => by have := hbo _ e; omega) (fun e => by have := hbo _ e; omega) (fun e => by have := hbo _ e; omega) (fun e => by have := hbo _ e; omega)
        have hown4 : OwnT w3 base v2 (l ++ (l' ++ [y])) := by
          unfold OwnT
          rw [← HL.out, List.length_append, List.flatMap_append, cells_one]
          exact hown3
        have hxs3 : NatsAt w3 (some ⟨g, 0, none⟩) xs := hxs2.keep fun g2 cur2 hb2 => by
          have q1 : ((w2.alloc (.cells #[.int .u64 y.at_, .int .u64 y.seq, .int .i64 y.place] 37)).alloc (.cells y.cells.toArray 37)).heap[g2]? = w2.heap[g2]? := (Below.heap_alloc _ _ _ (by simp; have := hb2.lt; omega)).trans (Below.heap_alloc _ _ _ hb2.lt)
          refine (hgr3.block g2 (by have := hb2.lt; simp; omega) ?_).trans q1
          intro e
          rcases hown2.2 with ⟨hv, _⟩ | ⟨g3, cap, cur3, hv, _, hh, _⟩
          · rw [hv] at e; cases e
          · rw [hv] at e
            simp only [Value.ownBlock, Option.some.injEq] at e
            subst e
            exact hb2.ne (show Blk w2 g2 37 cur3 from hh) (by decide) rfl
        have hch3 : Chg (DS q nb (.slice A0 l.length c0)) w w3 := hch2.trans hk3 (fun k hk e => by
          rcases han k e with e | e
          · exact .inr (.inr e)
          · omega)
        have han3 : Anew w (.slice A0 l.length c0) v2 := fun g2 e => by
          rcases hat with e2 | e2
          · exact han g2 (e2.symm.trans e)
          · rw [e2] at e
            simp only [Option.some.injEq] at e
            exact .inr (by omega)
        have hb3 : base ≤ w3.heap.size := Nat.le_trans hb2 hk3.size
        clear hgr3 hown2 hown3 hm2 hxs2 hch2 hk3
        go_wp2
        go_roundw
        case rel => exact ⟨k + 1, s'.del x j, b2, l' ++ [y], by omega, by go_num, hm3, hown4, HT.out, HW.out, hxs3, hch3, hb3, han3⟩
        case measure => simp [intOf]; omega
      · have HW := Lib.hid (hsw.leave hlt (show now < (s'.tm xs[k]).at_ by omega))
        have HT := Lib.hid htk
        clear hsw htk htm hmem hnd hxm hqb hnodb
        generalize xs[k] = x at *
        generalize s'.tm x = y at *
        go_wp2_with fail
        go_roundw
        case rel => exact ⟨k + 1, s', b', l', by omega, by go_num, hm, hown, HT.out, HW.out, hxs, hch, hbr, han⟩
        case measure => simp [intOf]; omega
    · obtain rfl : k = xs.length := by omega
      have hd := hsw.done
      have HD : Hid (DueOf P S s j now l' s') := Lib.hid ⟨htk, hd.1, hd.2⟩
      clear hsw hd htk hxs
      go_wp2
      go_ret
      exact ⟨_, l', s', b', rfl, hm, hown, HD.out, hch, han⟩
end Go.Proofs.YtckkfbepclogcaaDoor
