/- Part 17: the texts HPen HDue Rm Rm2 Rb Rdrop, laid end to end by a program. -/
import Derived.Maps.AppendAt
import Derived.Test.YtckkfbepclogcaaGreatDoorPk14
import Derived.Test.YtckkfbepclogcaaGreatDoorPk16
import Derived.Test.YtckkfbepclogcaaGreatDoorPk5
import Derived.Test.YtckkfbepclogcaaGreatDoorPk6
import Derived.Test.YtckkfbepclogcaaGreatDoorPk1
namespace Go.Proofs.YtckkfbepclogcaaGreatDoor
open Go.RowKit

theorem pend_succ (k : Nat) (on : Nat → Bool) (tm : Nat → Timer) : pendL (k + 1) on tm = pendL k on tm ++ if on k = true then [tm k] else [] := by
  unfold pendL
  rw [List.range_succ, List.filter_append, List.map_append]
  by_cases h : on k = true <;> simp [h]
set_option maxRecDepth 100000 in
set_option maxHeartbeats 2000000 in
theorem hpending_any (q tb c nb P S : Nat) (s : HSt) (b : Bits) (lk : Int) (w : World) (h : HM w q tb c nb P S s b lk) (z : HSz P S) :
    Calls Tryz.prog 52 #[.pointer (some ⟨q, 0, none⟩)] w fun e w' => ∃ v, e = .returned v ∧ OwnT w' w.heap.size v (s.pend P) ∧ Below w.heap.size w w' := by
  obtain ⟨i0, hi, hz0, hz1, hz2⟩ := info_parts info_timer
  have hP := z.hP
  have hc := h.blk.cell
  go_enter Tryz.func52, Tryz.ntmps52
  go_wp2
  clear hc
  go_loopw [3, 12] (fun v i wr => ∃ k : Nat, k ≤ P ∧ i = .int .i64 k ∧ OwnT wr w.heap.size v (pendL k s.on s.tm) ∧ Below w.heap.size w wr) (fun _ i _ => P - (intOf i).toNat)
  case atStart => exact ⟨0, Nat.zero_le _, rfl, OwnT.nil _ _, Below.refl _ _⟩
  case round =>
    obtain ⟨k, hk, rfl, hown, hb⟩ := hrel
    by_cases hlt : k < P
    · have hg := hget_any q tb c nb P S s b lk k wr (h.below hb) z
      have HS := Lib.hid (pend_succ k s.on s.tm)
      have hdl : (pendL k s.on s.tm).length ≤ 1024 := Nat.le_trans (pendL_le _ _ _) (by omega)
      by_cases hon : s.on k = true
      · have ha : atW P s k = some (s.tm k) := by
          unfold atW
          rw [atP_on (by omega) (by rw [Int.toNat_natCast]; exact hon), Int.toNat_natCast]
        rw [ha] at hg
        rw [if_pos hon] at HS
        generalize s.tm k = x at *
        generalize pendL k s.on s.tm = d at *
        unfold pairT at hg
        simp only [Option.getD_some, Option.isSome_some] at hg
        unfold Timer.val at hg
        clear ha hon h
        go_wp2_with fail
        refine hg.mono ?_
        rintro e w1 ⟨rfl, hx⟩
        have hown1 : OwnT w1 w.heap.size _ d := ownsRow_keep (w' := w1) hown (fun g hg _ => hx.block g hg)
        have hb1 : Below w.heap.size w w1 := hb.trans (Below.mono hx hb.size)
        clear hg hx hown hb
        go_wp2_with (at_builtin; refine wpList_append_own _ rfl _ _ 29 rfl w.heap.size 37 i0 (.agg #[.int .u64 0, .int .u64 0, .int .i64 0]) 3 24 Tryz.underlying29 hi hz0 hz1 hz2 rfl (by decide) _ _ _ rfl ((hown1.alloc _).alloc _) ⟨w1.heap.size + 1, 0, none⟩ 1 1 x.cells rfl ?c0 ?c1 ?c2 ?c3 ?c4 ?c5 ?_)
        case c0 => rfl
        case c1 =>
          have := cells_new (w1.alloc (.cells #[.int .u64 x.at_, .int .u64 x.seq, .int .i64 x.place] 37)) 37 x.cells
          rw [World.size_alloc] at this
          exact this
        case c2 => intro v hv; exact one_cell [x] v (by rw [cells_one]; exact hv)
        case c3 => unfold maxLen; omega
        case c4 => omega
        case c5 => have := hb1.size; simp; omega
        intro v2 w2 hown2 hgr2 _
        have hwl := hb1.size
        have hb2 := below_app (hb1.alloc hwl (.cells #[.int .u64 x.at_, .int .u64 x.seq, .int .i64 x.place] 37)) (hown1.alloc _) hgr2 (by simp; omega) (Nat.le_refl _)
        have hown3 : OwnT w2 w.heap.size v2 (pendL (k + 1) s.on s.tm) := by
          unfold OwnT
          rw [HS.out, List.length_append, List.flatMap_append, cells_one]
          exact hown2
        clear hgr2 hown1 hown2 hb1
        go_wp2
        go_roundw
        case rel => exact ⟨k + 1, by omega, by go_num, hown3, hb2⟩
        case measure => simp [intOf]; omega
      · have ha : atW P s k = none := by
          unfold atW
          exact atP_off (by rw [Int.toNat_natCast]; exact hon)
        rw [ha] at hg
        rw [if_neg hon, List.append_nil] at HS
        generalize pendL k s.on s.tm = d at *
        unfold pairT at hg
        simp only [Option.getD_none, Option.isSome_none] at hg
        unfold Timer.val Timer.zero at hg
        clear ha hon
        go_wp2_with fail
        refine hg.mono ?_
        rintro e w1 ⟨rfl, hx⟩
        have hown1 : OwnT (w1.alloc (.cells #[.int .u64 0, .int .u64 0, .int .i64 0] 37)) w.heap.size _ d := OwnT.alloc (ownsRow_keep (w' := w1) hown (fun g hg _ => hx.block g hg)) _
        have hb1 : Below w.heap.size w (w1.alloc (.cells #[.int .u64 0, .int .u64 0, .int .i64 0] 37)) := (hb.trans (Below.mono hx hb.size)).alloc (Nat.le_trans hb.size hx.size) _
        have HW := Lib.hid hown1
        have HB := Lib.hid hb1
        clear hg hx hown hb h hown1 hb1
        go_wp2_with fail
        go_roundw
        case rel => exact ⟨k + 1, by omega, by go_num, by rw [HS.out]; exact HW.out, HB.out⟩
        case measure => simp [intOf]; omega
    · obtain rfl : k = P := by omega
      clear h
      go_wp2
      go_ret
      exact ⟨_, rfl, hown, hb⟩
set_option maxRecDepth 100000 in
theorem hq_all (q tb c nb P S : Nat) (base lk : Int) (m : List Timer) (w : World) (h : HQ w q tb c nb P S base lk m) (z : HSz P S) :
    Calls Tryz.prog 28 #[.pointer (some ⟨q, 0, none⟩)] w fun e w' => ∃ v, e = .returned v ∧ OwnT w' w.heap.size v m ∧ Below w.heap.size w w' := by
  obtain ⟨s, b, hm, hp, rfl⟩ := h.ex
  have hP := z.hP
  have hpe := hpending_any q tb c nb P S s b lk w hm z
  have hsort := hp.sort
  have hle : (s.pend P).length ≤ 1000000 := Nat.le_trans (pendL_le _ _ _) (by omega)
  clear h hm hp
  go_enter Tryz.func28, Tryz.ntmps28
  go_wp2_with fail
  refine hpe.mono ?_
  rintro e w1 ⟨v, rfl, ho, hx⟩
  have hs := osort_any v (s.pend P) w1 ho.lat hle
  rw [show sortL (s.pend P) = m from hsort] at hs
  clear hpe
  go_wp2_with fail
  refine hs.mono ?_
  rintro e w2 ⟨v2, rfl, ho2, hy⟩
  go_wp2_with fail
  go_ret
  exact ⟨_, rfl, ho2.mono hx.size, hx.trans (Below.mono hy hx.size)⟩
set_option maxRecDepth 100000 in
theorem hq_min (q tb c nb P S : Nat) (base lk : Int) (m : List Timer) (w : World) (h : HQ w q tb c nb P S base lk m) (z : HSz P S) :
    Calls Tryz.prog 27 #[.pointer (some ⟨q, 0, none⟩)] w fun e w' => e = .returned (pairT m.head?) ∧ Below w.heap.size w w' := by
  obtain ⟨s, b, hm, hp, rfl⟩ := h.ex
  have hP := z.hP
  have hb0 : Below w.heap.size w (w.alloc (.cells #[.int .u64 0, .int .u64 0, .int .i64 0] 37)) := (Below.refl _ _).alloc (Nat.le_refl _) _
  have q0 : Blk (w.alloc (.cells #[.int .u64 0, .int .u64 0, .int .i64 0] 37)) w.heap.size 37 #[.int .u64 0, .int .u64 0, .int .i64 0] := Blk.new _ _ _
  have hpe := hpending_any q tb c nb P S s b lk _ (hm.below hb0) z
  have hmin : firstL (s.pend P) = m.head? := hp.min
  have hle : (s.pend P).length ≤ 100000 := Nat.le_trans (pendL_le _ _ _) (by omega)
  clear h hm hp
  go_enter Tryz.func27, Tryz.ntmps27
  go_wp2_with fail
  refine hpe.mono ?_
  rintro e w1 ⟨v, rfl, ho, hx⟩
  have hs := tfirst_any v (s.pend P) w1 ho.lat hle
  rw [hmin] at hs
  have q1 := q0.below hx q0.lt
  have hb1 := hb0.trans (Below.mono hx hb0.size)
  clear hpe ho hx hb0 q0
  go_wp2_with fail
  refine hs.mono ?_
  rintro e w2 ⟨rfl, hy⟩
  have q2 := q1.below hy q1.lt
  have hb2 := hb1.trans (Below.mono hy hb1.size)
  have z2 := q2.frozen
  have c2 := q2.cell
  have l2 := q2.lt
  have hs3 := fun a b c i => (((q2.put 0 a).put 1 b).put 2 c).cell i
  have HB := Lib.hid (show ∀ a b c, Below w.heap.size w (((w2.setCell ⟨w.heap.size, 0, none⟩ a).setCell ⟨w.heap.size, 1, none⟩ b).setCell ⟨w.heap.size, 2, none⟩ c) from fun _ _ _ => ((hb2.setCell (Nat.le_refl _) _).setCell (Nat.le_refl _) _).setCell (Nat.le_refl _) _)
  clear hs hy q1 hb1
  have HV := Lib.hid (show pairT m.head? = .tuple #[(m.head?.getD Timer.zero).val, .bool m.head?.isSome] from rfl)
  unfold pairT Timer.val
  generalize m.head?.isSome = ok at *
  generalize m.head?.getD Timer.zero = x at *
  go_wp2_with fail
  refine bodyPost_ret (v := .tuple #[x.val, .bool ok]) (by simp [results, Tryz.results27, go_sem, Timer.val, hs3]) rfl ⟨by rw [HV.out], HB.out _ _ _⟩
end Go.Proofs.YtckkfbepclogcaaGreatDoor
namespace Go.Proofs.YtckkfbepclogcaaGreatDoor
open Go.RowKit
/-- The ints at A are xs. -/
def NatsAt (w : World) (A : Option Addr) (xs : List Nat) : Prop := ∀ k (h : k < xs.length), ∃ g cur, A = some ⟨g, 0, none⟩ ∧ Blk w g 3 cur ∧ cur[k]? = some (.int .i64 (xs[k] : Nat))
theorem NatsAt.keep {w w' : World} {A : Option Addr} {xs : List Nat} (h : NatsAt w A xs) (hk : ∀ g cur, Blk w g 3 cur → w'.heap[g]? = w.heap[g]?) : NatsAt w' A xs := by
  intro k hlt
  obtain ⟨g, cur, e, hb, hc⟩ := h k hlt
  exact ⟨g, cur, e, (hk g cur hb).trans hb, hc⟩
theorem nats_own {w : World} {base : Nat} {v : Value} {xs : List Nat} (h : w.ownsRow base 3 1 v xs.length (xs.map natV)) : ∃ A cap, v = .slice A xs.length cap ∧ NatsAt w A xs := by
  rcases h.2 with ⟨rfl, hl⟩ | ⟨g, cap, cur, rfl, hg, hh, hc, hm, hs, ht⟩
  · have : xs = [] := List.eq_nil_of_length_eq_zero hl
    subst this
    exact ⟨none, 0, rfl, fun k hk => absurd hk (by simp)⟩
  · refine ⟨some ⟨g, 0, none⟩, cap, rfl, ?_⟩
    intro k hk
    refine ⟨g, cur, rfl, hh, ?_⟩
    have hu : (xs.map natV)[k]? = some (.int .i64 (xs[k] : Nat)) := by simp [hk, natV]
    rw [← ht, List.getElem?_take] at hu
    split at hu
    · simpa using hu
    · cases hu
theorem grown_chg' {w w' : World} {ob : Option Nat} (hg : w.grownBy w' ob) : Chg (fun g => ob = some g) w w' :=
  ⟨hg.os, hg.tape, hg.output, hg.size, fun k hk hn => hg.block k hk (fun e => hn e.symm)⟩
theorem HM.chg {w w' : World} {q tb c nb P S : Nat} {s : HSt} {b : Bits} {lk : Int} {T : Nat → Prop} (h : HM w q tb c nb P S s b lk) (k : Chg T w w') (h1 : ¬ T q) (h2 : ¬ T tb) (h3 : ¬ T c) (h4 : ¬ T nb) : HM w' q tb c nb P S s b lk :=
  ⟨h.blk.chg k h1, h.tms.chg k h2, h.ch.chg k h3 h4, h.busy, h.ok⟩
/-- Of the list j all those due have been taken: l' are they. -/
structure DueOf (P S : Nat) (s : HSt) (j : Nat) (now : Int) (l' : List Timer) (s' : HSt) : Prop where
  took : Took P (S + 1) (slotOf S) s (fun x => x.at_ ≤ now) l' s'
  left : ∀ i, i < P → s'.inn i = some j → now < (s'.tm i).at_
  else_ : ∀ m, m ≠ j → s'.L m = s.L m
/-- What the taking may change: the wheel, and the row that the taken ones are put behind. -/
def DS (q nb : Nat) (v : Value) : Nat → Prop := fun g => g = q ∨ g = nb ∨ v.ownBlock = some g
/-- The row lies where it lay, or anew. -/
def Anew (w : World) (v u : Value) : Prop := ∀ g, u.ownBlock = some g → v.ownBlock = some g ∨ w.heap.size ≤ g
set_option maxRecDepth 100000 in
set_option maxHeartbeats 2000000 in
theorem hdue_any (q tb c nb P S j base : Nat) (s : HSt) (b : Bits) (lk now : Int) (v : Value) (l : List Timer) (w : World) (h : HM w q tb c nb P S s b lk) (z : HSz P S) (hj : j < S + 1) (hown : OwnT w base v l) (hl : l.length ≤ 5000)
    (hq : q < base) (ht : tb < base) (hcb : c < base) (hn : nb < base) (hbw : base ≤ w.heap.size) :
    Calls Tryz.prog 50 #[.pointer (some ⟨q, 0, none⟩), v, .int .i64 j, .int .u64 now] w fun e w' =>
      ∃ v' l' s' b', e = .returned v' ∧ HM w' q tb c nb P S s' b' lk ∧ OwnT w' base v' (l ++ l') ∧ DueOf P S s j now l' s' ∧ Chg (DS q nb v) w w' ∧ Anew w v v' := by
  obtain ⟨i0, hi, hz0, hz1, hz2⟩ := info_parts info_timer
  have hP := z.hP
  have hS2 := z.hS2
  have hc := h.blk.cell
  have hnd := h.ok.nodup j hj
  have hpl : (s.pend P).length ≤ P := pendL_le _ _ _
  have hal := call_any c nb P (S + 1) j s.inn s.L w h.ch (by omega) hj
  obtain ⟨A0, c0, rfl, _⟩ := hown.at
  go_enter Tryz.func50, Tryz.ntmps50
  go_wp2_with fail
  refine hal.mono ?_
  rintro e w1 ⟨xv, rfl, hxo, hx⟩
  obtain ⟨A1, c1, rfl, hxs⟩ := nats_own hxo
  have h1 := h.below hx
  have hown1 : OwnT w1 base (.slice A0 l.length c0) (l ++ []) := by rw [List.append_nil]; exact ownsRow_keep (w' := w1) hown (fun g hg _ => hx.block g hg)
  have hch1 : Chg (DS q nb (.slice A0 l.length c0)) w w1 := Chg.of_same hx _
  have han1 : Anew w (.slice A0 l.length c0) (.slice A0 l.length c0) := fun _ e => .inl e
  have hsw := Swp.start (P := P) h.ok hj (fun x => now < x.at_)
  have htk := Took.refl (P := P) (N := S + 1) (f := slotOf S) h.ok (fun x => x.at_ ≤ now)
  have hmem := fun i hi => (h.ok.mem j hj i hi).1
  have hin := hmem
  clear hal hxo hx hc hown h
  generalize hxe : s.L j = xs at *
  have hxl : xs.length ≤ P := by
    have := nodup_le xs (List.range P) hnd fun x hx => List.mem_range.2 (hmem x hx)
    simpa using this
  have hb1 : base ≤ w1.heap.size := Nat.le_trans hbw hch1.size
  clear hxe
  go_wp2_with fail
  go_loopw [1, 21] (fun u i wr => ∃ (k : Nat) (s' : HSt) (b' : Bits) (l' : List Timer), k ≤ xs.length ∧ i = .int .i64 k ∧ HM wr q tb c nb P S s' b' lk ∧ OwnT wr base u (l ++ l') ∧ Took P (S + 1) (slotOf S) s (fun x => x.at_ ≤ now) l' s' ∧ Swp P s (fun x => now < x.at_) j xs k s' ∧ NatsAt wr A1 xs ∧ Chg (DS q nb (.slice A0 l.length c0)) w wr ∧ base ≤ wr.heap.size ∧ Anew w (.slice A0 l.length c0) u) (fun _ i _ => xs.length - (intOf i).toNat)
  case atStart => exact ⟨0, s, b, [], Nat.zero_le _, rfl, h1, hown1, htk, hsw, hxs, hch1, hb1, han1⟩
  case round =>
    clear h1 hown1 htk hsw hxs hch1 hb1 han1
    obtain ⟨k, s', b', l', hk, rfl, hm, hown, htk, hsw, hxs, hch, hbr, han⟩ := hrel
    by_cases hlt : k < xs.length
    · have hl' : l'.length ≤ P := by
        have := htk.len
        omega
      have hxm : xs[k] ∈ xs.drop k := by
        rw [List.drop_eq_getElem_cons hlt]
        exact List.mem_cons_self
      have hin' := hsw.rest _ hxm
      have hxP := hmem _ (List.getElem_mem hlt)
      obtain ⟨g, cur, rfl, hgb, hgc⟩ := hxs k hlt
      have cx := (hgb.cell k).trans hgc
      have htm := htk.tm
      have t0 := (hm.tms.cell _).trans (tmC_at P s'.tm xs[k] hxP)
      have hmc := hm.blk.cell
      have hqb := hm.blk
      obtain ⟨nx, pv, hcn, _⟩ := hm.ch.st
      have hnodb := hcn.nod
      clear hgb hgc hcn
      by_cases hdu : (s'.tm xs[k]).at_ ≤ now
      · have hcan := hcan_ok q tb c nb P S xs[k] j s' b' lk wr hm z hxP hin'
        have HT := Lib.hid (htk.one hxP hin' (show (s.tm xs[k]).at_ ≤ now by rw [← htm]; exact hdu))
        have HW := Lib.hid (hsw.take hnd hlt)
        rw [← htm] at HT
        clear hsw htk htm hmem hnd hxm
        generalize hxv : xs[k] = x at *
        generalize s'.tm x = y at *
        have hdl : (l ++ l').length ≤ 100000 := by simp; omega
        have HL := Lib.hid (show (l ++ l') ++ [y] = l ++ (l' ++ [y]) by simp)
        generalize l ++ l' = d at *
        unfold teV Timer.val at hcan
        obtain ⟨A5, c5, rfl, _⟩ := hown.at
        go_wp2_with fail
        refine hcan.mono ?_
        rintro e w2 ⟨rfl, ⟨b2, hm2⟩, hk2⟩
        have hown2 : OwnT w2 base (.slice A5 d.length c5) d := ownsRow_keep (w' := w2) hown (fun g2 hg2 hgo => hk2.block g2 hg2 (by have := own_base hown g2 hgo; omega))
        have hxs2 : NatsAt w2 (some ⟨g, 0, none⟩) xs := hxs.keep fun g2 cur2 hb2 => hk2.block g2 hb2.lt (fun e => by
          rcases e with rfl | rfl
          · exact hb2.ne hqb (by decide) rfl
          · exact hb2.ne hnodb (by decide) rfl)
        have hch2 : Chg (DS q nb (.slice A0 l.length c0)) w w2 := hch.trans hk2 (fun k _ e => by
          rcases e with rfl | rfl
          · exact .inl rfl
          · exact .inr (.inl rfl))
        have hb2 : base ≤ w2.heap.size := Nat.le_trans hbr hk2.size
        have hwl := hch2.size
        clear hcan hown hxs hch hk2 hqb hnodb hm hmc t0 cx hin' hdu
        go_wp2_with (at_builtin; refine wpList_append_own_at _ rfl _ _ 29 rfl base 37 i0 (.agg #[.int .u64 0, .int .u64 0, .int .i64 0]) 3 24 Tryz.underlying29 hi hz0 hz1 hz2 rfl (by decide) _ _ _ rfl ((hown2.alloc _).alloc _) ⟨w2.heap.size + 1, 0, none⟩ 1 1 y.cells rfl ?c0 ?c1 ?c2 ?c3 ?c4 ?c5 ?_)
        case c0 => rfl
        case c1 =>
          have := cells_new (w2.alloc (.cells #[.int .u64 y.at_, .int .u64 y.seq, .int .i64 y.place] 37)) 37 y.cells
          rw [World.size_alloc] at this
          exact this
        case c2 => intro v hv; exact one_cell [y] v (by rw [cells_one]; exact hv)
        case c3 => unfold maxLen; omega
        case c4 => omega
        case c5 => simp; omega
        intro v2 w3 hown3 hgr3 _ hat
        have hk3 : Chg (fun g => (Value.slice A5 d.length c5).ownBlock = some g) w2 w3 := by
          have k1 : Chg (fun g => (Value.slice A5 d.length c5).ownBlock = some g) w2 ((w2.alloc (.cells #[.int .u64 y.at_, .int .u64 y.seq, .int .i64 y.place] 37)).alloc (.cells y.cells.toArray 37)) := ((Chg.refl _ w2).alloc _).alloc _
          exact k1.trans (grown_chg' hgr3) (fun g _ e => e)
        have hbo := own_base hown2
        have hm3 := hm2.chg hk3 (fun e => by have := hbo _ e; omega) (fun e => by have := hbo _ e; omega) (fun e => by have := hbo _ e; omega) (fun e => by have := hbo _ e; omega)
        have hown4 : OwnT w3 base v2 (l ++ (l' ++ [y])) := by
          unfold OwnT
          rw [← HL.out, List.length_append, List.flatMap_append, cells_one]
          exact hown3
        have hxs3 : NatsAt w3 (some ⟨g, 0, none⟩) xs := hxs2.keep fun g2 cur2 hb2 => by
          have q1 : ((w2.alloc (.cells #[.int .u64 y.at_, .int .u64 y.seq, .int .i64 y.place] 37)).alloc (.cells y.cells.toArray 37)).heap[g2]? = w2.heap[g2]? := (Below.heap_alloc _ _ _ (by simp; have := hb2.lt; omega)).trans (Below.heap_alloc _ _ _ hb2.lt)
          refine (hgr3.block g2 (by have := hb2.lt; simp; omega) ?_).trans q1
          intro e
          rcases hown2.2 with ⟨hv, _⟩ | ⟨g3, cap, cur3, hv, _, hh, _⟩
          · rw [hv] at e; cases e
          · rw [hv] at e
            simp only [Value.ownBlock, Option.some.injEq] at e
            subst e
            exact hb2.ne (show Blk w2 g2 37 cur3 from hh) (by decide) rfl
        have hch3 : Chg (DS q nb (.slice A0 l.length c0)) w w3 := hch2.trans hk3 (fun k hk e => by
          rcases han k e with e | e
          · exact .inr (.inr e)
          · omega)
        have han3 : Anew w (.slice A0 l.length c0) v2 := fun g2 e => by
          rcases hat with e2 | e2
          · exact han g2 (e2.symm.trans e)
          · rw [e2] at e
            simp only [Option.some.injEq] at e
            exact .inr (by omega)
        have hb3 : base ≤ w3.heap.size := Nat.le_trans hb2 hk3.size
        clear hgr3 hown2 hown3 hm2 hxs2 hch2 hk3
        go_wp2
        go_roundw
        case rel => exact ⟨k + 1, s'.del x j, b2, l' ++ [y], by omega, by go_num, hm3, hown4, HT.out, HW.out, hxs3, hch3, hb3, han3⟩
        case measure => simp [intOf]; omega
      · have HW := Lib.hid (hsw.leave hlt (show now < (s'.tm xs[k]).at_ by omega))
        have HT := Lib.hid htk
        clear hsw htk htm hmem hnd hxm hqb hnodb
        generalize xs[k] = x at *
        generalize s'.tm x = y at *
        go_wp2_with fail
        go_roundw
        case rel => exact ⟨k + 1, s', b', l', by omega, by go_num, hm, hown, HT.out, HW.out, hxs, hch, hbr, han⟩
        case measure => simp [intOf]; omega
    · obtain rfl : k = xs.length := by omega
      have hd := hsw.done
      have HD : Hid (DueOf P S s j now l' s') := Lib.hid ⟨htk, hd.1, hd.2⟩
      clear hsw hd htk hxs
      go_wp2
      go_ret
      exact ⟨_, l', s', b', rfl, hm, hown, HD.out, hch, han⟩
end Go.Proofs.YtckkfbepclogcaaGreatDoor
namespace Go.Proofs.YtckkfbepclogcaaGreatDoor
open Go.RowKit
def rCells (tb c P b : Nat) (rg : Nat → Bits) (base n cas : Int) : Array Value :=
  #[.slice (some ⟨tb, 0, none⟩) P P, .pointer (some ⟨c, 0, none⟩), .int .u64 (rg 0).w0, .int .u64 (rg 0).w1, .int .u64 (rg 0).w2, .int .u64 (rg 0).w3, .int .u64 (rg 1).w0, .int .u64 (rg 1).w1, .int .u64 (rg 1).w2, .int .u64 (rg 1).w3,
    .int .u64 (rg 2).w0, .int .u64 (rg 2).w1, .int .u64 (rg 2).w2, .int .u64 (rg 2).w3, .int .u64 (rg 3).w0, .int .u64 (rg 3).w1, .int .u64 (rg 3).w2, .int .u64 (rg 3).w3, .int .i64 b, .int .u64 base, .int .i64 n, .int .i64 cas]
/-- The wheel at block q: its timers lie at tb, its chains at c and nb; s is its state, rg its levels' busy slots; n and cas are its two counts. -/
structure RM (w : World) (q tb c nb P b B : Nat) (s : HSt) (rg : Nat → Bits) (n cas : Int) : Prop where
  blk : Blk w q 81 (rCells tb c P b rg s.base n cas)
  tms : Blk w tb 37 (tmC P s.tm)
  ch : CM w c nb P (4 * B + 2) s.inn s.L
  busy : ∀ l, l < 4 → Busy B (rg l) (fun k => busyAt s (l * B + k))
  ok : HrOk P B s
section
variable {w w' : World} {q tb c nb P b B : Nat} {s : HSt} {rg : Nat → Bits} {n cas : Int}
theorem RM.below (h : RM w q tb c nb P b B s rg n cas) (k : Below w.heap.size w w') : RM w' q tb c nb P b B s rg n cas := ⟨h.blk.below k h.blk.lt, h.tms.below k h.tms.lt, h.ch.below k, h.busy, h.ok⟩
theorem RM.drew (h : RM w q tb c nb P b B s rg n cas) : RM w.drew q tb c nb P b B s rg n cas := ⟨h.blk.drew, h.tms.drew, h.ch.drew, h.busy, h.ok⟩
theorem RM.chg {T : Nat → Prop} (h : RM w q tb c nb P b B s rg n cas) (k : Chg T w w') (h1 : ¬ T q) (h2 : ¬ T tb) (h3 : ¬ T c) (h4 : ¬ T nb) : RM w' q tb c nb P b B s rg n cas := ⟨h.blk.chg k h1, h.tms.chg k h2, h.ch.chg k h3 h4, h.busy, h.ok⟩
theorem RM.qtb (h : RM w q tb c nb P b B s rg n cas) : q ≠ tb := Blk.ne h.blk h.tms (by decide)
theorem RM.qc (h : RM w q tb c nb P b B s rg n cas) : q ≠ c := by
  obtain ⟨nx, pv, h1, _⟩ := h.ch.st
  exact Blk.ne h.blk h1.blk (by decide)
theorem RM.qnb (h : RM w q tb c nb P b B s rg n cas) : q ≠ nb := by
  obtain ⟨nx, pv, h1, _⟩ := h.ch.st
  exact Blk.ne h.blk h1.nod (by decide)
theorem RM.tc (h : RM w q tb c nb P b B s rg n cas) : tb ≠ c := by
  obtain ⟨nx, pv, h1, _⟩ := h.ch.st
  exact Blk.ne h.tms h1.blk (by decide)
theorem RM.tnb (h : RM w q tb c nb P b B s rg n cas) : tb ≠ nb := by
  obtain ⟨nx, pv, h1, _⟩ := h.ch.st
  exact Blk.ne h.tms h1.nod (by decide)
theorem RM.cnb (h : RM w q tb c nb P b B s rg n cas) : c ≠ nb := by
  obtain ⟨nx, pv, h1, _⟩ := h.ch.st
  exact h1.ne
theorem RM.lts (h : RM w q tb c nb P b B s rg n cas) : q < w.heap.size ∧ tb < w.heap.size ∧ c < w.heap.size ∧ nb < w.heap.size := ⟨h.blk.lt, h.tms.lt, h.ch.lt⟩
end
/-- The sizes that there are. -/
structure RSz (P b B : Nat) : Prop where
  hP : P ≤ 1024
  h1 : 1 ≤ b
  h6 : b ≤ 6
  hB : 2 ^ b = B
theorem RSz.pos {P b B : Nat} (z : RSz P b B) : 0 < B := by rw [← z.hB]; exact Nat.two_pow_pos b
theorem RSz.le {P b B : Nat} (z : RSz P b B) : B ≤ 64 := by rw [← z.hB]; exact Nat.pow_le_pow_right (n := 2) (by omega) z.h6
theorem RSz.shl {P b B : Nat} (z : RSz P b B) (x : Nat) (hx : x ≤ 4) : IntKind.i64.wrap ((x : Int) * 2 ^ b) = ((x * B : Nat) : Int) := by
  have := z.le
  have h2 : x * B ≤ 4 * 64 := Nat.mul_le_mul hx this
  rw [pow_cast, z.hB, ← Int.natCast_mul]
  exact IntWalk.i64_in _ (by omega)
theorem rlen_any (q tb c nb P b B : Nat) (s : HSt) (rg : Nat → Bits) (n cas : Int) (w : World) (h : RM w q tb c nb P b B s rg n cas) :
    Calls Tryz.prog 15 #[.pointer (some ⟨q, 0, none⟩)] w fun e w' => e = .returned (.int .i64 n) ∧ w = w' := by
  have hc := h.blk.cell
  unfold rCells at hc
  go_enter Tryz.func15, Tryz.ntmps15
  go_wp2
  go_ret
  exact ⟨rfl, rfl⟩
theorem rbase_any (q tb c nb P b B : Nat) (s : HSt) (rg : Nat → Bits) (n cas : Int) (w : World) (h : RM w q tb c nb P b B s rg n cas) :
    Calls Tryz.prog 13 #[.pointer (some ⟨q, 0, none⟩)] w fun e w' => e = .returned (.int .u64 s.base) ∧ w = w' := by
  have hc := h.blk.cell
  unfold rCells at hc
  go_enter Tryz.func13, Tryz.ntmps13
  go_wp2
  go_ret
  exact ⟨rfl, rfl⟩
theorem rcas_any (q tb c nb P b B : Nat) (s : HSt) (rg : Nat → Bits) (n cas : Int) (w : World) (h : RM w q tb c nb P b B s rg n cas) :
    Calls Tryz.prog 14 #[.pointer (some ⟨q, 0, none⟩)] w fun e w' => e = .returned (.int .i64 cas) ∧ w = w' := by
  have hc := h.blk.cell
  unfold rCells at hc
  go_enter Tryz.func14, Tryz.ntmps14
  go_wp2
  go_ret
  exact ⟨rfl, rfl⟩
theorem rready_any (q tb c P b B : Nat) (rg : Nat → Bits) (base n cas : Int) (w : World) (h : Blk w q 81 (rCells tb c P b rg base n cas)) (z : RSz P b B) :
    Calls Tryz.prog 56 #[.pointer (some ⟨q, 0, none⟩)] w fun e w' => e = .returned (.int .i64 (4 * B : Nat)) ∧ w = w' := by
  have hc := h.cell
  unfold rCells at hc
  have hS := z.shl 4 (by omega)
  generalize 4 * B = r at *
  have h6 := z.h6
  have e1 : IntKind.u64.wrap (b : Int) = b := IntWalk.u64_in _ (by omega)
  have hS2 : IntKind.i64.wrap (4 * 2 ^ b) = (r : Int) := hS
  clear h hS z
  go_enter Tryz.func56, Tryz.ntmps56
  go_wp2
  go_ret
  exact ⟨rfl, rfl⟩
theorem rkept_any (q tb c P b B : Nat) (rg : Nat → Bits) (base n cas : Int) (w : World) (h : Blk w q 81 (rCells tb c P b rg base n cas)) (z : RSz P b B) :
    Calls Tryz.prog 81 #[.pointer (some ⟨q, 0, none⟩)] w fun e w' => e = .returned (.int .i64 (4 * B + 1 : Nat)) ∧ w = w' := by
  have hr := rready_any q tb c P b B rg base n cas w h z
  have hB := z.le
  generalize hr4 : 4 * B = r at *
  have h1 : (r : Int) + 1 ≤ 1000 := by omega
  have h2 : IntKind.i64.wrap ((r : Int) + 1) = (r : Int) + 1 := IntWalk.i64_in _ (by omega)
  clear h z hr4
  go_enter Tryz.func81, Tryz.ntmps81
  go_wp2_with fail
  refine hr.mono ?_
  rintro e w' ⟨rfl, rfl⟩
  go_wp2_with fail
  go_ret
  exact ⟨rfl, rfl⟩
theorem rlist_at (q tb c P b B l k : Nat) (rg : Nat → Bits) (base n cas : Int) (w : World) (h : Blk w q 81 (rCells tb c P b rg base n cas)) (z : RSz P b B) (hl : l < 4) (hk : k < B) :
    Calls Tryz.prog 79 #[.pointer (some ⟨q, 0, none⟩), .int .i64 l, .int .i64 k] w fun e w' => e = .returned (.int .i64 (l * B + k : Nat)) ∧ w = w' := by
  have hc := h.cell
  unfold rCells at hc
  have hS := z.shl l (by omega)
  have hB := z.le
  have hlb : l * B ≤ 4 * 64 := Nat.mul_le_mul (by omega) hB
  generalize l * B = r at *
  have h6 := z.h6
  have e1 : IntKind.u64.wrap (b : Int) = b := IntWalk.u64_in _ (by omega)
  have e2 : IntKind.i64.wrap ((r : Int) + (k : Int)) = (r : Int) + (k : Int) := IntWalk.i64_in _ (by omega)
  clear h z
  go_enter Tryz.func79, Tryz.ntmps79
  go_wp2
  go_ret
  exact ⟨rfl, rfl⟩
end Go.Proofs.YtckkfbepclogcaaGreatDoor
namespace Go.Proofs.YtckkfbepclogcaaGreatDoor
open Go.RowKit

def lsV (l s : Int) : Value := .tuple #[.int .i64 l, .int .i64 s]
theorem u64_nat {x : Int} (h : U64 x) : ∃ y : Nat, x = y ∧ y < 18446744073709551616 := by
  obtain ⟨y, rfl⟩ := Int.eq_ofNat_of_zero_le h.1
  exact ⟨y, rfl, by have := h.2; omega⟩
theorem dlevel_u {P b B : Nat} (z : RSz P b B) {base a : Int} (hb : U64 base) (ha : U64 a) (w : World) :
    Calls Tryz.prog 63 #[.int .u64 base, .int .u64 a, .int .i64 b] w fun e w' => e = .returned (.int .i64 (lev (B : Int) base a)) ∧ w = w' := by
  obtain ⟨x, rfl, hx⟩ := u64_nat hb
  obtain ⟨y, rfl, hy⟩ := u64_nat ha
  exact dlevel_any b B z.hB ⟨z.h1, z.h6⟩ x y hx hy w
theorem dslot_u {P b B : Nat} (z : RSz P b B) {base a : Int} (hb : U64 base) (ha : U64 a) (w : World) :
    Calls Tryz.prog 64 #[.int .u64 base, .int .u64 a, .int .i64 b] w fun e w' => e = .returned (.int .i64 (slotI (B : Int) base a)) ∧ w = w' := by
  obtain ⟨x, rfl, hx⟩ := u64_nat hb
  obtain ⟨y, rfl, hy⟩ := u64_nat ha
  exact dslot_any b B z.hB ⟨z.h1, z.h6⟩ x y hx hy w
set_option maxRecDepth 100000 in
set_option maxHeartbeats 1000000 in
theorem rlies_any (q tb c P b B : Nat) (rg : Nat → Bits) (base n cas : Int) (t : Timer) (w : World) (h : Blk w q 81 (rCells tb c P b rg base n cas)) (z : RSz P b B) (hb : U64 base) (ht : U64 t.at_) :
    Calls Tryz.prog 38 #[.pointer (some ⟨q, 0, none⟩), t.val] w fun e w' => e = .returned (lsV (lev (B : Int) base t.at_) (slotI (B : Int) base t.at_)) ∧ Below w.heap.size w w' := by
  have hb0 : Below w.heap.size w (w.alloc (.cells #[.int .u64 t.at_, .int .u64 t.seq, .int .i64 t.place] 37)) := (Below.refl _ _).alloc (Nat.le_refl _) _
  have h1 := h.below hb0 h.lt
  have q0 : Blk (w.alloc (.cells #[.int .u64 t.at_, .int .u64 t.seq, .int .i64 t.place] 37)) w.heap.size 37 #[.int .u64 t.at_, .int .u64 t.seq, .int .i64 t.place] := Blk.new _ _ _
  have hqw := h.lt
  have hc := h1.cell
  unfold rCells at hc
  have hq0 := q0.cell
  have HB := Lib.hid (hb0.drew)
  have hl := dlevel_u z hb ht
  have hs := dslot_u z hb ht
  unfold Timer.val
  generalize lev (B : Int) base t.at_ = L at *
  generalize slotI (B : Int) base t.at_ = S at *
  clear h h1 q0 hb0 hb ht z
  go_enter Tryz.func38, Tryz.ntmps38
  go_wp2_with fail
  refine still_all (by kernel_rfl) (by kernel_rfl) ?_
  iterate 10 still_step
  still_call (flip (hl _))
  iterate 10 still_step
  still_call (flip (hs _))
  repeat still_step
  refine wpStill_nil ?_
  go_wp2_with fail
  refine bodyPost_ret (v := lsV L S) (by simp [results, Tryz.results38, go_sem, lsV]) rfl ⟨rfl, HB.out⟩
set_option maxRecDepth 100000 in
set_option maxHeartbeats 2000000 in
theorem rget_in (q tb c nb P b B : Nat) (s : HSt) (rg : Nat → Bits) (n cas : Int) (p : Int) (w : World) (h : RM w q tb c nb P b B s rg n cas) (z : RSz P b B) :
    Calls Tryz.prog 16 #[.pointer (some ⟨q, 0, none⟩), .int .i64 p] w fun e w' => e = .returned (pairT (atW P s p)) ∧ Below w.heap.size w w' := by
  have hP := z.hP
  have hB64 := z.le
  have hb0 : Below w.heap.size w (w.alloc (.cells #[.int .u64 0, .int .u64 0, .int .i64 0] 37)) := (Below.refl _ _).alloc (Nat.le_refl _) _
  have HB := Lib.hid (show ∀ cs, Below w.heap.size w (w.alloc (.cells cs 37)) from fun cs => (Below.refl _ _).alloc (Nat.le_refl _) _)
  have h1 := h.below hb0
  have q0 : Blk (w.alloc (.cells #[.int .u64 0, .int .u64 0, .int .i64 0] 37)) w.heap.size 37 #[.int .u64 0, .int .u64 0, .int .i64 0] := Blk.new _ _ _
  have hwh := cwhich_any c nb P (4 * B + 2) s.inn s.L p _ h1.ch (by omega)
  have hc := h1.blk.cell
  unfold rCells at hc
  have hln := h.tms.lt
  have hqw := h.lts.1
  clear z
  cases ho : whichO P s.inn p with
  | none =>
    have HW := Lib.hid (atW_none ho)
    rw [ho] at hwh
    unfold pairV at hwh
    clear h1 q0 h hb0
    go_enter Tryz.func16, Tryz.ntmps16
    go_wp2_with (go_at_call 40; refine hwh.mono ?_; rintro e w' ⟨rfl, rfl⟩)
    refine bodyPost_ret (v := pairT none) (by simp [results, Tryz.results16, go_sem, pairT, Timer.val, Timer.zero]) rfl ⟨by rw [HW.out], ?_⟩
    first | exact HB.out _ | exact (((HB.out _).setCell (Nat.le_refl _) _).setCell (Nat.le_refl _) _).setCell (Nat.le_refl _) _
  | some x =>
    obtain ⟨i, j, rfl, rfl, hi, hj, ha⟩ := atW_some ho
    have HW := Lib.hid ha
    rw [ho] at hwh
    unfold pairV at hwh
    have t0 := (h1.tms.cell _).trans (tmC_at P s.tm i hi)
    have t1 := (h1.tms.cell _).trans (tmC_seq P s.tm i hi)
    have t2 := (h1.tms.cell _).trans (tmC_place P s.tm i hi)
    clear h1 q0 h hb0 ha ho hj
    generalize s.tm i = x at *
    go_enter Tryz.func16, Tryz.ntmps16
    go_wp2_with (go_at_call 40; refine hwh.mono ?_; rintro e w' ⟨rfl, rfl⟩)
    refine bodyPost_ret (v := pairT (some x)) (by simp [results, Tryz.results16, go_sem, pairT, Timer.val]) rfl ⟨by rw [HW.out], ?_⟩
    first | exact HB.out _ | exact (((HB.out _).setCell (Nat.le_refl _) _).setCell (Nat.le_refl _) _).setCell (Nat.le_refl _) _
set_option maxRecDepth 100000 in
set_option maxHeartbeats 2000000 in
theorem rpending_any (q tb c nb P b B : Nat) (s : HSt) (rg : Nat → Bits) (n cas : Int) (w : World) (h : RM w q tb c nb P b B s rg n cas) (z : RSz P b B) :
    Calls Tryz.prog 42 #[.pointer (some ⟨q, 0, none⟩)] w fun e w' => ∃ v, e = .returned v ∧ OwnT w' w.heap.size v (s.pend P) ∧ Below w.heap.size w w' := by
  obtain ⟨i0, hi, hz0, hz1, hz2⟩ := info_parts info_timer
  have hP := z.hP
  have hc := h.blk.cell
  unfold rCells at hc
  go_enter Tryz.func42, Tryz.ntmps42
  go_wp2
  clear hc
  go_loopw [3, 12] (fun v i wr => ∃ k : Nat, k ≤ P ∧ i = .int .i64 k ∧ OwnT wr w.heap.size v (pendL k s.on s.tm) ∧ Below w.heap.size w wr) (fun _ i _ => P - (intOf i).toNat)
  case atStart => exact ⟨0, Nat.zero_le _, rfl, OwnT.nil _ _, Below.refl _ _⟩
  case round =>
    obtain ⟨k, hk, rfl, hown, hb⟩ := hrel
    by_cases hlt : k < P
    · have hg := rget_in q tb c nb P b B s rg n cas k wr (h.below hb) z
      have HS := Lib.hid (pend_succ k s.on s.tm)
      have hdl : (pendL k s.on s.tm).length ≤ 1024 := Nat.le_trans (pendL_le _ _ _) (by omega)
      by_cases hon : s.on k = true
      · have ha : atW P s k = some (s.tm k) := by
          unfold atW
          rw [atP_on (by omega) (by rw [Int.toNat_natCast]; exact hon), Int.toNat_natCast]
        rw [ha] at hg
        rw [if_pos hon] at HS
        generalize s.tm k = x at *
        generalize pendL k s.on s.tm = d at *
        unfold pairT at hg
        simp only [Option.getD_some, Option.isSome_some] at hg
        unfold Timer.val at hg
        clear ha hon h
        go_wp2_with fail
        refine hg.mono ?_
        rintro e w1 ⟨rfl, hx⟩
        have hown1 : OwnT w1 w.heap.size _ d := ownsRow_keep (w' := w1) hown (fun g hg _ => hx.block g hg)
        have hb1 : Below w.heap.size w w1 := hb.trans (Below.mono hx hb.size)
        clear hg hx hown hb
        go_wp2_with (at_builtin; refine wpList_append_own _ rfl _ _ 29 rfl w.heap.size 37 i0 (.agg #[.int .u64 0, .int .u64 0, .int .i64 0]) 3 24 Tryz.underlying29 hi hz0 hz1 hz2 rfl (by decide) _ _ _ rfl ((hown1.alloc _).alloc _) ⟨w1.heap.size + 1, 0, none⟩ 1 1 x.cells rfl ?c0 ?c1 ?c2 ?c3 ?c4 ?c5 ?_)
        case c0 => rfl
        case c1 =>
          have := cells_new (w1.alloc (.cells #[.int .u64 x.at_, .int .u64 x.seq, .int .i64 x.place] 37)) 37 x.cells
          rw [World.size_alloc] at this
          exact this
        case c2 => intro v hv; exact one_cell [x] v (by rw [cells_one]; exact hv)
        case c3 => unfold maxLen; omega
        case c4 => omega
        case c5 => have := hb1.size; simp; omega
        intro v2 w2 hown2 hgr2 _
        have hwl := hb1.size
        have hb2 := below_app (hb1.alloc hwl (.cells #[.int .u64 x.at_, .int .u64 x.seq, .int .i64 x.place] 37)) (hown1.alloc _) hgr2 (by simp; omega) (Nat.le_refl _)
        have hown3 : OwnT w2 w.heap.size v2 (pendL (k + 1) s.on s.tm) := by
          unfold OwnT
          rw [HS.out, List.length_append, List.flatMap_append, cells_one]
          exact hown2
        clear hgr2 hown1 hown2 hb1
        go_wp2
        go_roundw
        case rel => exact ⟨k + 1, by omega, by go_num, hown3, hb2⟩
        case measure => simp [intOf]; omega
      · have ha : atW P s k = none := by
          unfold atW
          exact atP_off (by rw [Int.toNat_natCast]; exact hon)
        rw [ha] at hg
        rw [if_neg hon, List.append_nil] at HS
        generalize pendL k s.on s.tm = d at *
        unfold pairT at hg
        simp only [Option.getD_none, Option.isSome_none] at hg
        unfold Timer.val Timer.zero at hg
        clear ha hon
        go_wp2_with fail
        refine hg.mono ?_
        rintro e w1 ⟨rfl, hx⟩
        have hown1 : OwnT (w1.alloc (.cells #[.int .u64 0, .int .u64 0, .int .i64 0] 37)) w.heap.size _ d := OwnT.alloc (ownsRow_keep (w' := w1) hown (fun g hg _ => hx.block g hg)) _
        have hb1 : Below w.heap.size w (w1.alloc (.cells #[.int .u64 0, .int .u64 0, .int .i64 0] 37)) := (hb.trans (Below.mono hx hb.size)).alloc (Nat.le_trans hb.size hx.size) _
        have HW := Lib.hid hown1
        have HB := Lib.hid hb1
        clear hg hx hown hb h hown1 hb1
        go_wp2_with fail
        go_roundw
        case rel => exact ⟨k + 1, by omega, by go_num, by rw [HS.out]; exact HW.out, HB.out⟩
        case measure => simp [intOf]; omega
    · obtain rfl : k = P := by omega
      clear h
      go_wp2
      go_ret
      exact ⟨_, rfl, hown, hb⟩
end Go.Proofs.YtckkfbepclogcaaGreatDoor
namespace Go.Proofs.YtckkfbepclogcaaGreatDoor
open Go.RowKit
def updR (rg : Nat → Bits) (l : Nat) (v : Bits) : Nat → Bits := fun k => if k = l then v else rg k
theorem updR_at (rg : Nat → Bits) (l : Nat) (v : Bits) : updR rg l v l = v := if_pos rfl
theorem updR_ne (rg : Nat → Bits) {l k : Nat} (v : Bits) (h : k ≠ l) : updR rg l v k = rg k := if_neg h
theorem ring_at {B l k l' k' : Nat} (hk : k < B) (hk' : k' < B) : l * B + k = l' * B + k' ↔ l = l' ∧ k = k' := by
  constructor
  · intro h
    have h1 : (l * B + k) / B = l := by rw [Nat.mul_comm, Nat.mul_add_div (by omega), Nat.div_eq_of_lt hk]; rfl
    have h2 : (l' * B + k') / B = l' := by rw [Nat.mul_comm, Nat.mul_add_div (by omega), Nat.div_eq_of_lt hk']; rfl
    rw [h, h2] at h1
    subst h1
    exact ⟨rfl, by omega⟩
  · rintro ⟨rfl, rfl⟩
    rfl
theorem ring_split {B j : Nat} (hB : 0 < B) (h : j < 4 * B) : ∃ l k, l < 4 ∧ k < B ∧ j = l * B + k := by
  refine ⟨j / B, j % B, ?_, Nat.mod_lt _ hB, ?_⟩
  · exact Nat.div_lt_of_lt_mul (by rw [Nat.mul_comm]; exact h)
  · rw [Nat.mul_comm]
    exact (Nat.div_add_mod j B).symm
section
variable {B i j l0 k0 : Nat} {s : HSt} {rg : Nat → Bits} {t : Timer} {ls : List Nat}
theorem busy_ins' (k : Nat) (hn : ls ≠ []) : busyAt (s.ins i j ls t) k = updB (busyAt s) j true k := by
  unfold busyAt
  show (!(updL s.L j ls k).isEmpty) = _
  by_cases hk : k = j
  · subst hk
    rw [updL_at, updB_at]
    cases ls with
    | nil => exact absurd rfl hn
    | cons a r => rfl
  · rw [updL_ne _ _ hk, updB_ne _ _ hk]
theorem ring_ins (h : ∀ l, l < 4 → Busy B (rg l) (fun k => busyAt s (l * B + k))) (hB : B ≤ 64) (hk0 : k0 < B) (hj : j = l0 * B + k0) (hn : ls ≠ []) : ∀ l, l < 4 → Busy B (updR rg l0 ((rg l0).put (k0 : Int)) l) (fun k => busyAt (s.ins i j ls t) (l * B + k)) := by
  intro l hl
  by_cases hll : l = l0
  · subst hll
    rw [updR_at]
    refine ((h l hl).put (by omega) hk0).congr fun k hk => ?_
    show updB (fun k => busyAt s (l * B + k)) k0 true k = busyAt (s.ins i j ls t) (l * B + k)
    rw [busy_ins' _ hn, hj]
    by_cases hkk : k = k0
    · subst hkk
      rw [updB_at, updB_at]
    · rw [updB_ne _ _ hkk, updB_ne _ _ (fun e => hkk ((ring_at hk hk0).1 e).2)]
  · rw [updR_ne _ _ hll]
    refine (h l hl).congr fun k hk => ?_
    show busyAt s (l * B + k) = busyAt (s.ins i j ls t) (l * B + k)
    rw [busy_ins' _ hn, hj, updB_ne _ _ (fun e => hll ((ring_at hk hk0).1 e).1)]
theorem ring_ins_high (h : ∀ l, l < 4 → Busy B (rg l) (fun k => busyAt s (l * B + k))) (hB : 0 < B) (hj : 4 * B ≤ j) (hn : ls ≠ []) : ∀ l, l < 4 → Busy B (rg l) (fun k => busyAt (s.ins i j ls t) (l * B + k)) := by
  intro l hl
  refine (h l hl).congr fun k hk => ?_
  have := slot_lt hB hl hk
  show busyAt s (l * B + k) = busyAt (s.ins i j ls t) (l * B + k)
  rw [busy_ins' _ hn, updB_ne _ _ (by omega)]
theorem ring_del_no (h : ∀ l, l < 4 → Busy B (rg l) (fun k => busyAt s (l * B + k))) (hB : 0 < B) (hm : i ∈ s.L j) (he : (s.L j).erase i ≠ [] ∨ 4 * B ≤ j) : ∀ l, l < 4 → Busy B (rg l) (fun k => busyAt (s.del i j) (l * B + k)) := by
  intro l hl
  refine (h l hl).congr fun k hk => ?_
  have hlt := slot_lt hB hl hk
  show busyAt s (l * B + k) = busyAt (s.del i j) (l * B + k)
  rw [busy_del]
  by_cases hkj : l * B + k = j
  · rw [hkj, updB_at]
    have h1 : (s.L j).erase i ≠ [] := he.resolve_right (by omega)
    have h2 : s.L j ≠ [] := List.ne_nil_of_mem hm
    unfold busyAt
    cases e1 : (s.L j).erase i with
    | nil => exact absurd e1 h1
    | cons a r =>
      cases e2 : s.L j with
      | nil => exact absurd e2 h2
      | cons a r => rfl
  · rw [updB_ne _ _ hkj]
theorem ring_del (h : ∀ l, l < 4 → Busy B (rg l) (fun k => busyAt s (l * B + k))) (hB : B ≤ 64) (hk0 : k0 < B) (hj : j = l0 * B + k0) (he : (s.L j).erase i = []) : ∀ l, l < 4 → Busy B (updR rg l0 ((rg l0).drop (k0 : Int)) l) (fun k => busyAt (s.del i j) (l * B + k)) := by
  intro l hl
  by_cases hll : l = l0
  · subst hll
    rw [updR_at]
    refine ((h l hl).drop (by omega) hk0).congr fun k hk => ?_
    show updB (fun k => busyAt s (l * B + k)) k0 false k = busyAt (s.del i j) (l * B + k)
    rw [busy_del, he, hj]
    by_cases hkk : k = k0
    · subst hkk
      rw [updB_at, updB_at]
      rfl
    · rw [updB_ne _ _ hkk, updB_ne _ _ (fun e => hkk ((ring_at hk hk0).1 e).2)]
  · rw [updR_ne _ _ hll]
    refine (h l hl).congr fun k hk => ?_
    show busyAt s (l * B + k) = busyAt (s.del i j) (l * B + k)
    rw [busy_del, hj, updB_ne _ _ (fun e => hll ((ring_at hk hk0).1 e).1)]
end
theorem i64_mask (x b : Nat) (hx : x < 9223372036854775808) (h : b ≤ 62) : bits BinOp.and IntKind.i64 (x : Int) ((2 ^ b - 1 : Nat) : Int) = ((x % 2 ^ b : Nat) : Int) := by
  have h1 : 2 ^ b < 9223372036854775808 := by
    have := Nat.pow_lt_pow_right (a := 2) (by omega) (show b < 63 by omega)
    simpa using this
  have g1 := ofInt_u64 x (by omega)
  have g2 := ofInt_u64 (2 ^ b - 1) (by omega)
  have e : bits BinOp.and IntKind.i64 (x : Int) ((2 ^ b - 1 : Nat) : Int) = IntKind.i64.wrap (((BitVec.ofInt 64 (x : Int)) &&& (BitVec.ofInt 64 ((2 ^ b - 1 : Nat) : Int))).toNat : Int) := rfl
  have hle : x % 2 ^ b ≤ x := Nat.mod_le _ _
  rw [e, BitVec.toNat_and, g1, g2, Nat.and_two_pow_sub_one_eq_mod]
  exact IntWalk.i64_in _ (by omega)
end Go.Proofs.YtckkfbepclogcaaGreatDoor
namespace Go.Proofs.YtckkfbepclogcaaGreatDoor
open Go.RowKit
/-- Facts that hang on no memory: the values of a region's operations, in a row. -/
def FV (l : List Value) (j : Nat) (v : Value) (_ : World) : Prop := v = l.getD j undef
/-- Behind the four stores into a level's bits. -/
theorem ring_put {w : World} {q tb c P b : Nat} {rg : Nat → Bits} {base n cas : Int} (h : Blk w q 81 (rCells tb c P b rg base n cas)) (l : Nat) (hl : l < 4) (v : Bits) :
    ∃ wa, wa = (((w.setCell ⟨q, 2 + l * 4, none⟩ (.int .u64 v.w0)).setCell ⟨q, 2 + l * 4 + 1, none⟩ (.int .u64 v.w1)).setCell ⟨q, 2 + l * 4 + 2, none⟩ (.int .u64 v.w2)).setCell ⟨q, 2 + l * 4 + 3, none⟩ (.int .u64 v.w3) ∧
      Blk wa q 81 (rCells tb c P b (updR rg l v) base n cas) ∧ Chg (fun g => g = q) w wa := by
  refine ⟨_, rfl, ?_, ((((Chg.refl (fun g => g = q) w).setCell (fun _ => rfl) _).setCell (fun _ => rfl) _).setCell (fun _ => rfl) _).setCell (fun _ => rfl) _⟩
  have hp := (((h.put (2 + l * 4) (.int .u64 v.w0)).put (2 + l * 4 + 1) (.int .u64 v.w1)).put (2 + l * 4 + 2) (.int .u64 v.w2)).put (2 + l * 4 + 3) (.int .u64 v.w3)
  have hl' : l = 0 ∨ l = 1 ∨ l = 2 ∨ l = 3 := by omega
  rcases hl' with rfl | rfl | rfl | rfl <;> exact hp
theorem ring_get {w : World} {q tb c P b : Nat} {rg : Nat → Bits} {base n cas : Int} (h : Blk w q 81 (rCells tb c P b rg base n cas)) (l : Nat) (hl : l < 4) :
    w.cell? ⟨q, 2 + l * 4, none⟩ = some (.int .u64 (rg l).w0) ∧ w.cell? ⟨q, 2 + l * 4 + 1, none⟩ = some (.int .u64 (rg l).w1) ∧ w.cell? ⟨q, 2 + l * 4 + 2, none⟩ = some (.int .u64 (rg l).w2) ∧ w.cell? ⟨q, 2 + l * 4 + 3, none⟩ = some (.int .u64 (rg l).w3) := by
  have hl' : l = 0 ∨ l = 1 ∨ l = 2 ∨ l = 3 := by omega
  rcases hl' with rfl | rfl | rfl | rfl <;> exact ⟨(h.cell _).trans rfl, (h.cell _).trans rfl, (h.cell _).trans rfl, (h.cell _).trans rfl⟩
set_option maxRecDepth 100000 in
set_option maxHeartbeats 1000000 in
theorem rdrop_stay (q tb c nb P b B i j : Nat) (s : HSt) (rg : Nat → Bits) (n cas : Int) (w : World) (h : RM w q tb c nb P b B s rg n cas) (z : RSz P b B) (hi : i < P) (ho : s.inn i = some j) (a : Nat) (r : List Nat) (he : Hid ((s.L j).erase i = a :: r)) :
    Calls Tryz.prog 54 #[.pointer (some ⟨q, 0, none⟩), .int .i64 i] w fun e w' => e = .returned (.tuple #[]) ∧ (∃ rg', RM w' q tb c nb P b B (s.del i j) rg' n cas) ∧ Chg (fun g => g = q ∨ g = nb) w w' := by
  have HB := Lib.hid (ring_del_no h.busy z.pos (h.ok.ok.out i hi j ho).2 (.inl (by rw [he.out]; simp)))
  have HOK := Lib.hid (h.ok.del hi ho)
  obtain ⟨hjN, him⟩ := h.ok.ok.out i hi j ho
  have hP := z.hP
  have hB64 := z.le
  have hcq := h.qc
  have htc := h.tc
  have hqn := h.qnb
  have htn := h.tnb
  obtain ⟨hqw, htw, hcw, hnw⟩ := h.lts
  have hB1 := h.blk
  have hT1 := h.tms
  have hC1 := h.ch
  clear h
  have hc := hB1.cell
  unfold rCells at hc
  have hwh := cwhich_any c nb P (4 * B + 2) s.inn s.L i _ hC1 (by omega)
  have hwo : whichO P s.inn i = some ((j : Nat) : Int) := by simp [whichO, cin_of hi, ho]
  rw [hwo] at hwh
  unfold pairV at hwh
  have hdr := cdrop_ok c nb P (4 * B + 2) i j s.inn s.L _ hC1 (by omega) hi ho
  clear hwo
  go_enter Tryz.func54, Tryz.ntmps54
  go_wp2_with fail
  refine hwh.mono ?_
  rintro e w' ⟨rfl, rfl⟩
  go_wp2_with fail
  refine hdr.mono ?_
  rintro e w2 ⟨rfl, hC2, hk2⟩
  have hB2 := hB1.chg hk2 hqn
  have hT2 := hT1.chg hk2 htn
  have hfi := cfirst_any c nb P (4 * B + 2) j _ _ w2 hC2 (by omega) hjN
  rw [updL_at] at hfi
  have hc2 := hB2.cell
  unfold rCells at hc2
  have l2 := hB2.lt
  clear hB1 hT1 hC1 hc hwh hdr
  rw [he.out] at hfi
  unfold pairV headI at hfi
  go_wp2_with fail
  refine hfi.mono ?_
  rintro e w3 ⟨rfl, hx⟩
  have hB3 := hB2.below hx l2
  have hT3 := hT2.below hx hT2.lt
  have hC3 := hC2.below hx
  have hk3 : Chg (fun g => g = q ∨ g = nb) w w3 := (hk2.mono fun _ _ e => .inr e).trans (Chg.of_same hx (fun g => g = q ∨ g = nb)) (fun _ _ e => e)
  clear hfi hc2 l2 hx hB2 hT2 hC2 hk2
  have fin : (∃ rg', RM w3 q tb c nb P b B (s.del i j) rg' n cas) ∧ Chg (fun g => g = q ∨ g = nb) w w3 := ⟨⟨rg, hB3, hT3, hC3, HB.out, HOK.out⟩, hk3⟩
  clear hB3 hT3 hC3 HB HOK hk3
  go_wp2_with fail
  go_end0
  exact ⟨rfl, fin⟩
set_option maxRecDepth 100000 in
set_option maxHeartbeats 1000000 in
theorem rdrop_high (q tb c nb P b B i j : Nat) (s : HSt) (rg : Nat → Bits) (n cas : Int) (w : World) (h : RM w q tb c nb P b B s rg n cas) (z : RSz P b B) (hi : i < P) (ho : s.inn i = some j) (he : Hid ((s.L j).erase i = [])) (hj : 4 * B ≤ j) :
    Calls Tryz.prog 54 #[.pointer (some ⟨q, 0, none⟩), .int .i64 i] w fun e w' => e = .returned (.tuple #[]) ∧ (∃ rg', RM w' q tb c nb P b B (s.del i j) rg' n cas) ∧ Chg (fun g => g = q ∨ g = nb) w w' := by
  have HB := Lib.hid (ring_del_no h.busy z.pos (h.ok.ok.out i hi j ho).2 (.inr hj))
  have HOK := Lib.hid (h.ok.del hi ho)
  obtain ⟨hjN, him⟩ := h.ok.ok.out i hi j ho
  have hP := z.hP
  have hB64 := z.le
  have hcq := h.qc
  have htc := h.tc
  have hqn := h.qnb
  have htn := h.tnb
  obtain ⟨hqw, htw, hcw, hnw⟩ := h.lts
  have hB1 := h.blk
  have hT1 := h.tms
  have hC1 := h.ch
  clear h
  have hc := hB1.cell
  unfold rCells at hc
  have hwh := cwhich_any c nb P (4 * B + 2) s.inn s.L i _ hC1 (by omega)
  have hwo : whichO P s.inn i = some ((j : Nat) : Int) := by simp [whichO, cin_of hi, ho]
  rw [hwo] at hwh
  unfold pairV at hwh
  have hdr := cdrop_ok c nb P (4 * B + 2) i j s.inn s.L _ hC1 (by omega) hi ho
  clear hwo
  go_enter Tryz.func54, Tryz.ntmps54
  go_wp2_with fail
  refine hwh.mono ?_
  rintro e w' ⟨rfl, rfl⟩
  go_wp2_with fail
  refine hdr.mono ?_
  rintro e w2 ⟨rfl, hC2, hk2⟩
  have hB2 := hB1.chg hk2 hqn
  have hT2 := hT1.chg hk2 htn
  have hfi := cfirst_any c nb P (4 * B + 2) j _ _ w2 hC2 (by omega) hjN
  rw [updL_at] at hfi
  have hc2 := hB2.cell
  unfold rCells at hc2
  have l2 := hB2.lt
  clear hB1 hT1 hC1 hc hwh hdr
  rw [he.out] at hfi
  unfold pairV headI at hfi
  go_wp2_with fail
  refine hfi.mono ?_
  rintro e w3 ⟨rfl, hx⟩
  have hB3 := hB2.below hx l2
  have hT3 := hT2.below hx hT2.lt
  have hC3 := hC2.below hx
  have hk3 : Chg (fun g => g = q ∨ g = nb) w w3 := (hk2.mono fun _ _ e => .inr e).trans (Chg.of_same hx (fun g => g = q ∨ g = nb)) (fun _ _ e => e)
  clear hfi hc2 l2 hx hB2 hT2 hC2 hk2
  have hre := rready_any q tb c P b B rg _ n cas w3 hB3 z
  have fin : (∃ rg', RM w3 q tb c nb P b B (s.del i j) rg' n cas) ∧ Chg (fun g => g = q ∨ g = nb) w w3 := ⟨⟨rg, hB3, hT3, hC3, HB.out, HOK.out⟩, hk3⟩
  have hj2 : ¬ (j : Int) < ((4 * B : Nat) : Int) := by omega
  generalize 4 * B = r at *
  clear hB3 hT3 hC3 HB HOK hk3
  go_wp2_with fail
  refine hre.mono ?_
  rintro e w' ⟨rfl, rfl⟩
  go_wp2_with fail
  go_end0
  exact ⟨rfl, fin⟩
set_option linter.unusedSimpArgs false in
set_option maxRecDepth 100000 in
set_option maxHeartbeats 2000000 in
theorem rdrop_slot0 (q tb c nb P b B i j k : Nat) (s : HSt) (rg : Nat → Bits) (n cas : Int) (w : World) (h : RM w q tb c nb P b B s rg n cas) (z : RSz P b B) (hi : i < P) (ho : s.inn i = some j) (he : Hid ((s.L j).erase i = [])) (hk : k < B) (hj : Hid (j = 0 * B + k)) :
    Calls Tryz.prog 54 #[.pointer (some ⟨q, 0, none⟩), .int .i64 i] w fun e w' => e = .returned (.tuple #[]) ∧ (∃ rg', RM w' q tb c nb P b B (s.del i j) rg' n cas) ∧ Chg (fun g => g = q ∨ g = nb) w w' := by
  have hl : 0 < 4 := by omega
  have HB := Lib.hid (ring_del h.busy z.le hk hj.out he.out)
  have HOK := Lib.hid (h.ok.del hi ho)
  have hbok := (h.busy 0 hl).ok
  have hj4 := slot_lt z.pos hl hk
  rw [← hj.out] at hj4
  obtain ⟨hjN, him⟩ := h.ok.ok.out i hi j ho
  have hP := z.hP
  have hB64 := z.le
  have hcq := h.qc
  have htc := h.tc
  have hqn := h.qnb
  have htn := h.tnb
  obtain ⟨hqw, htw, hcw, hnw⟩ := h.lts
  have hB1 := h.blk
  have hT1 := h.tms
  have hC1 := h.ch
  clear h
  have hc := hB1.cell
  unfold rCells at hc
  have hwh := cwhich_any c nb P (4 * B + 2) s.inn s.L i _ hC1 (by omega)
  have hwo : whichO P s.inn i = some ((j : Nat) : Int) := by simp [whichO, cin_of hi, ho]
  rw [hwo] at hwh
  unfold pairV at hwh
  have hdr := cdrop_ok c nb P (4 * B + 2) i j s.inn s.L _ hC1 (by omega) hi ho
  clear hwo
  go_enter Tryz.func54, Tryz.ntmps54
  go_wp2_with fail
  refine hwh.mono ?_
  rintro e w' ⟨rfl, rfl⟩
  go_wp2_with fail
  refine hdr.mono ?_
  rintro e w2 ⟨rfl, hC2, hk2⟩
  have hB2 := hB1.chg hk2 hqn
  have hT2 := hT1.chg hk2 htn
  have hfi := cfirst_any c nb P (4 * B + 2) j _ _ w2 hC2 (by omega) hjN
  rw [updL_at] at hfi
  have hc2 := hB2.cell
  unfold rCells at hc2
  have l2 := hB2.lt
  clear hB1 hT1 hC1 hc hwh hdr
  rw [he.out] at hfi
  unfold pairV headI at hfi
  go_wp2_with fail
  refine hfi.mono ?_
  rintro e w3 ⟨rfl, hx⟩
  have hB3 := hB2.below hx l2
  have hT3 := hT2.below hx hT2.lt
  have hC3 := hC2.below hx
  have hk3 : Chg (fun g => g = q ∨ g = nb) w w3 := (hk2.mono fun _ _ e => .inr e).trans (Chg.of_same hx (fun g => g = q ∨ g = nb)) (fun _ _ e => e)
  clear hfi hc2 l2 hx hB2 hT2 hC2 hk2
  have hre := rready_any q tb c P b B rg _ n cas w3 hB3 z
  have hj2 : (j : Int) < ((4 * B : Nat) : Int) := by omega
  have HSH := Lib.hid (show (j : Int) / 2 ^ b = 0 by
    rw [shr_nat, z.hB, hj.out, Nat.mul_comm, Nat.mul_add_div z.pos, Nat.div_eq_of_lt hk]
    rfl)
  have HMK := Lib.hid (show bits BinOp.and IntKind.i64 (j : Int) ((B - 1 : Nat) : Int) = (k : Int) by
    have := i64_mask j b (by omega) (by have := z.h6; omega)
    rw [z.hB] at this
    rw [this, hj.out, Nat.mul_comm, Nat.mul_add_mod, Nat.mod_eq_of_lt hk])
  have h6 := z.h6
  have hpos := z.pos
  have e1 : IntKind.u64.wrap (b : Int) = b := IntWalk.u64_in _ (by omega)
  have hS1 : IntKind.i64.wrap (1 * 2 ^ b) = ((1 * B : Nat) : Int) := z.shl 1 (by omega)
  rw [Int.one_mul, Nat.one_mul] at hS1
  have HS1 := Lib.hid hS1
  have HS2 := Lib.hid (show IntKind.i64.wrap ((B : Int) - 1) = ((B - 1 : Nat) : Int) by
    rw [show (B : Int) - 1 = ((B - 1 : Nat) : Int) by omega]
    exact IntWalk.i64_in _ (by omega))
  clear hS1
  go_wp2_with fail
  refine hre.mono ?_
  rintro e w' ⟨rfl, rfl⟩
  go_upto_region 4 with fail
  have hsh := HSH.out
  have hc3 := hB3.cell
  unfold rCells at hc3
  refine still_all (by kernel_rfl) (by kernel_rfl) ?_
  repeat still_step
  refine wpStill_nil ?_
  clear hsh hc3
  have hB4 := hB3.drew
  have hT4 := hT3.drew
  have hC4 := hC3.drew
  have hk4 := hk3.drew
  clear hB3 hT3 hC3 hk3 hre
  generalize w3.drew = w4 at *
  go_upto_region 5 with fail
  have hs0 : Below w4.heap.size w4 w4.drew := (Below.refl _ _).drew
  refine region_facts_set 15 (fun _ => false) (FV [.pointer (some ⟨q, 2, none⟩), .pointer (some ⟨q, 2, none⟩), .pointer (some ⟨q, 2, none⟩), .pointer (some ⟨q, 2, none⟩), (rg 0).val, .int .i64 j, .pointer (some ⟨q, 0, none⟩), .pointer (some ⟨q, 0, none⟩), .pointer (some ⟨q, 18, none⟩), .int .i64 b, .int .u64 b, .int .i64 B, .int .i64 (B - 1 : Nat), .int .i64 k, ((rg 0).drop (k : Int)).val]) (fun _ x => Below w4.heap.size w4 x) (fun _ x y => x.heap.size ≤ y.heap.size) [52, 53, 54, 55, 56, 57, 58, 59, 60, 61, 62, 63, 64, 65, 66] (by kernel_rfl) (by kernel_rfl) (by kernel_rfl) (by decide) (by kernel_rfl) (by kernel_rfl) (fun _ _ _ _ _ _ h _ => h) (fun _ _ _ h => h) hs0 ?_ ?_
  · intro fr hfr
    have f8 : fr.getD 8 undef = .pointer (some ⟨q, 2, none⟩) := by rw [hfr]; rfl
    have f0 : fr.getD 0 undef = .pointer (some ⟨q, 0, none⟩) := by rw [hfr]; rfl
    have f4 : fr.getD 4 undef = .int .i64 j := by rw [hfr]; rfl
    clear hfr
    iterate 15
      refine ⟨⟨trivial, ?_⟩, ?_⟩
      · intro ρ w' p hp hdq hρ hd hSt
        simp only [DepF, Region.binds, List.getD_cons_zero, List.getD_cons_succ, FV, forall_const, and_true, true_and, Bits.val] at hd
        have hcon := hρ.con
        have e8 := (hρ.slot 8 (by kernel_rfl)).trans f8
        have e0 := (hρ.slot 0 (by kernel_rfl)).trans f0
        have e4 := (hρ.slot 4 (by kernel_rfl)).trans f4
        have eb := (hB4.below hSt hB4.lt).cell
        unfold rCells at eb
        have hdp := drop_any (rg 0) k w' hbok
        unfold Bits.val at hdp
        have q1 := HS1.out
        have q2 := HS2.out
        have q3 := HMK.out
        (try rw [execOp_call_fn _ _ _ _ _ _ _ _ _ (hρ.fn _)])
        go_simp
        (try simp only [GoodQ, FV, List.getD_cons_zero, List.getD_cons_succ])
        first
          | exact ⟨rfl, Nat.le_refl _, fun h => absurd h (by decide), hSt⟩
          | exact ⟨trivial, Nat.le_refl _, fun h => absurd h (by decide), hSt⟩
          | (refine hdp.mono ?_; rintro e w'' ⟨rfl, hx⟩; exact ⟨_, rfl, rfl, hx.size, fun h => absurd h (by decide), hSt.trans (Below.mono hx hSt.size)⟩)
    trivial
  · intro vs w5 hSt hF _
    have h0 : vs 0 = .pointer (some ⟨q, 2, none⟩) := hF 0 (by decide)
    have h14 : vs 14 = ((rg 0).drop (k : Int)).val := hF 14 (by decide)
    unfold Bits.val at h14
    have hB5 := hB4.below hSt hB4.lt
    have hT5 := hT4.below hSt hT4.lt
    have hC5 := hC4.below hSt
    have hk5 : Chg (fun g => g = q ∨ g = nb) w w5 := hk4.trans (Chg.of_same hSt (fun g => g = q ∨ g = nb)) (fun _ _ e => e)
    have e1 := hB5.cell
    unfold rCells at e1
    have e2 := hB5.frozen
    have e3 := hB5.lt
    obtain ⟨wa, hwa, hBa, hka⟩ := ring_put hB5 0 hl ((rg 0).drop (k : Int))
    simp only [Nat.reduceMul, Nat.reduceAdd] at hwa
    have fin : (∃ rg', RM wa q tb c nb P b B (s.del i j) rg' n cas) ∧ Chg (fun g => g = q ∨ g = nb) w wa := by
      have hqt : q ≠ tb := Blk.ne hB5 hT5 (by decide)
      refine ⟨⟨_, hBa, hT5.chg hka (fun e => hqt e.symm), hC5.chg hka (fun e => hcq e.symm) (fun e => hqn e.symm), HB.out, HOK.out⟩, hk5.trans hka (fun _ _ e => .inl e)⟩
    clear hF hSt hs0 hB4 hT4 hC4 hk4 hB5 hT5 hC5 hk5 hBa hka HB HOK
    simp only [setAll, List.setIfInBounds_toArray, List.set_cons_zero, List.set_cons_succ, Nat.reduceAdd]
    rw [h0, h14]
    simp only [List.drop_succ_cons, List.drop_zero]
    clear h0 h14
    go_wp2_with fail
    rw [← hwa]
    go_end0
    exact ⟨rfl, fin⟩
set_option linter.unusedSimpArgs false in
set_option maxRecDepth 100000 in
set_option maxHeartbeats 2000000 in
theorem rdrop_slot1 (q tb c nb P b B i j k : Nat) (s : HSt) (rg : Nat → Bits) (n cas : Int) (w : World) (h : RM w q tb c nb P b B s rg n cas) (z : RSz P b B) (hi : i < P) (ho : s.inn i = some j) (he : Hid ((s.L j).erase i = [])) (hk : k < B) (hj : Hid (j = 1 * B + k)) :
    Calls Tryz.prog 54 #[.pointer (some ⟨q, 0, none⟩), .int .i64 i] w fun e w' => e = .returned (.tuple #[]) ∧ (∃ rg', RM w' q tb c nb P b B (s.del i j) rg' n cas) ∧ Chg (fun g => g = q ∨ g = nb) w w' := by
  have hl : 1 < 4 := by omega
  have HB := Lib.hid (ring_del h.busy z.le hk hj.out he.out)
  have HOK := Lib.hid (h.ok.del hi ho)
  have hbok := (h.busy 1 hl).ok
  have hj4 := slot_lt z.pos hl hk
  rw [← hj.out] at hj4
  obtain ⟨hjN, him⟩ := h.ok.ok.out i hi j ho
  have hP := z.hP
  have hB64 := z.le
  have hcq := h.qc
  have htc := h.tc
  have hqn := h.qnb
  have htn := h.tnb
  obtain ⟨hqw, htw, hcw, hnw⟩ := h.lts
  have hB1 := h.blk
  have hT1 := h.tms
  have hC1 := h.ch
  clear h
  have hc := hB1.cell
  unfold rCells at hc
  have hwh := cwhich_any c nb P (4 * B + 2) s.inn s.L i _ hC1 (by omega)
  have hwo : whichO P s.inn i = some ((j : Nat) : Int) := by simp [whichO, cin_of hi, ho]
  rw [hwo] at hwh
  unfold pairV at hwh
  have hdr := cdrop_ok c nb P (4 * B + 2) i j s.inn s.L _ hC1 (by omega) hi ho
  clear hwo
  go_enter Tryz.func54, Tryz.ntmps54
  go_wp2_with fail
  refine hwh.mono ?_
  rintro e w' ⟨rfl, rfl⟩
  go_wp2_with fail
  refine hdr.mono ?_
  rintro e w2 ⟨rfl, hC2, hk2⟩
  have hB2 := hB1.chg hk2 hqn
  have hT2 := hT1.chg hk2 htn
  have hfi := cfirst_any c nb P (4 * B + 2) j _ _ w2 hC2 (by omega) hjN
  rw [updL_at] at hfi
  have hc2 := hB2.cell
  unfold rCells at hc2
  have l2 := hB2.lt
  clear hB1 hT1 hC1 hc hwh hdr
  rw [he.out] at hfi
  unfold pairV headI at hfi
  go_wp2_with fail
  refine hfi.mono ?_
  rintro e w3 ⟨rfl, hx⟩
  have hB3 := hB2.below hx l2
  have hT3 := hT2.below hx hT2.lt
  have hC3 := hC2.below hx
  have hk3 : Chg (fun g => g = q ∨ g = nb) w w3 := (hk2.mono fun _ _ e => .inr e).trans (Chg.of_same hx (fun g => g = q ∨ g = nb)) (fun _ _ e => e)
  clear hfi hc2 l2 hx hB2 hT2 hC2 hk2
  have hre := rready_any q tb c P b B rg _ n cas w3 hB3 z
  have hj2 : (j : Int) < ((4 * B : Nat) : Int) := by omega
  have HSH := Lib.hid (show (j : Int) / 2 ^ b = 1 by
    rw [shr_nat, z.hB, hj.out, Nat.mul_comm, Nat.mul_add_div z.pos, Nat.div_eq_of_lt hk]
    rfl)
  have HMK := Lib.hid (show bits BinOp.and IntKind.i64 (j : Int) ((B - 1 : Nat) : Int) = (k : Int) by
    have := i64_mask j b (by omega) (by have := z.h6; omega)
    rw [z.hB] at this
    rw [this, hj.out, Nat.mul_comm, Nat.mul_add_mod, Nat.mod_eq_of_lt hk])
  have h6 := z.h6
  have hpos := z.pos
  have e1 : IntKind.u64.wrap (b : Int) = b := IntWalk.u64_in _ (by omega)
  have hS1 : IntKind.i64.wrap (1 * 2 ^ b) = ((1 * B : Nat) : Int) := z.shl 1 (by omega)
  rw [Int.one_mul, Nat.one_mul] at hS1
  have HS1 := Lib.hid hS1
  have HS2 := Lib.hid (show IntKind.i64.wrap ((B : Int) - 1) = ((B - 1 : Nat) : Int) by
    rw [show (B : Int) - 1 = ((B - 1 : Nat) : Int) by omega]
    exact IntWalk.i64_in _ (by omega))
  clear hS1
  go_wp2_with fail
  refine hre.mono ?_
  rintro e w' ⟨rfl, rfl⟩
  go_upto_region 4 with fail
  have hsh := HSH.out
  have hc3 := hB3.cell
  unfold rCells at hc3
  refine still_all (by kernel_rfl) (by kernel_rfl) ?_
  repeat still_step
  refine wpStill_nil ?_
  clear hsh hc3
  have hB4 := hB3.drew
  have hT4 := hT3.drew
  have hC4 := hC3.drew
  have hk4 := hk3.drew
  clear hB3 hT3 hC3 hk3 hre
  generalize w3.drew = w4 at *
  go_upto_region 5 with fail
  have hs0 : Below w4.heap.size w4 w4.drew := (Below.refl _ _).drew
  refine region_facts_set 15 (fun _ => false) (FV [.pointer (some ⟨q, 6, none⟩), .pointer (some ⟨q, 6, none⟩), .pointer (some ⟨q, 6, none⟩), .pointer (some ⟨q, 6, none⟩), (rg 1).val, .int .i64 j, .pointer (some ⟨q, 0, none⟩), .pointer (some ⟨q, 0, none⟩), .pointer (some ⟨q, 18, none⟩), .int .i64 b, .int .u64 b, .int .i64 B, .int .i64 (B - 1 : Nat), .int .i64 k, ((rg 1).drop (k : Int)).val]) (fun _ x => Below w4.heap.size w4 x) (fun _ x y => x.heap.size ≤ y.heap.size) [52, 53, 54, 55, 56, 57, 58, 59, 60, 61, 62, 63, 64, 65, 66] (by kernel_rfl) (by kernel_rfl) (by kernel_rfl) (by decide) (by kernel_rfl) (by kernel_rfl) (fun _ _ _ _ _ _ h _ => h) (fun _ _ _ h => h) hs0 ?_ ?_
  · intro fr hfr
    have f8 : fr.getD 8 undef = .pointer (some ⟨q, 6, none⟩) := by rw [hfr]; rfl
    have f0 : fr.getD 0 undef = .pointer (some ⟨q, 0, none⟩) := by rw [hfr]; rfl
    have f4 : fr.getD 4 undef = .int .i64 j := by rw [hfr]; rfl
    clear hfr
    iterate 15
      refine ⟨⟨trivial, ?_⟩, ?_⟩
      · intro ρ w' p hp hdq hρ hd hSt
        simp only [DepF, Region.binds, List.getD_cons_zero, List.getD_cons_succ, FV, forall_const, and_true, true_and, Bits.val] at hd
        have hcon := hρ.con
        have e8 := (hρ.slot 8 (by kernel_rfl)).trans f8
        have e0 := (hρ.slot 0 (by kernel_rfl)).trans f0
        have e4 := (hρ.slot 4 (by kernel_rfl)).trans f4
        have eb := (hB4.below hSt hB4.lt).cell
        unfold rCells at eb
        have hdp := drop_any (rg 1) k w' hbok
        unfold Bits.val at hdp
        have q1 := HS1.out
        have q2 := HS2.out
        have q3 := HMK.out
        (try rw [execOp_call_fn _ _ _ _ _ _ _ _ _ (hρ.fn _)])
        go_simp
        (try simp only [GoodQ, FV, List.getD_cons_zero, List.getD_cons_succ])
        first
          | exact ⟨rfl, Nat.le_refl _, fun h => absurd h (by decide), hSt⟩
          | exact ⟨trivial, Nat.le_refl _, fun h => absurd h (by decide), hSt⟩
          | (refine hdp.mono ?_; rintro e w'' ⟨rfl, hx⟩; exact ⟨_, rfl, rfl, hx.size, fun h => absurd h (by decide), hSt.trans (Below.mono hx hSt.size)⟩)
    trivial
  · intro vs w5 hSt hF _
    have h0 : vs 0 = .pointer (some ⟨q, 6, none⟩) := hF 0 (by decide)
    have h14 : vs 14 = ((rg 1).drop (k : Int)).val := hF 14 (by decide)
    unfold Bits.val at h14
    have hB5 := hB4.below hSt hB4.lt
    have hT5 := hT4.below hSt hT4.lt
    have hC5 := hC4.below hSt
    have hk5 : Chg (fun g => g = q ∨ g = nb) w w5 := hk4.trans (Chg.of_same hSt (fun g => g = q ∨ g = nb)) (fun _ _ e => e)
    have e1 := hB5.cell
    unfold rCells at e1
    have e2 := hB5.frozen
    have e3 := hB5.lt
    obtain ⟨wa, hwa, hBa, hka⟩ := ring_put hB5 1 hl ((rg 1).drop (k : Int))
    simp only [Nat.reduceMul, Nat.reduceAdd] at hwa
    have fin : (∃ rg', RM wa q tb c nb P b B (s.del i j) rg' n cas) ∧ Chg (fun g => g = q ∨ g = nb) w wa := by
      have hqt : q ≠ tb := Blk.ne hB5 hT5 (by decide)
      refine ⟨⟨_, hBa, hT5.chg hka (fun e => hqt e.symm), hC5.chg hka (fun e => hcq e.symm) (fun e => hqn e.symm), HB.out, HOK.out⟩, hk5.trans hka (fun _ _ e => .inl e)⟩
    clear hF hSt hs0 hB4 hT4 hC4 hk4 hB5 hT5 hC5 hk5 hBa hka HB HOK
    simp only [setAll, List.setIfInBounds_toArray, List.set_cons_zero, List.set_cons_succ, Nat.reduceAdd]
    rw [h0, h14]
    simp only [List.drop_succ_cons, List.drop_zero]
    clear h0 h14
    go_wp2_with fail
    rw [← hwa]
    go_end0
    exact ⟨rfl, fin⟩
set_option linter.unusedSimpArgs false in
set_option maxRecDepth 100000 in
set_option maxHeartbeats 2000000 in
theorem rdrop_slot2 (q tb c nb P b B i j k : Nat) (s : HSt) (rg : Nat → Bits) (n cas : Int) (w : World) (h : RM w q tb c nb P b B s rg n cas) (z : RSz P b B) (hi : i < P) (ho : s.inn i = some j) (he : Hid ((s.L j).erase i = [])) (hk : k < B) (hj : Hid (j = 2 * B + k)) :
    Calls Tryz.prog 54 #[.pointer (some ⟨q, 0, none⟩), .int .i64 i] w fun e w' => e = .returned (.tuple #[]) ∧ (∃ rg', RM w' q tb c nb P b B (s.del i j) rg' n cas) ∧ Chg (fun g => g = q ∨ g = nb) w w' := by
  have hl : 2 < 4 := by omega
  have HB := Lib.hid (ring_del h.busy z.le hk hj.out he.out)
  have HOK := Lib.hid (h.ok.del hi ho)
  have hbok := (h.busy 2 hl).ok
  have hj4 := slot_lt z.pos hl hk
  rw [← hj.out] at hj4
  obtain ⟨hjN, him⟩ := h.ok.ok.out i hi j ho
  have hP := z.hP
  have hB64 := z.le
  have hcq := h.qc
  have htc := h.tc
  have hqn := h.qnb
  have htn := h.tnb
  obtain ⟨hqw, htw, hcw, hnw⟩ := h.lts
  have hB1 := h.blk
  have hT1 := h.tms
  have hC1 := h.ch
  clear h
  have hc := hB1.cell
  unfold rCells at hc
  have hwh := cwhich_any c nb P (4 * B + 2) s.inn s.L i _ hC1 (by omega)
  have hwo : whichO P s.inn i = some ((j : Nat) : Int) := by simp [whichO, cin_of hi, ho]
  rw [hwo] at hwh
  unfold pairV at hwh
  have hdr := cdrop_ok c nb P (4 * B + 2) i j s.inn s.L _ hC1 (by omega) hi ho
  clear hwo
  go_enter Tryz.func54, Tryz.ntmps54
  go_wp2_with fail
  refine hwh.mono ?_
  rintro e w' ⟨rfl, rfl⟩
  go_wp2_with fail
  refine hdr.mono ?_
  rintro e w2 ⟨rfl, hC2, hk2⟩
  have hB2 := hB1.chg hk2 hqn
  have hT2 := hT1.chg hk2 htn
  have hfi := cfirst_any c nb P (4 * B + 2) j _ _ w2 hC2 (by omega) hjN
  rw [updL_at] at hfi
  have hc2 := hB2.cell
  unfold rCells at hc2
  have l2 := hB2.lt
  clear hB1 hT1 hC1 hc hwh hdr
  rw [he.out] at hfi
  unfold pairV headI at hfi
  go_wp2_with fail
  refine hfi.mono ?_
  rintro e w3 ⟨rfl, hx⟩
  have hB3 := hB2.below hx l2
  have hT3 := hT2.below hx hT2.lt
  have hC3 := hC2.below hx
  have hk3 : Chg (fun g => g = q ∨ g = nb) w w3 := (hk2.mono fun _ _ e => .inr e).trans (Chg.of_same hx (fun g => g = q ∨ g = nb)) (fun _ _ e => e)
  clear hfi hc2 l2 hx hB2 hT2 hC2 hk2
  have hre := rready_any q tb c P b B rg _ n cas w3 hB3 z
  have hj2 : (j : Int) < ((4 * B : Nat) : Int) := by omega
  have HSH := Lib.hid (show (j : Int) / 2 ^ b = 2 by
    rw [shr_nat, z.hB, hj.out, Nat.mul_comm, Nat.mul_add_div z.pos, Nat.div_eq_of_lt hk]
    rfl)
  have HMK := Lib.hid (show bits BinOp.and IntKind.i64 (j : Int) ((B - 1 : Nat) : Int) = (k : Int) by
    have := i64_mask j b (by omega) (by have := z.h6; omega)
    rw [z.hB] at this
    rw [this, hj.out, Nat.mul_comm, Nat.mul_add_mod, Nat.mod_eq_of_lt hk])
  have h6 := z.h6
  have hpos := z.pos
  have e1 : IntKind.u64.wrap (b : Int) = b := IntWalk.u64_in _ (by omega)
  have hS1 : IntKind.i64.wrap (1 * 2 ^ b) = ((1 * B : Nat) : Int) := z.shl 1 (by omega)
  rw [Int.one_mul, Nat.one_mul] at hS1
  have HS1 := Lib.hid hS1
  have HS2 := Lib.hid (show IntKind.i64.wrap ((B : Int) - 1) = ((B - 1 : Nat) : Int) by
    rw [show (B : Int) - 1 = ((B - 1 : Nat) : Int) by omega]
    exact IntWalk.i64_in _ (by omega))
  clear hS1
  go_wp2_with fail
  refine hre.mono ?_
  rintro e w' ⟨rfl, rfl⟩
  go_upto_region 4 with fail
  have hsh := HSH.out
  have hc3 := hB3.cell
  unfold rCells at hc3
  refine still_all (by kernel_rfl) (by kernel_rfl) ?_
  repeat still_step
  refine wpStill_nil ?_
  clear hsh hc3
  have hB4 := hB3.drew
  have hT4 := hT3.drew
  have hC4 := hC3.drew
  have hk4 := hk3.drew
  clear hB3 hT3 hC3 hk3 hre
  generalize w3.drew = w4 at *
  go_upto_region 5 with fail
  have hs0 : Below w4.heap.size w4 w4.drew := (Below.refl _ _).drew
  refine region_facts_set 15 (fun _ => false) (FV [.pointer (some ⟨q, 10, none⟩), .pointer (some ⟨q, 10, none⟩), .pointer (some ⟨q, 10, none⟩), .pointer (some ⟨q, 10, none⟩), (rg 2).val, .int .i64 j, .pointer (some ⟨q, 0, none⟩), .pointer (some ⟨q, 0, none⟩), .pointer (some ⟨q, 18, none⟩), .int .i64 b, .int .u64 b, .int .i64 B, .int .i64 (B - 1 : Nat), .int .i64 k, ((rg 2).drop (k : Int)).val]) (fun _ x => Below w4.heap.size w4 x) (fun _ x y => x.heap.size ≤ y.heap.size) [52, 53, 54, 55, 56, 57, 58, 59, 60, 61, 62, 63, 64, 65, 66] (by kernel_rfl) (by kernel_rfl) (by kernel_rfl) (by decide) (by kernel_rfl) (by kernel_rfl) (fun _ _ _ _ _ _ h _ => h) (fun _ _ _ h => h) hs0 ?_ ?_
  · intro fr hfr
    have f8 : fr.getD 8 undef = .pointer (some ⟨q, 10, none⟩) := by rw [hfr]; rfl
    have f0 : fr.getD 0 undef = .pointer (some ⟨q, 0, none⟩) := by rw [hfr]; rfl
    have f4 : fr.getD 4 undef = .int .i64 j := by rw [hfr]; rfl
    clear hfr
    iterate 15
      refine ⟨⟨trivial, ?_⟩, ?_⟩
      · intro ρ w' p hp hdq hρ hd hSt
        simp only [DepF, Region.binds, List.getD_cons_zero, List.getD_cons_succ, FV, forall_const, and_true, true_and, Bits.val] at hd
        have hcon := hρ.con
        have e8 := (hρ.slot 8 (by kernel_rfl)).trans f8
        have e0 := (hρ.slot 0 (by kernel_rfl)).trans f0
        have e4 := (hρ.slot 4 (by kernel_rfl)).trans f4
        have eb := (hB4.below hSt hB4.lt).cell
        unfold rCells at eb
        have hdp := drop_any (rg 2) k w' hbok
        unfold Bits.val at hdp
        have q1 := HS1.out
        have q2 := HS2.out
        have q3 := HMK.out
        (try rw [execOp_call_fn _ _ _ _ _ _ _ _ _ (hρ.fn _)])
        go_simp
        (try simp only [GoodQ, FV, List.getD_cons_zero, List.getD_cons_succ])
        first
          | exact ⟨rfl, Nat.le_refl _, fun h => absurd h (by decide), hSt⟩
          | exact ⟨trivial, Nat.le_refl _, fun h => absurd h (by decide), hSt⟩
          | (refine hdp.mono ?_; rintro e w'' ⟨rfl, hx⟩; exact ⟨_, rfl, rfl, hx.size, fun h => absurd h (by decide), hSt.trans (Below.mono hx hSt.size)⟩)
    trivial
  · intro vs w5 hSt hF _
    have h0 : vs 0 = .pointer (some ⟨q, 10, none⟩) := hF 0 (by decide)
    have h14 : vs 14 = ((rg 2).drop (k : Int)).val := hF 14 (by decide)
    unfold Bits.val at h14
    have hB5 := hB4.below hSt hB4.lt
    have hT5 := hT4.below hSt hT4.lt
    have hC5 := hC4.below hSt
    have hk5 : Chg (fun g => g = q ∨ g = nb) w w5 := hk4.trans (Chg.of_same hSt (fun g => g = q ∨ g = nb)) (fun _ _ e => e)
    have e1 := hB5.cell
    unfold rCells at e1
    have e2 := hB5.frozen
    have e3 := hB5.lt
    obtain ⟨wa, hwa, hBa, hka⟩ := ring_put hB5 2 hl ((rg 2).drop (k : Int))
    simp only [Nat.reduceMul, Nat.reduceAdd] at hwa
    have fin : (∃ rg', RM wa q tb c nb P b B (s.del i j) rg' n cas) ∧ Chg (fun g => g = q ∨ g = nb) w wa := by
      have hqt : q ≠ tb := Blk.ne hB5 hT5 (by decide)
      refine ⟨⟨_, hBa, hT5.chg hka (fun e => hqt e.symm), hC5.chg hka (fun e => hcq e.symm) (fun e => hqn e.symm), HB.out, HOK.out⟩, hk5.trans hka (fun _ _ e => .inl e)⟩
    clear hF hSt hs0 hB4 hT4 hC4 hk4 hB5 hT5 hC5 hk5 hBa hka HB HOK
    simp only [setAll, List.setIfInBounds_toArray, List.set_cons_zero, List.set_cons_succ, Nat.reduceAdd]
    rw [h0, h14]
    simp only [List.drop_succ_cons, List.drop_zero]
    clear h0 h14
    go_wp2_with fail
    rw [← hwa]
    go_end0
    exact ⟨rfl, fin⟩
set_option linter.unusedSimpArgs false in
set_option maxRecDepth 100000 in
set_option maxHeartbeats 2000000 in
theorem rdrop_slot3 (q tb c nb P b B i j k : Nat) (s : HSt) (rg : Nat → Bits) (n cas : Int) (w : World) (h : RM w q tb c nb P b B s rg n cas) (z : RSz P b B) (hi : i < P) (ho : s.inn i = some j) (he : Hid ((s.L j).erase i = [])) (hk : k < B) (hj : Hid (j = 3 * B + k)) :
    Calls Tryz.prog 54 #[.pointer (some ⟨q, 0, none⟩), .int .i64 i] w fun e w' => e = .returned (.tuple #[]) ∧ (∃ rg', RM w' q tb c nb P b B (s.del i j) rg' n cas) ∧ Chg (fun g => g = q ∨ g = nb) w w' := by
  have hl : 3 < 4 := by omega
  have HB := Lib.hid (ring_del h.busy z.le hk hj.out he.out)
  have HOK := Lib.hid (h.ok.del hi ho)
  have hbok := (h.busy 3 hl).ok
  have hj4 := slot_lt z.pos hl hk
  rw [← hj.out] at hj4
  obtain ⟨hjN, him⟩ := h.ok.ok.out i hi j ho
  have hP := z.hP
  have hB64 := z.le
  have hcq := h.qc
  have htc := h.tc
  have hqn := h.qnb
  have htn := h.tnb
  obtain ⟨hqw, htw, hcw, hnw⟩ := h.lts
  have hB1 := h.blk
  have hT1 := h.tms
  have hC1 := h.ch
  clear h
  have hc := hB1.cell
  unfold rCells at hc
  have hwh := cwhich_any c nb P (4 * B + 2) s.inn s.L i _ hC1 (by omega)
  have hwo : whichO P s.inn i = some ((j : Nat) : Int) := by simp [whichO, cin_of hi, ho]
  rw [hwo] at hwh
  unfold pairV at hwh
  have hdr := cdrop_ok c nb P (4 * B + 2) i j s.inn s.L _ hC1 (by omega) hi ho
  clear hwo
  go_enter Tryz.func54, Tryz.ntmps54
  go_wp2_with fail
  refine hwh.mono ?_
  rintro e w' ⟨rfl, rfl⟩
  go_wp2_with fail
  refine hdr.mono ?_
  rintro e w2 ⟨rfl, hC2, hk2⟩
  have hB2 := hB1.chg hk2 hqn
  have hT2 := hT1.chg hk2 htn
  have hfi := cfirst_any c nb P (4 * B + 2) j _ _ w2 hC2 (by omega) hjN
  rw [updL_at] at hfi
  have hc2 := hB2.cell
  unfold rCells at hc2
  have l2 := hB2.lt
  clear hB1 hT1 hC1 hc hwh hdr
  rw [he.out] at hfi
  unfold pairV headI at hfi
  go_wp2_with fail
  refine hfi.mono ?_
  rintro e w3 ⟨rfl, hx⟩
  have hB3 := hB2.below hx l2
  have hT3 := hT2.below hx hT2.lt
  have hC3 := hC2.below hx
  have hk3 : Chg (fun g => g = q ∨ g = nb) w w3 := (hk2.mono fun _ _ e => .inr e).trans (Chg.of_same hx (fun g => g = q ∨ g = nb)) (fun _ _ e => e)
  clear hfi hc2 l2 hx hB2 hT2 hC2 hk2
  have hre := rready_any q tb c P b B rg _ n cas w3 hB3 z
  have hj2 : (j : Int) < ((4 * B : Nat) : Int) := by omega
  have HSH := Lib.hid (show (j : Int) / 2 ^ b = 3 by
    rw [shr_nat, z.hB, hj.out, Nat.mul_comm, Nat.mul_add_div z.pos, Nat.div_eq_of_lt hk]
    rfl)
  have HMK := Lib.hid (show bits BinOp.and IntKind.i64 (j : Int) ((B - 1 : Nat) : Int) = (k : Int) by
    have := i64_mask j b (by omega) (by have := z.h6; omega)
    rw [z.hB] at this
    rw [this, hj.out, Nat.mul_comm, Nat.mul_add_mod, Nat.mod_eq_of_lt hk])
  have h6 := z.h6
  have hpos := z.pos
  have e1 : IntKind.u64.wrap (b : Int) = b := IntWalk.u64_in _ (by omega)
  have hS1 : IntKind.i64.wrap (1 * 2 ^ b) = ((1 * B : Nat) : Int) := z.shl 1 (by omega)
  rw [Int.one_mul, Nat.one_mul] at hS1
  have HS1 := Lib.hid hS1
  have HS2 := Lib.hid (show IntKind.i64.wrap ((B : Int) - 1) = ((B - 1 : Nat) : Int) by
    rw [show (B : Int) - 1 = ((B - 1 : Nat) : Int) by omega]
    exact IntWalk.i64_in _ (by omega))
  clear hS1
  go_wp2_with fail
  refine hre.mono ?_
  rintro e w' ⟨rfl, rfl⟩
  go_upto_region 4 with fail
  have hsh := HSH.out
  have hc3 := hB3.cell
  unfold rCells at hc3
  refine still_all (by kernel_rfl) (by kernel_rfl) ?_
  repeat still_step
  refine wpStill_nil ?_
  clear hsh hc3
  have hB4 := hB3.drew
  have hT4 := hT3.drew
  have hC4 := hC3.drew
  have hk4 := hk3.drew
  clear hB3 hT3 hC3 hk3 hre
  generalize w3.drew = w4 at *
  go_upto_region 5 with fail
  have hs0 : Below w4.heap.size w4 w4.drew := (Below.refl _ _).drew
  refine region_facts_set 15 (fun _ => false) (FV [.pointer (some ⟨q, 14, none⟩), .pointer (some ⟨q, 14, none⟩), .pointer (some ⟨q, 14, none⟩), .pointer (some ⟨q, 14, none⟩), (rg 3).val, .int .i64 j, .pointer (some ⟨q, 0, none⟩), .pointer (some ⟨q, 0, none⟩), .pointer (some ⟨q, 18, none⟩), .int .i64 b, .int .u64 b, .int .i64 B, .int .i64 (B - 1 : Nat), .int .i64 k, ((rg 3).drop (k : Int)).val]) (fun _ x => Below w4.heap.size w4 x) (fun _ x y => x.heap.size ≤ y.heap.size) [52, 53, 54, 55, 56, 57, 58, 59, 60, 61, 62, 63, 64, 65, 66] (by kernel_rfl) (by kernel_rfl) (by kernel_rfl) (by decide) (by kernel_rfl) (by kernel_rfl) (fun _ _ _ _ _ _ h _ => h) (fun _ _ _ h => h) hs0 ?_ ?_
  · intro fr hfr
    have f8 : fr.getD 8 undef = .pointer (some ⟨q, 14, none⟩) := by rw [hfr]; rfl
    have f0 : fr.getD 0 undef = .pointer (some ⟨q, 0, none⟩) := by rw [hfr]; rfl
    have f4 : fr.getD 4 undef = .int .i64 j := by rw [hfr]; rfl
    clear hfr
    iterate 15
      refine ⟨⟨trivial, ?_⟩, ?_⟩
      · intro ρ w' p hp hdq hρ hd hSt
        simp only [DepF, Region.binds, List.getD_cons_zero, List.getD_cons_succ, FV, forall_const, and_true, true_and, Bits.val] at hd
        have hcon := hρ.con
        have e8 := (hρ.slot 8 (by kernel_rfl)).trans f8
        have e0 := (hρ.slot 0 (by kernel_rfl)).trans f0
        have e4 := (hρ.slot 4 (by kernel_rfl)).trans f4
        have eb := (hB4.below hSt hB4.lt).cell
        unfold rCells at eb
        have hdp := drop_any (rg 3) k w' hbok
        unfold Bits.val at hdp
        have q1 := HS1.out
        have q2 := HS2.out
        have q3 := HMK.out
        (try rw [execOp_call_fn _ _ _ _ _ _ _ _ _ (hρ.fn _)])
        go_simp
        (try simp only [GoodQ, FV, List.getD_cons_zero, List.getD_cons_succ])
        first
          | exact ⟨rfl, Nat.le_refl _, fun h => absurd h (by decide), hSt⟩
          | exact ⟨trivial, Nat.le_refl _, fun h => absurd h (by decide), hSt⟩
          | (refine hdp.mono ?_; rintro e w'' ⟨rfl, hx⟩; exact ⟨_, rfl, rfl, hx.size, fun h => absurd h (by decide), hSt.trans (Below.mono hx hSt.size)⟩)
    trivial
  · intro vs w5 hSt hF _
    have h0 : vs 0 = .pointer (some ⟨q, 14, none⟩) := hF 0 (by decide)
    have h14 : vs 14 = ((rg 3).drop (k : Int)).val := hF 14 (by decide)
    unfold Bits.val at h14
    have hB5 := hB4.below hSt hB4.lt
    have hT5 := hT4.below hSt hT4.lt
    have hC5 := hC4.below hSt
    have hk5 : Chg (fun g => g = q ∨ g = nb) w w5 := hk4.trans (Chg.of_same hSt (fun g => g = q ∨ g = nb)) (fun _ _ e => e)
    have e1 := hB5.cell
    unfold rCells at e1
    have e2 := hB5.frozen
    have e3 := hB5.lt
    obtain ⟨wa, hwa, hBa, hka⟩ := ring_put hB5 3 hl ((rg 3).drop (k : Int))
    simp only [Nat.reduceMul, Nat.reduceAdd] at hwa
    have fin : (∃ rg', RM wa q tb c nb P b B (s.del i j) rg' n cas) ∧ Chg (fun g => g = q ∨ g = nb) w wa := by
      have hqt : q ≠ tb := Blk.ne hB5 hT5 (by decide)
      refine ⟨⟨_, hBa, hT5.chg hka (fun e => hqt e.symm), hC5.chg hka (fun e => hcq e.symm) (fun e => hqn e.symm), HB.out, HOK.out⟩, hk5.trans hka (fun _ _ e => .inl e)⟩
    clear hF hSt hs0 hB4 hT4 hC4 hk4 hB5 hT5 hC5 hk5 hBa hka HB HOK
    simp only [setAll, List.setIfInBounds_toArray, List.set_cons_zero, List.set_cons_succ, Nat.reduceAdd]
    rw [h0, h14]
    simp only [List.drop_succ_cons, List.drop_zero]
    clear h0 h14
    go_wp2_with fail
    rw [← hwa]
    go_end0
    exact ⟨rfl, fin⟩
theorem rdrop_ok (q tb c nb P b B i j : Nat) (s : HSt) (rg : Nat → Bits) (n cas : Int) (w : World) (h : RM w q tb c nb P b B s rg n cas) (z : RSz P b B) (hi : i < P) (ho : s.inn i = some j) :
    Calls Tryz.prog 54 #[.pointer (some ⟨q, 0, none⟩), .int .i64 i] w fun e w' => e = .returned (.tuple #[]) ∧ (∃ rg', RM w' q tb c nb P b B (s.del i j) rg' n cas) ∧ Chg (fun g => g = q ∨ g = nb) w w' := by
  cases he : (s.L j).erase i with
  | cons a r => exact rdrop_stay q tb c nb P b B i j s rg n cas w h z hi ho a r (Lib.hid he)
  | nil =>
    by_cases hj : 4 * B ≤ j
    · exact rdrop_high q tb c nb P b B i j s rg n cas w h z hi ho (Lib.hid he) hj
    · obtain ⟨l, k, hl, hk, e⟩ := ring_split z.pos (show j < 4 * B by omega)
      have hl' : l = 0 ∨ l = 1 ∨ l = 2 ∨ l = 3 := by omega
      rcases hl' with rfl | rfl | rfl | rfl
      · exact rdrop_slot0 q tb c nb P b B i j k s rg n cas w h z hi ho (Lib.hid he) hk (Lib.hid e)
      · exact rdrop_slot1 q tb c nb P b B i j k s rg n cas w h z hi ho (Lib.hid he) hk (Lib.hid e)
      · exact rdrop_slot2 q tb c nb P b B i j k s rg n cas w h z hi ho (Lib.hid he) hk (Lib.hid e)
      · exact rdrop_slot3 q tb c nb P b B i j k s rg n cas w h z hi ho (Lib.hid he) hk (Lib.hid e)
end Go.Proofs.YtckkfbepclogcaaGreatDoor
