/- The law: the texts LawRT, laid end to end by a program. -/
import Derived.Test.YtckkfbepclogcaaDoorPk24
namespace Go.Proofs.YtckkfbepclogcaaDoor
open Go.RowKit
/-- Ticks that lie in memory. -/
def UsAt (w : World) (B : Nat) (A : Option Addr) (l : List Int) : Prop := ∀ k (h : k < l.length), ∃ b o, A = some ⟨b, o, none⟩ ∧ b < B ∧ w.cell? ⟨b, o + k, none⟩ = some (.int .u64 l[k])
theorem UsAt.below {w w' : World} {B B' : Nat} {A : Option Addr} {l : List Int} (h : UsAt w B A l) (hb : Below B' w w') (hB : B ≤ B') : UsAt w' B A l := fun k hk => by
  obtain ⟨b, o, rfl, h1, h2⟩ := h k hk
  exact ⟨b, o, rfl, h1, (World.cell?_of_block (hb.block b (by omega))).trans h2⟩
/-- The counts of a wheel with one timer. -/
structure ThreeI (B : Nat) (base cas : Int) (t : Timer) : Prop where
  ge : 0 ≤ cas
  le : cas + (pot B base t : Nat) ≤ 3
theorem ThreeI.step {B : Nat} {base cas : Int} {t : Timer} (h : ThreeI B base cas t) (hB : 0 < B) {now : Int} (hn : now < t.at_) : ThreeI B (max base now) (cas + (casL [t] B base now : Nat)) t := by
  have h1 := potS_turn hB base now [t]
  rw [(due_soon t hn).2] at h1
  unfold potS at h1
  simp only [List.map_cons, List.map_nil, List.sum_cons, List.sum_nil, Nat.add_zero] at h1
  have := h.ge
  have := h.le
  exact ⟨by omega, by omega⟩
theorem three_law {B : Nat} (hB : 0 < B) {base now : Int} {t : Timer} (hn : now < t.at_) :
    lev (B : Int) (max base now) t.at_ ≤ lev (B : Int) base t.at_ ∧ ((casL [t] B base now = 1 ∧ lev (B : Int) (max base now) t.at_ < lev (B : Int) base t.at_ ∧ lev (B : Int) base t.at_ ≤ 3) ∨ (casL [t] B base now = 0 ∧ ¬ (lev (B : Int) (max base now) t.at_ < lev (B : Int) base t.at_ ∧ lev (B : Int) base t.at_ ≤ 3))) := by
  by_cases hb : now ≤ base
  · have e : max base now = base := by omega
    rw [e]
    refine ⟨Int.le_refl _, .inr ⟨?_, by omega⟩⟩
    unfold casL
    rw [if_pos hb]
  · have e : max base now = now := by omega
    have h0 : lev (B : Int) base t.at_ ≠ -1 := fun x => by have := lev_neg.1 x; omega
    have h1 := lev_in (B : Int) base t.at_
    rw [e]
    refine ⟨lev_mono (by omega) (by omega) hn, ?_⟩
    unfold casL
    rw [if_neg hb, (due_soon t hn).2, List.countP_cons, List.countP_nil]
    by_cases hc : cascB B base now t = true
    · left
      rw [if_pos hc]
      unfold cascB at hc
      have := of_decide_eq_true hc
      exact ⟨rfl, this.2.2, this.2.1⟩
    · right
      rw [if_neg hc]
      refine ⟨rfl, fun x => hc ?_⟩
      unfold cascB
      exact decide_eq_true ⟨by omega, x.2, x.1⟩
theorem three_due {B : Nat} {base now : Int} {t : Timer} (hn : t.at_ ≤ now) : casL [t] B base now = 0 := by
  unfold casL
  split
  · rfl
  · rw [(due_past t hn).2]
    rfl
/-- The timer's box, the wheel's blocks behind it, and all that was there. -/
structure KJ (q tb c nb : Nat) (t : Timer) (w w' : World) : Prop where
  a : Blk w' w.heap.size 37 #[.int .u64 t.at_, .int .u64 t.seq, .int .i64 t.place]
  lq : w.heap.size < q
  lt : w.heap.size < tb
  lc : w.heap.size < c
  ln : w.heap.size < nb
  below : Below w.heap.size w w'
section
variable {q tb c nb : Nat} {t : Timer} {w x y : World}
theorem KJ.low (h : KJ q tb c nb t w x) {i : Nat} (e : HS q tb nb i) : w.heap.size < i := by
  have := h.lq; have := h.lt; have := h.ln
  unfold HS at e
  omega
theorem KJ.chg (h : KJ q tb c nb t w x) (k : Chg (HS q tb nb) x y) : KJ q tb c nb t w y :=
  ⟨h.a.chg k (fun e => by have := h.low e; omega), h.lq, h.lt, h.lc, h.ln, below_chg h.below (Nat.le_refl _) k (fun _ e => Nat.le_of_lt (h.low e))⟩
theorem KJ.kept (h : KJ q tb c nb t w x) (k : Below x.heap.size x y) : KJ q tb c nb t w y := h.chg (Chg.of_same k _)
theorem KJ.tab (h : KJ q tb c nb t w x) (hT : TabAt w) : TabAt x := hT.below h.below (glob_lt hT)
end
attribute [local irreducible] Calls
set_option linter.unusedSimpArgs false in
set_option maxRecDepth 100000 in
set_option maxHeartbeats 4000000 in
theorem rthree (bits base : Int) (t : Timer) (A : Option Addr) (l : List Int) (c0 : Nat) (w : World) (hT : TabAt w) (hA : UsAt w w.heap.size A l) (ha : ∀ x ∈ l, U64 x) (hlen : l.length ≤ 2 ^ 63 - 1) (ub : U64 base) (ut : U64 t.at_) :
    Calls Tryd.prog 9 #[.int .i64 bits, .int .u64 base, t.val, .slice A l.length c0] w fun e w' => e = .returned (.bool true) ∧ Below w.heap.size w w' := by
  have hb0 := alloc_kept' w (.cells #[.int .u64 t.at_, .int .u64 t.seq, .int .i64 t.place] 37)
  have hk0 : Blk (w.alloc (.cells #[.int .u64 t.at_, .int .u64 t.seq, .int .i64 t.place] 37)) w.heap.size 37 #[.int .u64 t.at_, .int .u64 t.seq, .int .i64 t.place] := Blk.new _ _ _
  have hw := vworks (w.alloc (.cells #[.int .u64 t.at_, .int .u64 t.seq, .int .i64 t.place] 37)) (hT.below hb0 (glob_lt hT))
  unfold Timer.val
  go_enter Tryd.func9, Tryd.ntmps9
  go_wp2_with fail
  refine hw.mono ?_
  rintro e w1 ⟨rfl, hx⟩
  have hk1 := hk0.below hx hk0.lt
  have hb := hb0.trans (Below.mono hx hb0.size)
  have hlt := hk1.lt
  clear hw hk0 hb0 hx
  by_cases hl : 60 < l.length
  · have hl2 : (60 : Int) < l.length := by omega
    have HB := Lib.hid hb
    clear hA hb hk1
    go_wp2_with fail
    go_ret
    exact ⟨rfl, HB.out⟩
  · have hl2 : ¬ (60 : Int) < l.length := by omega
    by_cases hok : NewOk 1 bits
    · have hn := vnew_ok 1 bits base w1 hok
      have z := sideN_ok hok
      have e2 : (1 : Int).toNat = 1 := rfl
      rw [e2] at hn z
      generalize sideN bits = B at *
      generalize bits.toNat = bn at *
      have hB0 := z.pos
      clear hok e2
      go_wp2_with fail
      refine hn.mono ?_
      rintro e w2 ⟨q, tb, c, nb, rfl, hq, hx, g1, g2, g3, g4⟩
      have hk : KJ q tb c nb t w w2 := ⟨hk1.below hx hlt, by omega, by omega, by omega, by omega, hb.trans (Below.mono hx hb.size)⟩
      have hin := vq_ins q tb c nb 1 bn B base 0 [] t w2 hq z ub ut
      unfold Timer.val at hin
      have hc2 := hk.a.cell
      clear hn hx g1 g2 g3 g4 hlt hq hk1 hb
      go_wp2_with fail
      refine hin.mono ?_
      rintro e w3 ⟨rfl, hq, hx⟩
      replace hk := hk.chg hx
      clear hx hin hc2
      by_cases hc : insC (1 : Nat) [] t = 0
      · have e2 : insL (1 : Nat) [] t = [t] := by unfold insL; rw [if_pos hc]; rfl
        have hg : getL [t] 0 = some t := by
          have hp : t.place = 0 := by
            unfold insC at hc
            split at hc
            · cases hc
            · omega
          simp [getL, hp]
        rw [e2] at hq
        rw [hc]
        have HF0 : Hid (ThreeI B base 0 t) := Lib.hid ⟨Int.le_refl _, by have := pot_le B base t; omega⟩
        have hcs := vq_cas q tb c nb 1 bn B base 0 [t] w3 hq
        clear e2 hc
        go_wp2_with fail
        refine hcs.mono ?_
        rintro e wx ⟨rfl, rfl⟩
        clear hcs
        go_wp2_with fail
        go_loopw [13, 14] (fun s i wr => ∃ (k : Nat) (cas b1 : Int), k ≤ l.length ∧ s = .int .i64 cas ∧ i = .int .i64 k ∧ RQ wr q tb c nb 1 bn B b1 cas [t] ∧ KJ q tb c nb t w wr ∧ Hid (ThreeI B b1 cas t) ∧ U64 b1) (fun _ i _ => l.length - (intOf i).toNat)
        case atStart => exact ⟨0, 0, base, Nat.zero_le _, rfl, rfl, hq, hk, HF0, ub⟩
        case round =>
          clear hq hk HF0 ub
          obtain ⟨k, cas, b1, hkl, rfl, rfl, hq, hk, HFI, u1⟩ := hrel
          have hc0 := HFI.out.ge
          have hc3 : cas ≤ 3 := by have := HFI.out.le; omega
          by_cases hlt : k < l.length
          · have us := ha _ (List.getElem_mem hlt)
            obtain ⟨ab, ao, rfl, hbb, d0⟩ := (hA.below hk.below (Nat.le_refl _)) k hlt
            have hwh := vq_where q tb c nb 1 bn B b1 cas [t] 0 wr hq z u1 (fun x hx => by rw [List.mem_singleton.1 hx]; exact ut)
            rw [hg] at hwh
            unfold whV at hwh
            simp only [] at hwh
            generalize l[k] = s at *
            have hlaw := three_law hB0 (base := b1) (now := s) (t := t)
            have HST := HFI.out.step hB0 (now := s)
            have hdc := three_due (B := B) (base := b1) (now := s) (t := t)
            have um : U64 (max b1 s) := by unfold U64 at *; omega
            have hum : ∀ x ∈ [t], U64 x.at_ := fun x hx => by rw [List.mem_singleton.1 hx]; exact ut
            clear hA ha
            generalize lev (B : Int) b1 t.at_ = L at *
            generalize slotI (B : Int) b1 t.at_ = S1 at *
            go_wp2_with fail
            refine hwh.mono ?_
            rintro e w5 ⟨rfl, hx⟩
            have hT5 := (hk.kept hx).tab hT
            have hdu := vq_due q tb c nb 1 bn B b1 cas s [t] w5 (hq.below hx) z u1 us hum ⟨hc0, by omega⟩ hT5
            have d5 : w5.cell? ⟨ab, ao + k, none⟩ = some (.int .u64 s) := (World.cell?_of_block (hx.block ab (by have := hk.below.size; omega))).trans d0
            replace hk := hk.kept hx
            clear hwh hq hx d0 hT5
            by_cases hle : t.at_ ≤ s
            · rw [(due_past t hle).1, (due_past t hle).2, hdc hle] at hdu
              clear hdc hlaw HST um hum
              go_wp2_with fail
              refine hdu.mono ?_
              rintro e w6 ⟨v6, rfl, ho, hq, hx⟩
              have e0 : cas + ((0 : Nat) : Int) = cas := by omega
              rw [e0] at hq
              obtain ⟨A4, c4, rfl, hTm, _⟩ := ho.at
              obtain ⟨b4, o4, rfl, _, k0, k1, k2⟩ := hTm 0 (by simp)
              simp only [List.getElem_cons_zero, Nat.zero_mul, Nat.add_zero] at k0 k1 k2
              have d6 : w6.cell? ⟨ab, ao + k, none⟩ = some (.int .u64 s) := (World.cell?_of_block (hx.block ab (by have := hk.below.size; omega) (fun e => by have := hk.low e; omega))).trans d5
              replace hk := hk.chg hx
              have hbc := hk.a.cell
              have hcs := vq_cas q tb c nb 1 bn B _ cas [] w6.drew hq.drew
              have HK := Lib.hid hk.below.drew
              rw [show [t].length = 1 from rfl]
              clear hdu ho hq hx hk hTm d5 e0
              go_upto_region 19 with fail
              refine still_all (by kernel_rfl) (by kernel_rfl) ?_
              iterate 19 still_step
              still_call (flip hcs)
              repeat still_step
              refine wpStill_nil ?_
              go_wp2_with fail
              exact bodyPost_ret (v := .bool true) (by simp [results, Tryd.results9, go_sem]) rfl ⟨rfl, HK.out⟩
            · have hlt2 : s < t.at_ := by omega
              rw [(due_soon t hlt2).1, (due_soon t hlt2).2] at hdu
              replace hlaw := hlaw hlt2
              have HN3 := Lib.hid (HST hlt2)
              clear hdc HST
              generalize casL [t] B b1 s = C at *
              go_wp2_with fail
              refine hdu.mono ?_
              rintro e w6 ⟨v6, rfl, ho, hq, hx⟩
              obtain ⟨A4, c4, rfl, _⟩ := ho.at
              replace hk := hk.chg hx
              have hwh := vq_where q tb c nb 1 bn B _ _ [t] 0 w6 hq z um hum
              rw [hg] at hwh
              unfold whV at hwh
              simp only [] at hwh
              generalize lev (B : Int) (max b1 s) t.at_ = M at *
              generalize slotI (B : Int) (max b1 s) t.at_ = S2 at *
              generalize max b1 s = b2 at *
              rw [show ([] : List Timer).length = 0 from rfl]
              clear hdu ho hx d5 hum
              go_wp2_with fail
              refine hwh.mono ?_
              rintro e w7 ⟨rfl, hx⟩
              replace hk := hk.kept hx
              replace hq := hq.below hx
              clear hwh hx
              have hw1 : wrap64 (cas + 1) = cas + 1 := by
                unfold wrap64
                omega
              have m0 : ¬ L < M := by omega
              rcases hlaw.2 with ⟨rfl, m1, m2⟩ | ⟨rfl, m3⟩
              · rw [show cas + ((1 : Nat) : Int) = cas + 1 by omega] at hq HN3
                have n1 : ¬ cas + 1 < cas := by omega
                have hcs := vq_cas q tb c nb 1 bn B _ (cas + 1) [t] w7 hq
                clear hlaw
                go_wp2_with fail
                refine hcs.mono ?_
                rintro e wy ⟨rfl, rfl⟩
                clear hcs
                go_wp2_with fail
                go_roundw
                case rel => exact ⟨k + 1, _, _, by omega, rfl, by go_num, hq, hk, HN3, um⟩
                case measure => simp [intOf]; omega
              · rw [show cas + ((0 : Nat) : Int) = cas by omega] at hq HN3
                have n1 : ¬ cas + 1 < cas := by omega
                have n2 : (cas == cas + 1) = false := by simp; omega
                have n3 : ¬ cas = cas + 1 := by omega
                have hcs := vq_cas q tb c nb 1 bn B _ cas [t] w7 hq
                clear hlaw
                by_cases m1 : M < L
                · have m2 : ¬ L ≤ 3 := fun x => m3 ⟨m1, x⟩
                  clear m3
                  go_wp2_with fail
                  refine hcs.mono ?_
                  rintro e wy ⟨rfl, rfl⟩
                  clear hcs
                  go_wp2_with fail
                  go_roundw
                  case rel => exact ⟨k + 1, _, _, by omega, rfl, by go_num, hq, hk, HN3, um⟩
                  case measure => simp [intOf]; omega
                · clear m3
                  go_wp2_with fail
                  refine hcs.mono ?_
                  rintro e wy ⟨rfl, rfl⟩
                  clear hcs
                  go_wp2_with fail
                  go_roundw
                  case rel => exact ⟨k + 1, _, _, by omega, rfl, by go_num, hq, hk, HN3, um⟩
                  case measure => simp [intOf]; omega
          · have hln := vq_len q tb c nb 1 bn B b1 cas [t] wr hq
            have HB := Lib.hid hk.below
            rw [show [t].length = 1 from rfl] at hln
            clear hk hq
            go_wp2_with fail
            refine hln.mono ?_
            rintro e wx ⟨rfl, rfl⟩
            clear hln
            go_wp2_with fail
            go_ret
            exact ⟨rfl, HB.out⟩
      · have HB := Lib.hid hk.below
        generalize insC (1 : Nat) [] t = e0 at *
        have ge : (e0 == 0) = false := by simp [hc]
        clear hk hq
        go_wp2_with fail
        go_ret
        exact ⟨rfl, HB.out⟩
    · have hn := vnew_bad 1 bits base w1 hok
      have HB := Lib.hid hb
      go_wp2_with fail
      refine hn.mono ?_
      rintro e w2 ⟨rfl, rfl⟩
      unfold nilE
      clear hn
      go_wp2_with fail
      go_ret
      exact ⟨rfl, HB.out⟩
end Go.Proofs.YtckkfbepclogcaaDoor
