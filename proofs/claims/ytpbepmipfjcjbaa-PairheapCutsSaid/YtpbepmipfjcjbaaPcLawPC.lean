/- The law: the texts LawPC, laid end to end by a program. -/
import Derived.Test.YtpbepmipfjcjbaaPk19
namespace Go.Proofs.Ytpbepmipfjcjbaa
open Go.RowKit

/-- The slice A holds the integers l, below B. -/
def IcAt (w : World) (B : Nat) (A : Option Addr) (l : List Int) : Prop := ∀ i (h : i < l.length), ∃ b o, A = some ⟨b, o, none⟩ ∧ b < B ∧ w.cell? ⟨b, o + i, none⟩ = some (.int .i64 l[i])
theorem IcAt.below {w w' : World} {B : Nat} {A : Option Addr} {l : List Int} (h : IcAt w B A l) (k : Below B w w') : IcAt w' B A l := fun i hi => by
  obtain ⟨b, o, e, hb, c⟩ := h i hi
  exact ⟨b, o, e, hb, (k.cell (p := ⟨b, o + i, none⟩) hb).trans c⟩
theorem getL_some {m : List Timer} {p : Int} {x : Timer} (h : getL m p = some x) : x.place = p := by
  have := List.find?_some h
  simpa using this
theorem getL_any (m : List Timer) (p : Int) : (getL m p).isSome = m.any fun x => decide (x.place = p) := by
  unfold getL
  rw [Bool.eq_iff_iff]
  simp [List.find?_isSome, List.any_eq_true]
/-- What Cancel tells of a list whose places are in range. -/
theorem cut_told {P : Int} {m : List Timer} (h : ∀ x ∈ m, 0 ≤ x.place ∧ x.place < P) (p : Int) :
    canL P m p = withoutL m p ∧ ((m.any (fun x => decide (x.place = p)) = true ∧ canC P m p = 0 ∧ (canT P m p).place = p) ∨ (m.any (fun x => decide (x.place = p)) = false ∧ (canC P m p = 1 ∨ canC P m p = 5))) := by
  have hw : m.any (fun x => decide (x.place = p)) = false → withoutL m p = m := fun e => by
    unfold withoutL
    rw [List.filter_eq_self]
    intro x hx
    rw [List.any_eq_false] at e
    have := e x hx
    simpa using this
  by_cases hr : p < 0 ∨ P ≤ p
  · have hc : canC P m p = 1 := by unfold canC; rw [if_pos hr]
    have ha : m.any (fun x => decide (x.place = p)) = false := by
      rw [List.any_eq_false]
      intro x hx e
      have := h x hx
      have e' : x.place = p := by simpa using e
      omega
    refine ⟨?_, .inr ⟨ha, .inl hc⟩⟩
    unfold canL
    rw [hc, if_neg (by decide), hw ha]
  · cases hg : getL m p with
    | none =>
      have ha : m.any (fun x => decide (x.place = p)) = false := by rw [← getL_any, hg]; rfl
      have hc : canC P m p = 5 := by unfold canC; rw [if_neg hr, hg]; rfl
      refine ⟨?_, .inr ⟨ha, .inr hc⟩⟩
      unfold canL
      rw [hc, if_neg (by decide), hw ha]
    | some x =>
      have ha : m.any (fun x => decide (x.place = p)) = true := by rw [← getL_any, hg]; rfl
      have hc : canC P m p = 0 := by unfold canC; rw [if_neg hr, hg]; rfl
      refine ⟨?_, .inl ⟨ha, hc, ?_⟩⟩
      · unfold canL
        rw [hc, if_pos rfl]
      · unfold canT
        rw [hc, if_pos rfl, hg]
        exact getL_some hg
theorem PQ.places {w : World} {q P : Nat} {m : List Timer} {G : Nat → Prop} (h : PQ w q P m G) : ∀ x ∈ m, 0 ≤ x.place ∧ x.place < (P : Int) := by
  obtain ⟨nb, on, nd, tm, f, D, h1, h2, h3, h4, h5⟩ := h.ex
  intro x hx
  obtain ⟨i, hi, ho, e⟩ := h4.mem.1 hx
  have hpl := h4.place i hi ho
  rw [e] at hpl
  omega
attribute [local irreducible] Calls
set_option linter.unusedSimpArgs false in
set_option maxRecDepth 100000 in
set_option maxHeartbeats 8000000 in
theorem pcuts (P : Int) (A A2 : Option Addr) (l : List Act) (ps : List Int) (c c2 : Nat) (w : World) (hA : AcAt w w.heap.size A l) (hI : IcAt w w.heap.size A2 ps) (hl : l.length ≤ 2 ^ 63 - 1) (hp : ps.length ≤ 2 ^ 63 - 1) :
    Calls Try.prog 5 #[.int .i64 P, .slice A l.length c, .slice A2 ps.length c2] w fun e w' => e = .returned (.bool true) ∧ Below w.heap.size w w' := by
  obtain ⟨i0, hi, hz0, hz1, hz2⟩ := info_parts info_timer
  have hw := pworks w
  go_enter Try.func5, Try.ntmps5
  go_wp2_with fail
  refine hw.mono ?_
  rintro e w1 ⟨rfl, hb1⟩
  clear hw
  have hA1 := hA.below hb1 (Nat.le_refl _)
  by_cases h60 : 60 < l.length ∨ 60 < ps.length
  · have HB := Lib.hid hb1
    clear hA hA1 hI hb1
    by_cases h : 60 < l.length
    · go_wp2_with fail
      go_ret
      exact ⟨rfl, HB.out⟩
    · have h2 : 60 < ps.length := h60.resolve_left h
      go_wp2_with fail
      go_ret
      exact ⟨rfl, HB.out⟩
  · have h1 : ¬ 60 < l.length := fun e => h60 (.inl e)
    have h2 : ¬ 60 < ps.length := fun e => h60 (.inr e)
    clear h60
    by_cases hP : P < 0 ∨ 1024 < P
    · have hbu := pbuilt_bad P A l.length c w1 hP (by omega)
      have HB := Lib.hid hb1
      clear hP hA hA1 hI hb1
      go_wp2_with fail
      refine hbu.mono ?_
      rintro e wx ⟨rfl, rfl⟩
      clear hbu
      unfold nilE
      go_wp2_with fail
      go_ret
      exact ⟨rfl, HB.out⟩
    · obtain ⟨Pn, rfl⟩ : ∃ p : Nat, P = p := ⟨P.toNat, by omega⟩
      have hP1 : Pn ≤ 1024 := by omega
      have hbu := pbuilt_ok Pn A l c w1 hP1 (by
        intro i hi
        obtain ⟨b, o, e, hb, r⟩ := hA1 i hi
        exact ⟨b, o, e, Nat.lt_of_lt_of_le hb hb1.size, r⟩) (by omega)
      go_wp2_with fail
      refine hbu.mono ?_
      rintro e w2 ⟨q, rfl, hq2, hb2⟩
      clear hbu hA hA1
      generalize behindL Pn l = m0 at *
      have hq3 := hq2.mono (G' := fun b => w1.heap.size ≤ b ∧ b < w2.heap.size) fun b hb e => ⟨e, hb⟩
      have hal := pq_all hq3 hP1
      have hb2' := hb1.trans (Below.mono hb2 hb1.size)
      have h12 := hb2.size
      have hw1 := hb1.size
      clear hq2 hb2 hb1
      go_wp2_with fail
      refine hal.mono ?_
      rintro e w3 ⟨v, rfl, ho, hx3⟩
      have hq4 := hq3.below hx3
      have hb3 := hb2'.trans (Below.mono hx3 hb2'.size)
      have h23 := hx3.size
      clear hal hq3 hb2' hP hx3
      go_wp2_with fail
      go_loopw [10, 11] (fun v i wr => ∃ (k : Nat) (m : List Timer), k ≤ ps.length ∧ i = .int .i64 k ∧ PQ wr q Pn m (fun b => w1.heap.size ≤ b ∧ b < w2.heap.size) ∧ OwnT wr w2.heap.size v m ∧ Below w.heap.size w wr ∧ w2.heap.size ≤ wr.heap.size) (fun _ i _ => ps.length - (intOf i).toNat)
      case atStart => exact ⟨0, m0, Nat.zero_le _, rfl, hq4, ho, hb3, h23⟩
      case round =>
        clear hq4 ho hb3 h23
        obtain ⟨k, m, hk, rfl, hq, ho, hb, hs2⟩ := hrel
        obtain ⟨A3, c3, rfl, hT3, _⟩ := id ho.at
        have hml := hq.len
        have hws := hb.size
        by_cases hlt : k < ps.length
        · obtain ⟨ab, ao, rfl, hab, hpc⟩ := (hI.below hb) k hlt
          generalize ps[k] = p at *
          have habr : ab < wr.heap.size := by omega
          have HQ := Lib.hid hq
          have HO := Lib.hid ho
          have HI := Lib.hid hI
          clear hq ho hI
          go_wp2_with fail
          generalize wr = w4 at *
          go_loopw [12, 13, 14] (fun v f i wr => ∃ j : Nat, j ≤ m.length ∧ i = .int .i64 j ∧ OwnT wr w4.heap.size v (withoutL (m.take j) p) ∧ f = .bool ((m.take j).any fun x => decide (x.place = p)) ∧ Below w4.heap.size w4 wr) (fun _ _ i _ => m.length - (intOf i).toNat)
          case atStart => exact ⟨0, Nat.zero_le _, rfl, OwnT.nil _ _, rfl, Below.refl _ _⟩
          case round =>
            obtain ⟨j, hj, rfl, hown, rfl, hx⟩ := hrel
            by_cases hjt : j < m.length
            · obtain ⟨b, o, rfl, hbb, c0, c1, c2'⟩ := (hT3.below hx (Nat.le_refl _)) j hjt
              have hbx := hx.size
              have hpx := (hx.cell (p := ⟨ab, ao + k, none⟩) habr).trans hpc
              have hdl : (withoutL (m.take j) p).length ≤ 100000 := Nat.le_trans (List.length_filter_le _ _) (by simp; omega)
              have HS := Lib.hid (show withoutL (m.take (j + 1)) p = withoutL (m.take j) p ++ if m[j].place = p then [] else [m[j]] from by
                rw [take_snoc m j hjt]
                unfold withoutL
                rw [List.filter_append]
                congr 1
                by_cases hp : m[j].place = p <;> simp [hp])
              have HF := Lib.hid (show ((m.take (j + 1)).any fun x => decide (x.place = p)) = (((m.take j).any fun x => decide (x.place = p)) || decide (m[j].place = p)) from by
                rw [take_snoc m j hjt, List.any_append]
                simp)
              generalize withoutL (m.take j) p = d at *
              generalize ((m.take j).any fun x => decide (x.place = p)) = fd at *
              generalize m[j] = x at *
              go_wp2_with fail
              refine still_all (by kernel_rfl) (by kernel_rfl) ?_
              repeat still_step
              refine wpStill_nil ?_
              have hown' : OwnT wr.drew w4.heap.size _ d := own_below hown (Below.refl _ _).drew (Nat.le_refl _)
              have hx' := hx.drew
              have d0 : wr.drew.cell? ⟨b, o + j * 3, none⟩ = some (.int .u64 x.at_) := c0
              have d1 : wr.drew.cell? ⟨b, o + j * 3 + 1, none⟩ = some (.int .u64 x.seq) := c1
              have d2 : wr.drew.cell? ⟨b, o + j * 3 + 2, none⟩ = some (.int .i64 x.place) := c2'
              have hbx' : w4.heap.size ≤ wr.drew.heap.size := hbx
              clear hown hx c0 c1 c2' hbx hpx
              generalize wr.drew = wr at *
              by_cases hxp : x.place = p
              · have hp' : (x.place == p) = true := by simp [hxp]
                rw [if_pos hxp] at HS
                have hd' : decide (x.place = p) = true := by simp [hxp]
                rw [hd'] at HF
                clear hxp hd' d0 d1 d2
                go_wp2_with fail
                go_roundw
                case rel => exact ⟨j + 1, by omega, by go_num, by have := HS.out; rw [List.append_nil] at this; rw [this]; exact hown', by rw [HF.out]; simp, hx'⟩
                case measure => simp [intOf]; omega
              · have hp' : (x.place == p) = false := by simp [hxp]
                rw [if_neg hxp] at HS
                have hd' : decide (x.place = p) = false := by simp [hxp]
                rw [hd'] at HF
                clear hxp hd'
                go_wp2_with (at_builtin; refine wpList_append_own _ rfl _ _ 28 rfl w4.heap.size 35 i0 (.agg #[.int .u64 0, .int .u64 0, .int .i64 0]) 3 24 Try.underlying28 hi hz0 hz1 hz2 rfl (by decide) _ _ _ rfl (hown'.alloc _) ⟨wr.heap.size, 0, none⟩ 1 1 x.cells rfl ?c0 ?c1 ?c2 ?c3 ?c4 ?c5 ?_)
                case c0 => rfl
                case c1 => first | exact cells_new _ _ x.cells | exact fun _ _ h => h
                case c2 => intro v hv; exact one_cell [x] v (by rw [cells_one]; exact hv)
                case c3 => unfold maxLen; omega
                case c4 => omega
                case c5 => first | omega | (simp; omega)
                intro v2 w5 hown2 hgr2 _
                have hb5 := below_app hx' hown' hgr2 hbx' (Nat.le_refl _)
                have hown3 : OwnT w5 w4.heap.size v2 (withoutL (m.take (j + 1)) p) := by
                  unfold OwnT
                  rw [HS.out, List.length_append, List.flatMap_append, cells_one]
                  exact hown2
                clear hgr2 hown' hown2 d0 d1 d2 hx'
                go_wp2_with fail
                go_roundw
                case rel => exact ⟨j + 1, by omega, by go_num, hown3, by rw [HF.out]; simp, hb5⟩
                case measure => simp [intOf]; omega
            · have ht : m.take j = m := List.take_of_length_le (by omega)
              rw [ht] at hown ⊢
              have hpx := (hx.cell (p := ⟨ab, ao + k, none⟩) habr).trans hpc
              have hq5 := HQ.out.below hx
              have hb5 := hb.trans (Below.mono hx hws)
              have hcan := pq_can hq5 hP1 p
              obtain ⟨hcl, hct⟩ := cut_told HQ.out.places p
              rw [hcl] at hcan
              unfold teV Timer.val at hcan
              have hwh := hown.lat.blk
              have hsx := hx.size
              clear ht hx hT3 hcl hq5
              obtain ⟨A5, c5, rfl, _⟩ := id hown.at
              have habx : ab < wr.heap.size := by omega
              have hpp : (p != p) = false := by simp
              generalize canT Pn m p = t at *
              generalize withoutL m p = m' at *
              rcases hct with ⟨ha, hc, hpl⟩ | ⟨ha, hc | hc⟩
              · rw [hc, hpl] at hcan
                rw [ha]
                clear ha hc hpl
                go_wp2_with fail
                refine hcan.mono ?_
                rintro e w6 ⟨rfl, hq6, hk6⟩
                have hown6 : OwnT w6 w4.heap.size (.slice A5 m'.length c5) m' := ownsRow_keep hown fun g hg hv => hk6.block g hg fun e => by have := own_base hown g hv; omega
                have hb6 := hb5.trans (Chg.to_below (hk6.mono (S' := fun b => w.heap.size ≤ b) fun b _ e => Nat.le_trans hw1 e.1) hb5.size)
                have hpx6 := (hk6.cell (p := ⟨ab, ao + k, none⟩) habx (fun e => by have e' : w1.heap.size ≤ ab := e.1; omega)).trans hpx
                have k7 := alloc_kept' w6 (.cells #[.int .u64 t.at_, .int .u64 t.seq, .int .i64 p] 35)
                have b15 := Blk.new w6 35 #[.int .u64 t.at_, .int .u64 t.seq, .int .i64 p]
                have hq7 := hq6.below k7
                have hown7 : OwnT (w6.alloc (.cells #[.int .u64 t.at_, .int .u64 t.seq, .int .i64 p] 35)) w4.heap.size (.slice A5 m'.length c5) m' := own_below hown6 k7 (Nat.le_refl _)
                have hb7 := hb6.trans (Below.mono k7 hb6.size)
                have hpx7 := (k7.cell (p := ⟨ab, ao + k, none⟩) (show ab < w6.heap.size from Nat.lt_of_lt_of_le habx hk6.size)).trans hpx6
                have hs7 := Nat.le_trans hk6.size k7.size
                clear hcan hown hb5 hpx hq6 hown6 hb6 hpx6 hk6 k7
                go_upto_region 22 with fail
                generalize w6.alloc (.cells #[.int .u64 t.at_, .int .u64 t.seq, .int .i64 p] 35) = w7 at *
                generalize w6.heap.size = g15 at *
                have c15 := b15.cell
                have HQ7 := Lib.hid hq7
                have HO7 := Lib.hid hown7
                have HB7 := Lib.hid hb7
                have hwl : w2.heap.size ≤ w4.heap.size ∧ w4.heap.size ≤ w7.heap.size := ⟨hs2, Nat.le_trans hsx hs7⟩
                clear hq7 hown7 hb7
                (refine still_all (by kernel_rfl) (by kernel_rfl) ?_; (repeat still_step); refine wpStill_nil ?_)
                have hq8 := HQ7.out.drew
                have hown8 : OwnT w7.drew w2.heap.size (.slice A5 m'.length c5) m' := (own_below HO7.out (Below.refl _ _).drew (Nat.le_refl _) : OwnT w7.drew w4.heap.size (.slice A5 m'.length c5) m').mono hs2
                have hb8 := HB7.out.drew
                have hs8 : w2.heap.size ≤ w7.drew.heap.size := Nat.le_trans hwl.1 hwl.2
                clear c15 b15 hpx7
                generalize w7.drew = w8 at *
                go_wp2_with fail
                go_roundw
                case rel => exact ⟨k + 1, m', by omega, by go_num, hq8, hown8, hb8, hs8⟩
                case measure => simp [intOf]; omega
              · rw [hc] at hcan
                rw [ha]
                clear ha hc
                go_wp2_with fail
                refine hcan.mono ?_
                rintro e w6 ⟨rfl, hq6, hk6⟩
                have hown6 : OwnT w6 w4.heap.size (.slice A5 m'.length c5) m' := ownsRow_keep hown fun g hg hv => hk6.block g hg fun e => by have := own_base hown g hv; omega
                have hb6 := hb5.trans (Chg.to_below (hk6.mono (S' := fun b => w.heap.size ≤ b) fun b _ e => Nat.le_trans hw1 e.1) hb5.size)
                have hpx6 := (hk6.cell (p := ⟨ab, ao + k, none⟩) habx (fun e => by have e' : w1.heap.size ≤ ab := e.1; omega)).trans hpx
                have k7 := alloc_kept' w6 (.cells #[.int .u64 t.at_, .int .u64 t.seq, .int .i64 t.place] 35)
                have b15 := Blk.new w6 35 #[.int .u64 t.at_, .int .u64 t.seq, .int .i64 t.place]
                have hq7 := hq6.below k7
                have hown7 : OwnT (w6.alloc (.cells #[.int .u64 t.at_, .int .u64 t.seq, .int .i64 t.place] 35)) w4.heap.size (.slice A5 m'.length c5) m' := own_below hown6 k7 (Nat.le_refl _)
                have hb7 := hb6.trans (Below.mono k7 hb6.size)
                have hpx7 := (k7.cell (p := ⟨ab, ao + k, none⟩) (show ab < w6.heap.size from Nat.lt_of_lt_of_le habx hk6.size)).trans hpx6
                have hs7 := Nat.le_trans hk6.size k7.size
                clear hcan hown hb5 hpx hq6 hown6 hb6 hpx6 hk6 k7
                go_upto_region 22 with fail
                generalize w6.alloc (.cells #[.int .u64 t.at_, .int .u64 t.seq, .int .i64 t.place] 35) = w7 at *
                generalize w6.heap.size = g15 at *
                have c15 := b15.cell
                have HQ7 := Lib.hid hq7
                have HO7 := Lib.hid hown7
                have HB7 := Lib.hid hb7
                have hwl : w2.heap.size ≤ w4.heap.size ∧ w4.heap.size ≤ w7.heap.size := ⟨hs2, Nat.le_trans hsx hs7⟩
                clear hq7 hown7 hb7
                (have hmix : Try.prog.follows .mixedOrders = true := (by kernel_rfl); go_big_region_o; clear hmix)
                have hq8 := HQ7.out.drew
                have hown8 : OwnT w7.drew w2.heap.size (.slice A5 m'.length c5) m' := (own_below HO7.out (Below.refl _ _).drew (Nat.le_refl _) : OwnT w7.drew w4.heap.size (.slice A5 m'.length c5) m').mono hs2
                have hb8 := HB7.out.drew
                have hs8 : w2.heap.size ≤ w7.drew.heap.size := Nat.le_trans hwl.1 hwl.2
                clear c15 b15 hpx7
                generalize w7.drew = w8 at *
                go_wp2_with fail
                go_roundw
                case rel => exact ⟨k + 1, m', by omega, by go_num, hq8, hown8, hb8, hs8⟩
                case measure => simp [intOf]; omega
              · rw [hc] at hcan
                rw [ha]
                clear ha hc
                go_wp2_with fail
                refine hcan.mono ?_
                rintro e w6 ⟨rfl, hq6, hk6⟩
                have hown6 : OwnT w6 w4.heap.size (.slice A5 m'.length c5) m' := ownsRow_keep hown fun g hg hv => hk6.block g hg fun e => by have := own_base hown g hv; omega
                have hb6 := hb5.trans (Chg.to_below (hk6.mono (S' := fun b => w.heap.size ≤ b) fun b _ e => Nat.le_trans hw1 e.1) hb5.size)
                have hpx6 := (hk6.cell (p := ⟨ab, ao + k, none⟩) habx (fun e => by have e' : w1.heap.size ≤ ab := e.1; omega)).trans hpx
                have k7 := alloc_kept' w6 (.cells #[.int .u64 t.at_, .int .u64 t.seq, .int .i64 t.place] 35)
                have b15 := Blk.new w6 35 #[.int .u64 t.at_, .int .u64 t.seq, .int .i64 t.place]
                have hq7 := hq6.below k7
                have hown7 : OwnT (w6.alloc (.cells #[.int .u64 t.at_, .int .u64 t.seq, .int .i64 t.place] 35)) w4.heap.size (.slice A5 m'.length c5) m' := own_below hown6 k7 (Nat.le_refl _)
                have hb7 := hb6.trans (Below.mono k7 hb6.size)
                have hpx7 := (k7.cell (p := ⟨ab, ao + k, none⟩) (show ab < w6.heap.size from Nat.lt_of_lt_of_le habx hk6.size)).trans hpx6
                have hs7 := Nat.le_trans hk6.size k7.size
                clear hcan hown hb5 hpx hq6 hown6 hb6 hpx6 hk6 k7
                go_upto_region 22 with fail
                generalize w6.alloc (.cells #[.int .u64 t.at_, .int .u64 t.seq, .int .i64 t.place] 35) = w7 at *
                generalize w6.heap.size = g15 at *
                have c15 := b15.cell
                have HQ7 := Lib.hid hq7
                have HO7 := Lib.hid hown7
                have HB7 := Lib.hid hb7
                have hwl : w2.heap.size ≤ w4.heap.size ∧ w4.heap.size ≤ w7.heap.size := ⟨hs2, Nat.le_trans hsx hs7⟩
                clear hq7 hown7 hb7
                (have hmix : Try.prog.follows .mixedOrders = true := (by kernel_rfl); go_big_region_o; clear hmix)
                have hq8 := HQ7.out.drew
                have hown8 : OwnT w7.drew w2.heap.size (.slice A5 m'.length c5) m' := (own_below HO7.out (Below.refl _ _).drew (Nat.le_refl _) : OwnT w7.drew w4.heap.size (.slice A5 m'.length c5) m').mono hs2
                have hb8 := HB7.out.drew
                have hs8 : w2.heap.size ≤ w7.drew.heap.size := Nat.le_trans hwl.1 hwl.2
                clear c15 b15 hpx7
                generalize w7.drew = w8 at *
                go_wp2_with fail
                go_roundw
                case rel => exact ⟨k + 1, m', by omega, by go_num, hq8, hown8, hb8, hs8⟩
                case measure => simp [intOf]; omega
        · have hal := pq_all hq hP1
          have hI0 := hq
          clear hT3 hI
          go_wp2_with fail
          refine hal.mono ?_
          rintro e w5 ⟨v5, rfl, ho5, hx5⟩
          have ho5' := own_below ho hx5 (Nat.le_refl _)
          have hq5 := hq.below hx5
          have hb5 := hb.trans (Below.mono hx5 hws)
          have hsm := same_refl v5 _ m w5 ho5.lat (OwnT.lat ho5') (by omega)
          clear hal ho ho5 hx5 hq hI0 ho5' hb
          go_wp2_with fail
          refine hsm.mono ?_
          rintro e w6 ⟨rfl, hx6⟩
          have hln := pq_len (hq5.below hx6)
          have HB := Lib.hid (hb5.trans (Below.mono hx6 hb5.size))
          clear hsm hx6 hq5 hb5
          go_wp2_with fail
          refine hln.mono ?_
          rintro e w7 ⟨rfl, rfl⟩
          clear hln
          go_wp2_with fail
          go_ret
          exact ⟨rfl, HB.out⟩
end Go.Proofs.Ytpbepmipfjcjbaa
