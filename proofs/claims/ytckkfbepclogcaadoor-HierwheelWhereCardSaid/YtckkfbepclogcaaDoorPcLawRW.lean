/- The law: the texts LawRW, laid end to end by a program. -/
import Derived.Test.YtckkfbepclogcaaDoorPk24
namespace Go.Proofs.YtckkfbepclogcaaDoor
open Go.RowKit
theorem RQ.get_mem {w : World} {q tb c nb P b B : Nat} {base cas : Int} {m : List Timer} (h : RQ w q tb c nb P b B base cas m) {x : Timer} (hx : x ∈ m) : getL m x.place = some x := by
  obtain ⟨s, rg, hm, hp, rfl⟩ := h.ex
  obtain ⟨i, hi, ho, rfl⟩ := hp.mem.1 hx
  rw [hp.place i hi ho, hp.get]
  rw [atP_on (by omega) (by rw [Int.toNat_natCast]; exact ho), Int.toNat_natCast]
attribute [local irreducible] Calls
set_option linter.unusedSimpArgs false in
set_option maxRecDepth 100000 in
set_option maxHeartbeats 4000000 in
theorem rwhere (P bits base : Int) (A : Option Addr) (l : List Act) (c : Nat) (w : World) (hT : TabAt w) (hA : AcAt w w.heap.size A l) (ha : AcOk l) (hlen : l.length ≤ 2 ^ 63 - 1) (ub : U64 base) :
    Calls Tryd.prog 8 #[.int .i64 P, .int .i64 bits, .int .u64 base, .slice A l.length c] w fun e w' => e = .returned (.bool true) ∧ Below w.heap.size w w' := by
  have hw := vworks w hT
  go_enter Tryd.func8, Tryd.ntmps8
  go_wp2_with fail
  refine hw.mono ?_
  rintro e w1 ⟨rfl, hb⟩
  clear hw
  by_cases hl : 60 < l.length
  · have hl2 : (60 : Int) < l.length := by omega
    have HB := Lib.hid hb
    clear hA hb
    go_wp2_with fail
    go_ret
    exact ⟨rfl, HB.out⟩
  · have hl2 : ¬ (60 : Int) < l.length := by omega
    by_cases hok : NewOk P bits
    · have hn := vnew_ok P bits base w1 hok
      have z := sideN_ok hok
      obtain ⟨Pn, rfl⟩ := Int.eq_ofNat_of_zero_le (show 0 ≤ P by have := hok.1; omega)
      obtain ⟨bn, rfl⟩ := Int.eq_ofNat_of_zero_le (show 0 ≤ bits by have := hok.2.2.1; omega)
      rw [Int.toNat_natCast] at hn z
      rw [Int.toNat_natCast] at hn z
      generalize sideN bn = B at *
      have hB0 := z.pos
      clear hok
      go_wp2_with fail
      refine hn.mono ?_
      rintro e w2 ⟨q, tb, c2, nb, rfl, hq, hx, g1, g2, g3, g4⟩
      have hs1 := hb.size
      have hb2 := hb.trans (Below.mono hx hb.size)
      have hlow : ∀ i, HS q tb nb i → w.heap.size ≤ i := fun i e => by unfold HS at e; omega
      have HF0 : Hid (FewI B base 0 [] 0 0) := Lib.hid ⟨Int.le_refl _, by simp [potS], Nat.le_refl _, by simp⟩
      clear hn hx hb g1 g2 g3 g4
      go_wp2_with fail
      go_loopw [12] (fun i wr => ∃ (k : Nat) (cas : Int) (inn : Nat), k ≤ l.length ∧ i = .int .i64 k ∧ RQ wr q tb c2 nb Pn bn B (baseA base (l.take k)) cas (behindL Pn (l.take k)) ∧ Below w.heap.size w wr ∧ Hid (FewI B (baseA base (l.take k)) cas (behindL Pn (l.take k)) inn k)) (fun i _ => l.length - (intOf i).toNat)
      case atStart => exact ⟨0, 0, 0, Nat.zero_le _, rfl, hq, hb2, HF0⟩
      case round =>
        clear hq hb2 HF0
        obtain ⟨k, cas, inn, hk, rfl, hq, hb, HFI⟩ := hrel
        by_cases hlt : k < l.length
        · have HSx := Lib.hid (show behindL Pn (l.take (k + 1)) = doL Pn (behindL Pn (l.take k)) l[k] from by rw [take_snoc l k hlt, behindL_snoc])
          have HB1 := Lib.hid (show baseA base (l.take (k + 1)) = baseN (baseA base (l.take k)) l[k] from by rw [take_snoc l k hlt, baseA_snoc])
          have u1 := baseA_u64 ub _ (ha.take k)
          have ua := (ha _ (List.getElem_mem hlt)).1
          have un := (ha _ (List.getElem_mem hlt)).2
          have hT1 := hT.below hb (glob_lt hT)
          have hcas : 0 ≤ cas ∧ cas ≤ 1000000000 := by
            have h1 := HFI.out.ge
            have h2 := HFI.out.le
            have h3 := HFI.out.in_
            omega
          have hdo := vdo_any q tb c2 nb Pn bn B _ cas _ l[k] wr hq z hT1 u1 ua un HFI.out.u hcas
          have HFN := Lib.hid (HFI.out.step hB0 Pn l[k] ua)
          obtain ⟨ab, ao, rfl, hbb, c0, c1, c2', c3, c4⟩ := (hA.below hb (Nat.le_refl _)) k hlt
          unfold Act.val at hdo
          generalize l[k] = a at *
          generalize behindL Pn (l.take k) = m at *
          generalize baseA base (l.take k) = b1 at *
          clear hq hT1 hcas u1 ua un
          go_wp2_with fail
          refine hdo.mono ?_
          rintro e w3 ⟨u, rfl, ho, hq, hx⟩
          have hb2 := below_chg hb (Nat.le_refl _) hx (fun i e => hlow i e)
          unfold tV
          clear hdo ho hx hb c0 c1 c2' c3 c4
          go_wp2_with fail
          go_roundw
          case rel => exact ⟨k + 1, _, _, by omega, by go_num, by rw [HSx.out, HB1.out]; exact hq, hb2, by rw [HSx.out, HB1.out]; exact HFN⟩
          case measure => simp [intOf]; omega
        · have ht : l.take k = l := List.take_of_length_le (by omega)
          rw [ht] at hq HFI
          have ub2 := baseA_u64 ub l ha
          generalize behindL Pn l = m at *
          generalize baseA base l = b1 at *
          have hal := vq_all q tb c2 nb Pn bn B b1 cas m wr hq z
          have hmP := hq.len
          have hP := z.hP
          have hum := HFI.out.u
          have hget := fun x hx => hq.get_mem (x := x) hx
          clear HFI hA ht
          go_wp2_with fail
          refine hal.mono ?_
          rintro e w3 ⟨v3, rfl, ho, hx⟩
          obtain ⟨A3, c3, rfl, hTm, _⟩ := ho.at
          replace hq := hq.below hx
          replace hb := hb.trans (Below.mono hx hb.size)
          have hb3 := Below.refl w3.heap.size w3
          clear hal hx ho
          go_wp2_with fail
          go_loopw [14] (fun i wr => ∃ j : Nat, j ≤ m.length ∧ i = .int .i64 j ∧ Below w3.heap.size w3 wr) (fun i _ => m.length - (intOf i).toNat)
          case atStart => exact ⟨0, Nat.zero_le _, rfl, hb3⟩
          case round =>
            clear hb3
            obtain ⟨j, hj, rfl, hb3⟩ := hrel
            by_cases hjl : j < m.length
            · obtain ⟨b3, o3, rfl, hb3l, d0, d1, d2⟩ := (hTm.below hb3 (Nat.le_refl _)) j hjl
              have hwh := vq_where q tb c2 nb Pn bn B b1 cas m m[j].place wr (hq.below hb3) z ub2 hum
              rw [hget _ (List.getElem_mem hjl)] at hwh
              unfold whV at hwh
              have hux := hum _ (List.getElem_mem hjl)
              have hbs := fun w' (hx : Below wr.heap.size wr w') => vq_base q tb c2 nb Pn bn B b1 cas m w' ((hq.below hb3).below hx)
              have hlv := fun w' => dlevel_u z ub2 hux w'
              have hsl := fun w' => dslot_u z ub2 hux w'
              generalize m[j] = y at *
              simp only [] at hwh
              generalize lev (B : Int) b1 y.at_ = L at *
              generalize slotI (B : Int) b1 y.at_ = S at *
              go_wp2_with fail
              refine hwh.mono ?_
              rintro e w5 ⟨rfl, hx5⟩
              have hbs5 := hbs w5.drew hx5.drew
              have hb5 := hb3.trans (Below.mono hx5 hb3.size)
              have e0 : w5.cell? ⟨b3, o3 + j * 3, none⟩ = some (.int .u64 y.at_) := (World.cell?_of_block (hx5.block b3 (by have := hb3.size; omega))).trans d0
              clear hwh hbs d0 d1 d2
              go_wp2_with fail
              refine still_all (by kernel_rfl) (by kernel_rfl) ?_
              iterate 5 still_step
              still_call (flip hbs5)
              iterate 6 still_step
              still_call (flip (hlv _))
              iterate 5 still_step
              still_call (flip hbs5)
              iterate 6 still_step
              still_call (flip (hsl _))
              repeat still_step
              refine wpStill_nil ?_
              replace hb5 := hb5.drew
              clear hbs5 hlv hsl hx5 e0
              go_wp2_with fail
              go_roundw
              case rel => exact ⟨j + 1, by omega, by go_num, hb5⟩
              case measure => simp [intOf]; omega
            · have hln := vq_len q tb c2 nb Pn bn B b1 cas m wr (hq.below hb3)
              have HB := Lib.hid (hb.trans (Below.mono hb3 hb.size))
              have hjm : j = m.length := by omega
              subst hjm
              clear hb3 hq
              go_wp2_with fail
              refine hln.mono ?_
              rintro e wx ⟨rfl, rfl⟩
              clear hln
              go_wp2_with fail
              go_ret
              exact ⟨rfl, HB.out⟩
    · have hn := vnew_bad P bits base w1 hok
      have HB := Lib.hid hb
      go_wp2_with fail
      refine hn.mono ?_
      rintro e w2 ⟨rfl, rfl⟩
      unfold nilE
      clear hn
      go_wp2_with fail
      go_ret
      exact ⟨rfl, HB.out⟩
end Go.Proofs.YtckkfbepclogcaaDoor
