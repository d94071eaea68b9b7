/- Order: the law OrderMerges, walked. -/
import Derived.Test.YtfdbimkddkohnaaLawSo
namespace Go.Proofs.Ytfdbimkddkohnaa
open Go.RowKit
theorem flat_bound (L : List (List Timer)) (h : ∀ l ∈ L, l.length ≤ 20) : L.flatten.length ≤ 20 * L.length := by
  induction L with
  | nil => simp
  | cons x L ih =>
    have h1 := h x (by simp)
    have h2 := ih fun l hl => h l (by simp [hl])
    simp only [List.flatten_cons, List.length_append, List.length_cons]
    omega
theorem take_mem {α : Type} {L : List α} {k : Nat} {x : α} (h : x ∈ L.take k) : x ∈ L := List.mem_of_mem_take h
set_option maxRecDepth 100000 in
set_option maxHeartbeats 4000000 in
theorem merges_walk (P : Option Addr) (L : List (List Timer)) (c : Nat) (w : World) (hLL : LL w P L) (hc : L.length ≤ c) (hcm : c ≤ maxLen) :
    Calls Try.prog 11 #[.slice P L.length c] w fun e w' => e = .returned (.bool true) ∧ Below w.heap.size w w' := by
  have hcon := oworks_any w
  have HLL := Lib.hid hLL
  clear hLL
  go_enter Try.func11, Try.ntmps11
  go_wp2_with fail
  refine hcon.mono ?_
  rintro e w1 ⟨rfl, hb1⟩
  clear hcon
  by_cases hl : L.length ≤ 8
  · have hli : ¬ (8 : Int) < L.length := by omega
    go_wp2_with fail
    go_loopw [4, 5, 6] (fun va vs i wr => ∃ (k : Nat), k ≤ L.length ∧ i = .int .i64 k ∧ vs = .bool ((L.take k).all srtB) ∧ OwnT wr w.heap.size va (L.take k).flatten ∧ (∀ l ∈ L.take k, l.length ≤ 20) ∧ Below w.heap.size w wr) (fun _ _ i _ => L.length - (intOf i).toNat)
    case atStart => exact ⟨0, Nat.zero_le _, rfl, rfl, OwnT.nil _ _, by simp, hb1⟩
    case round =>
      obtain ⟨k, hk, rfl, rfl, ho, hle, hb⟩ := hrel
      clear hb1
      by_cases hlt : k < L.length
      · obtain ⟨b, o, vk, rfl, hbw, hck, hlk⟩ := (HLL.out.on hb) k hlt
        have hlk' := hlk
        obtain ⟨A', c', rfl, _⟩ := hlk
        have hfb := flat_bound _ hle
        have HT1 := Lib.hid (show (L.take (k + 1)).flatten = (L.take k).flatten ++ L[k] from by rw [take_snoc L k hlt, List.flatten_append]; simp only [List.flatten_cons, List.flatten_nil, List.append_nil])
        have HT2 := Lib.hid (show (L.take (k + 1)).all srtB = ((L.take k).all srtB && srtB L[k]) from by rw [take_snoc L k hlt, List.all_append]; simp only [List.all_cons, List.all_nil, Bool.and_true])
        have HT3 : Hid (L[k].length ≤ 20 → ∀ l ∈ L.take (k + 1), l.length ≤ 20) := Lib.hid (by
          intro h l hm
          rw [List.take_succ_eq_append_getElem hlt] at hm
          rcases List.mem_append.1 hm with hm | hm
          · exact hle l hm
          · have : l = L[k] := by simpa using hm
            rw [this]
            exact h)
        have HO := Lib.hid ho
        have HB := Lib.hid hb
        have hB := hb.size
        have hlt2 : (L.take k).length ≤ k := by simp; omega
        have HK := Lib.hid hlk'
        have hml : (L.take k).flatten.length ≤ 160 := by omega
        clear hle ho hlk' hb
        generalize (L.take k).all srtB = sq at *
        generalize (L.take k).flatten = m at *
        generalize L[k] = x at *
        by_cases hx20 : x.length ≤ 20
        · have hx20i : ¬ (20 : Int) < x.length := by omega
          have hcon := rsorted_lw _ x wr HK.out (by omega)
          have HL3 := Lib.hid (HT3.out hx20)
          clear HT3
          go_wp2_with fail
          refine hcon.mono ?_
          rintro e w2 ⟨rfl, hx⟩
          have HB2 := Lib.hid (HB.out.trans (Below.mono hx hB))
          have HO2 := Lib.hid (HO.out.below hx (Nat.le_refl _))
          have HK2 := Lib.hid (HK.out.on hx)
          have hck2 := (World.cell?_of_block (a := ⟨b, o + k, none⟩) (hx.block b hbw)).trans hck
          have hB2 := HB2.out.size
          clear hcon hx HB HO HK hck
          generalize srtB x = sx at *
          cases sq
          · skip
            go_wp2_with (at_builtin; refine wpList_app_T rfl _ _ rfl w.heap.size _ m rfl HO2.out _ x rfl HK2.out (by omega) hB2 ?_)
            intro v3 w3 ho3 hg3
            have hb3 := grown_below HO2.out hg3 HB2.out hB2
            rw [← HT1.out] at ho3
            have HO3 := Lib.hid ho3
            clear ho3 hg3
            go_wp2_with fail
            go_roundw
            case rel => exact ⟨k + 1, by omega, by go_num, by rw [HT2.out]; first | rfl | simp, HO3.out, HL3.out, hb3⟩
            case measure => simp [intOf]; omega
          · skip
            go_wp2_with (at_builtin; refine wpList_app_T rfl _ _ rfl w.heap.size _ m rfl HO2.out _ x rfl HK2.out (by omega) hB2 ?_)
            intro v3 w3 ho3 hg3
            have hb3 := grown_below HO2.out hg3 HB2.out hB2
            rw [← HT1.out] at ho3
            have HO3 := Lib.hid ho3
            clear ho3 hg3
            go_wp2_with fail
            go_roundw
            case rel => exact ⟨k + 1, by omega, by go_num, by rw [HT2.out]; first | rfl | simp, HO3.out, HL3.out, hb3⟩
            case measure => simp [intOf]; omega
        · have hx20i : (20 : Int) < x.length := by omega
          have hbb := HB.out
          go_wp2_with fail
          go_ret
          exact ⟨rfl, hbb⟩
      · have hkl : k = L.length := by omega
        subst hkl
        rw [List.take_length] at ho hle
        rw [List.take_length]
        have hfb := flat_bound _ hle
        have hll := HLL.out.on hb
        have hB := hb.size
        have HO := Lib.hid ho
        have HB := Lib.hid hb
        have hle2 : ∀ l ∈ L, l.length ≤ 1000000 := fun l hm => Nat.le_trans (hle l hm) (by omega)
        clear ho hb
        cases hall : L.all srtB with
        | true =>
          have hok : ∀ l ∈ L, srtB l = true := List.all_eq_true.1 hall
          have hcon := merge_ok P L c wr hll (by omega) hle2 hc hcm (by omega) hok
          clear hle hle2 hll hok
          go_wp2_with fail
          refine hcon.mono ?_
          rintro e w2 ⟨v2, rfl, o2, hx⟩
          have HB2 := Lib.hid (HB.out.trans (Below.mono hx hB))
          have HO2 := Lib.hid (HO.out.below hx (Nat.le_refl _))
          have P2 := Lib.hid o2.lat
          have hB2 := HB2.out.size
          clear hcon hx HB HO o2
          have hcon := rsort_lat _ L.flatten w2 HO2.out.lat (by omega)
          go_wp2_with fail
          refine hcon.mono ?_
          rintro e w3 ⟨v3, rfl, o3, hx⟩
          have HB3 := Lib.hid (HB2.out.trans (Below.mono hx hB2))
          have P3 := Lib.hid (P2.out.on hx)
          have Q3 := Lib.hid o3.lat
          have hB3 := HB3.out.size
          clear hcon hx HB2 HO2 o3 P2
          have hcon := same_refl v2 v3 _ w3 P3.out Q3.out (by rw [sortL_length]; omega)
          go_wp2_with fail
          refine hcon.mono ?_
          rintro e w4 ⟨rfl, hx⟩
          have hb4 := HB3.out.trans (Below.mono hx hB3)
          clear hcon hx HB3 P3 Q3
          go_wp2_with fail
          go_ret
          exact ⟨rfl, hb4⟩
        | false =>
          have hbad : ∃ l ∈ L, srtB l = false := by
            have := List.all_eq_false.1 hall
            obtain ⟨l, hm, hs⟩ := this
            exact ⟨l, hm, by simpa using hs⟩
          have hcon := merge_bad P L c wr hll (by omega) hle2 hbad
          clear hle hle2 hll hbad
          go_wp2_with fail
          refine hcon.mono ?_
          rintro e w2 ⟨rfl, hx⟩
          have hb2 := HB.out.trans (Below.mono hx hB)
          clear hcon hx HB HO
          go_wp2_with fail
          go_ret
          exact ⟨rfl, hb2⟩
  · have hli : (8 : Int) < L.length := by omega
    go_wp2_with fail
    go_ret
    exact ⟨rfl, hb1⟩
end Go.Proofs.Ytfdbimkddkohnaa
