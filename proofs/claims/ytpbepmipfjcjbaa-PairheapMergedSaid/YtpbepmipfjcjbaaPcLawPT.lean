/- The law: the texts LawPT, laid end to end by a program. -/
import Derived.Test.YtpbepmipfjcjbaaPk19
import Derived.Test.YtpbepmipfjcjbaaPcMerge
namespace Go.Proofs.Ytpbepmipfjcjbaa
open Go.RowKit
theorem doL_fit {P : Int} {m : List Timer} {a : Act} (h : ∀ x ∈ m, x.Fit) (ha : a.t.Fit) : ∀ x ∈ doL P m a, x.Fit := by
  have hput : ∀ l : List Timer, (∀ x ∈ l, x.Fit) → ∀ x ∈ putL l a.t, x.Fit := by
    intro l hl x hx
    rcases List.mem_cons.1 ((putL_perm l a.t).mem_iff.1 hx) with rfl | hx
    · exact ha
    · exact hl x hx
  have hins : ∀ l : List Timer, (∀ x ∈ l, x.Fit) → ∀ x ∈ insL P l a.t, x.Fit := by
    intro l hl
    unfold insL
    split
    · exact hput l hl
    · exact hl
  have hwo : ∀ p, ∀ x ∈ withoutL m p, x.Fit := fun p x hx => h x (List.mem_filter.1 hx).1
  unfold doL
  split
  · exact hins m h
  split
  · unfold canL
    split
    · exact hwo _
    · exact h
  split
  · unfold movL
    split
    · exact hins _ (hwo _)
    · exact h
  split
  · intro x hx
    exact h x (List.mem_filter.1 hx).1
  · exact h
theorem behind_fit (P : Int) : ∀ (l : List Act) (m : List Timer), (∀ x ∈ m, x.Fit) → (∀ a ∈ l, a.t.Fit) → ∀ x ∈ l.foldl (doL P) m, x.Fit := by
  intro l
  induction l with
  | nil => intro m h _; exact h
  | cons a l ih =>
    intro m h ha
    exact ih _ (doL_fit h (ha a (by simp))) fun x hx => ha x (by simp [hx])
theorem LL.pair (w : World) (v1 v2 : Value) (l1 l2 : List Timer) (h1 : LW w v1 l1) (h2 : LW w v2 l2) : LL (w.alloc (.cells #[v1, v2] 28)) (some ⟨w.heap.size, 0, none⟩) [l1, l2] := by
  have hB : Blk (w.alloc (.cells #[v1, v2] 28)) w.heap.size 28 #[v1, v2] := Blk.new _ _ _
  have k := alloc_kept' w (.cells #[v1, v2] 28)
  intro i hi
  match i, hi with
  | 0, _ => exact ⟨_, 0, v1, rfl, hB.lt, hB.cell 0, h1.on k⟩
  | 1, _ => exact ⟨_, 0, v2, rfl, hB.lt, hB.cell 1, h2.on k⟩
/-- Of two queues with the same places: what is melded is what both are, sorted. -/
theorem mld_sort {P : Nat} {m m2 : List Timer} (h : Srt m) (hz : mldE P P m m2 = 0) : mldL P P m m2 = sortL [m, m2].flatten ∧ mldO P P m m2 = [] := by
  refine ⟨?_, by unfold mldO; rw [if_pos hz]⟩
  unfold mldL
  rw [if_pos hz]
  refine Srt.sort_of (Srt.puts m2 h) ?_
  simpa using putsL_perm m2 m
theorem mld_same {P : Nat} {m m2 : List Timer} : mldE P P m m2 = 0 ∨ (mldE P P m m2 = 4 ∧ mldL P P m m2 = m ∧ mldO P P m m2 = m2) := by
  by_cases hz : mldE P P m m2 = 0
  · exact .inl hz
  · refine .inr ⟨?_, by unfold mldL; rw [if_neg hz], by unfold mldO; rw [if_neg hz]⟩
    unfold mldE at hz ⊢
    rw [if_neg (by simp)] at hz ⊢
    split at hz
    · rename_i h; rw [if_pos h]
    · exact absurd rfl hz
attribute [local irreducible] Calls
set_option linter.unusedSimpArgs false in
set_option maxRecDepth 100000 in
set_option maxHeartbeats 8000000 in
theorem pmerged (P now : Int) (A A2 : Option Addr) (l k : List Act) (c c2 : Nat) (w : World) (hA : AcAt w w.heap.size A l) (hA2 : AcAt w w.heap.size A2 k) (hl : l.length ≤ 2 ^ 63 - 1) (hk : k.length ≤ 2 ^ 63 - 1) (hf : ∀ a ∈ l, a.t.Fit) (hf2 : ∀ a ∈ k, a.t.Fit) (hnow : 0 ≤ now ∧ now ≤ 18446744073709551615) :
    Calls Try.prog 7 #[.int .i64 P, .slice A l.length c, .slice A2 k.length c2, .int .u64 now] w fun e w' => e = .returned (.bool true) ∧ Below w.heap.size w w' := by
  have hw := pworks w
  go_enter Try.func7, Try.ntmps7
  go_wp2_with fail
  refine hw.mono ?_
  rintro e w1 ⟨rfl, hb1⟩
  clear hw
  have hA1 := hA.below hb1 (Nat.le_refl _)
  have hA3 := hA2.below hb1 (Nat.le_refl _)
  by_cases h1 : 60 < l.length
  · skip
    have HB := Lib.hid hb1
    clear hA hA2 hA1 hA3 hb1
    go_wp2_with fail
    go_ret
    exact ⟨rfl, HB.out⟩
  by_cases h2 : 60 < k.length
  · skip
    have HB := Lib.hid hb1
    clear hA hA2 hA1 hA3 hb1
    go_wp2_with fail
    go_ret
    exact ⟨rfl, HB.out⟩
  have hA4 : AcAt w1 w1.heap.size A l := fun i hi => by
    obtain ⟨b, o, e, hb, r⟩ := hA1 i hi
    exact ⟨b, o, e, Nat.lt_of_lt_of_le hb hb1.size, r⟩
  have hA5 : AcAt w1 w1.heap.size A2 k := fun i hi => by
    obtain ⟨b, o, e, hb, r⟩ := hA3 i hi
    exact ⟨b, o, e, Nat.lt_of_lt_of_le hb hb1.size, r⟩
  clear hA hA2 hA1 hA3
  by_cases hP : P < 0 ∨ 1024 < P
  · have hbu := pbuilt_bad P A l.length c w1 hP (by omega)
    have hbo := pbuilt_bad P A2 k.length c2 w1 hP (by omega)
    have HB := Lib.hid hb1
    clear hP hA4 hA5 hb1
    unfold nilE at hbu hbo
    go_wp2_with fail
    refine hbu.mono ?_
    rintro e wx ⟨rfl, rfl⟩
    clear hbu
    go_wp2_with fail
    refine hbo.mono ?_
    rintro e wx ⟨rfl, rfl⟩
    clear hbo
    go_wp2_with fail
    go_ret
    exact ⟨rfl, HB.out⟩
  · obtain ⟨Pn, rfl⟩ : ∃ p : Nat, P = p := ⟨P.toNat, by omega⟩
    have hP1 : Pn ≤ 1024 := by omega
    clear hP
    have hbu := pbuilt_ok Pn A l c w1 hP1 hA4 (by omega)
    go_wp2_with fail
    refine hbu.mono ?_
    rintro e w2 ⟨q, rfl, hq, hx2⟩
    have hA6 : AcAt w2 w2.heap.size A2 k := fun i hi => by
      obtain ⟨b, o, e, hb, r⟩ := hA5.below hx2 (Nat.le_refl _) i hi
      exact ⟨b, o, e, Nat.lt_of_lt_of_le hb hx2.size, r⟩
    have hbo := pbuilt_ok Pn A2 k c2 w2 hP1 hA6 (by omega)
    clear hbu
    go_wp2_with fail
    refine hbo.mono ?_
    rintro e w3 ⟨o, rfl, ho, hx3⟩
    have hws := WS.two hq ho hx2 hx3
    have hb3 := (hb1.trans (Below.mono hx2 hb1.size)).trans (Below.mono hx3 (Nat.le_trans hb1.size hx2.size))
    have hlo : w.heap.size ≤ w1.heap.size := hb1.size
    have hsq := PQ.srt hq
    have hso := PQ.srt ho
    have hfm := behind_fit Pn l [] (by simp) hf
    have hfk := behind_fit Pn k [] (by simp) hf2
    have hNW := Lib.hid hnow
    clear hbo hA4 hA5 hA6 hq ho hx2 hx3 hb1 hf hf2 hnow
    change ∀ x ∈ behindL Pn l, x.Fit at hfm
    change ∀ x ∈ behindL Pn k, x.Fit at hfk
    generalize hlo1 : w1.heap.size = lo at *
    clear hlo1
    have hmb : (behindL Pn l).length ≤ 1024 := Nat.le_trans hws.lenq hP1
    have hmo : (behindL Pn k).length ≤ 1024 := Nat.le_trans hws.leno hP1
    generalize behindL Pn l = m at *
    generalize behindL Pn k = m2 at *
    obtain ⟨hi, hhi⟩ : ∃ hi, hi = w3.heap.size := ⟨_, rfl⟩
    rw [← hhi] at hws
    have hal := hws.allq hP1
    go_wp2_with fail
    refine hal.mono ?_
    rintro e w4 ⟨v, rfl, ho4, hx4⟩
    have hws4 := hws.kept hx4
    have hb4 := hb3.trans (Below.mono hx4 (by have := hws.hi_le; have := hws.lo_le; omega))
    have hal2 := hws4.allo hP1
    clear hal hws hb3
    go_wp2_with fail
    refine hal2.mono ?_
    rintro e w5 ⟨v2, rfl, ho5, hx5⟩
    have hws5 := hws4.kept hx5
    have hb5 := hb4.trans (Below.mono hx5 (by have := hws4.hi_le; have := hws4.lo_le; omega))
    have hp := ho4.lat.on hx5
    have hq := ho5.lat
    have hll := LL.pair w5 v v2 m m2 hp.lw hq.lw
    obtain ⟨A4, c4, rfl, _⟩ := id hp
    obtain ⟨A5, c5, rfl, _⟩ := id hq
    have hmg := merge_ok _ _ 2 _ hll (by simp) (by
      intro x hx
      simp only [List.mem_cons, List.not_mem_nil, or_false] at hx
      rcases hx with rfl | rfl <;> omega) (by simp) (by unfold maxLen; omega) (by simp; omega) (by
      intro x hx
      simp only [List.mem_cons, List.not_mem_nil, or_false] at hx
      rcases hx with rfl | rfl
      · exact (srtB_iff _).2 hsq
      · exact (srtB_iff _).2 hso)
    have hk6 := alloc_kept' w5 (.cells #[.slice A4 m.length c4, .slice A5 m2.length c5] 28)
    have hws6 := hws5.kept hk6
    have hb6 := hb5.trans (Below.mono hk6 (by have := hws5.hi_le; have := hws5.lo_le; omega))
    have hBl : (sortL [m, m2].flatten).length = m.length + m2.length := by rw [(sortL_perm _).length_eq]; simp
    have hBs := sortL_srt [m, m2].flatten
    have hBf : ∀ x ∈ sortL [m, m2].flatten, x.Fit := fun x hx => by
      have := (sortL_perm _).mem_iff.1 hx
      simp only [List.flatten_cons, List.flatten_nil, List.append_nil, List.mem_append] at this
      exact this.elim (hfm x) (hfk x)
    have hsx := Lib.hid (fun hz => (mld_sort (P := Pn) (m := m) (m2 := m2) hsq hz))
    generalize sortL [m, m2].flatten = B at *
    have hh6 : hi ≤ (w5.alloc (.cells #[.slice A4 m.length c4, .slice A5 m2.length c5] 28)).heap.size := hws6.hi_le
    clear hal2 hws4 hws5 hb4 hb5 hx4 hx5 ho4 ho5 hp hq hll hsq hso hfm hfk hk6 hhi
    generalize hn4 : m.length = n4 at *
    generalize hn5 : m2.length = n5 at *
    go_upto_region 10 with fail
    go_wp2_with fail
    refine hmg.mono ?_
    rintro e w7 ⟨v9, rfl, ho7, hx7⟩
    have hws7 := hws6.kept hx7
    have hb7 := hb6.trans (Below.mono hx7 (by have := hws6.hi_le; have := hws6.lo_le; omega))
    have ho7' : OwnT w7 hi v9 B := ho7.mono hh6
    have hme := hws7.meld hP1
    clear hmg hws6 hb6 hx7 ho7 hh6
    go_wp2_with fail
    refine hme.mono ?_
    rintro e w8 ⟨rfl, hws8, hc8⟩
    have hb8 : Below w.heap.size w w8 := hb7.trans (Below.mono (Chg.to_below (hc8.mono (S' := fun b => lo ≤ b) fun b _ e => e.1) (by have := hws7.lo_le; have := hws7.hi_le; omega)) hlo)
    have ho8 : OwnT w8 hi v9 B := ownsRow_keep ho7' fun g hg hv => hc8.block g hg fun e => by have := own_base ho7' g hv; omega
    clear hme hws7 hb7 ho7' hc8
    obtain ⟨A9, c9, rfl, _⟩ := id ho8.at
    have HN4 := Lib.hid hn4
    have HN5 := Lib.hid hn5
    rcases mld_same (P := Pn) (m := m) (m2 := m2) with hz | ⟨hz, hL, hO⟩
    · obtain ⟨hL, hO⟩ := hsx.out hz
      rw [hL, hO] at hws8
      rw [hz]
      clear hz hL hO hsx hn4 hn5
      have hct := ocut_ok _ B now w8 ho8.lat (by omega) ((srtB_iff _).2 hBs) hNW.out
      obtain ⟨e1, _⟩ := cut_law hBs hBf now
      rw [e1] at hct
      have hBl2 : B.length ≤ 2048 := by omega
      clear e1 hBs hBf hBl
      generalize hbl : B.length = bl at *
      have HBL := Lib.hid hbl
      clear hbl
      go_wp2_with fail
      refine hct.mono ?_
      rintro e w9 ⟨v10, v11, rfl, ho9, _, hx9⟩
      have hws9 := hws8.kept hx9
      have hb9 := hb8.trans (Below.mono hx9 (by have := hws8.hi_le; have := hws8.lo_le; omega))
      have hB9 : LAt w9 (.slice A9 bl c9) B := by rw [← HBL.out]; rw [← HBL.out] at ho8; exact ho8.lat.on hx9
      have ho9' : OwnT w9 hi v10 (dueL B now true) := ho9.mono hws8.hi_le
      have hal := hws9.allq hP1
      clear hct hws8 hb8 ho8 hx9 ho9
      go_wp2_with fail
      refine hal.mono ?_
      rintro e w10 ⟨v12, rfl, ho10, hx10⟩
      have hws10 := hws9.kept hx10
      have hb10 := hb9.trans (Below.mono hx10 (by have := hws9.hi_le; have := hws9.lo_le; omega))
      have ho10' : OwnT w10 hi v10 (dueL B now true) := own_below ho9' hx10 (Nat.le_refl _)
      have hsm := same_refl v12 _ B w10 ho10.lat (hB9.on hx10) (by rw [HBL.out]; omega)
      clear hal hws9 hb9 hB9 hx10 ho10 ho9'
      go_wp2_with fail
      refine hsm.mono ?_
      rintro e w11 ⟨rfl, hx11⟩
      have hws11 := hws10.kept hx11
      have hb11 := hb10.trans (Below.mono hx11 (by have := hws10.hi_le; have := hws10.lo_le; omega))
      have ho11 : OwnT w11 hi v10 (dueL B now true) := own_below ho10' hx11 (Nat.le_refl _)
      have hdu := hws11.dueq hP1 now
      clear hsm hws10 hb10 hx11 ho10'
      go_wp2_with fail
      refine hdu.mono ?_
      rintro e w12 ⟨v13, rfl, ho12, hws12, hc12⟩
      have ho12' : OwnT w12 hi v10 (dueL B now true) := ownsRow_keep ho11 fun g hg hv => hc12.block g hg fun e => by have := own_base ho11 g hv; omega
      have hb12 : Below w.heap.size w w12 := hb11.trans (Below.mono (Chg.to_below (hc12.mono (S' := fun b => lo ≤ b) fun b _ e => e.1) (by have := hws11.lo_le; have := hws11.hi_le; omega)) hlo)
      have hdl : (dueL B now true).length ≤ 1000000 := Nat.le_trans (List.length_filter_le _ _) (by rw [HBL.out]; omega)
      have hsm := same_refl v13 v10 (dueL B now true) w12 ho12.lat ho12'.lat hdl
      clear hdu hws11 hb11 ho11 hc12 ho12 ho12' hdl
      generalize dueL B now true = D at *
      generalize dueL B now false = D2 at *
      go_wp2_with fail
      refine hsm.mono ?_
      rintro e w13 ⟨rfl, hx13⟩
      have hws13 := hws12.kept hx13
      have hb13 := hb12.trans (Below.mono hx13 (by have := hws12.hi_le; have := hws12.lo_le; omega))
      have hln := hws13.lenoC
      clear hsm hws12 hb12 hx13
      go_wp2_with fail
      refine hln.mono ?_
      rintro e w14 ⟨rfl, rfl⟩
      have hdo := hws13.dueo hP1 18446744073709551615
      clear hln
      go_wp2_with fail
      refine hdo.mono ?_
      rintro e w15 ⟨v15, rfl, ho15, hws15, hc15⟩
      have HB := Lib.hid (hb13.trans (Below.mono (Chg.to_below (hc15.mono (S' := fun b => lo ≤ b) fun b _ e => e.1) (by have := hws13.lo_le; have := hws13.hi_le; omega)) hlo))
      obtain ⟨A15, c15, rfl, _⟩ := id ho15.at
      clear hdo hws13 hb13 ho15 hws15 hc15
      go_wp2_with fail
      go_ret
      exact ⟨by rfl, HB.out⟩
    · rw [hL, hO] at hws8
      rw [hz]
      clear hz hL hO hsx hBs hBf
      have hln := hws8.lenqC
      have hln2 := hws8.lenoC
      rw [hn4] at hln
      rw [hn5] at hln2
      have HB := Lib.hid hb8
      have hsum : IntKind.i64.wrap ((n4 : Int) + n5) = ((n4 : Int) + n5) := IntWalk.i64_in _ (by omega)
      have hbe : (((n4 : Int) + n5) == (B.length : Int)) = true := by rw [hBl]; simp
      generalize B.length = bl at *
      clear hws8 hb8 hn4 hn5 hBl ho8
      go_wp2_with fail
      refine hln.mono ?_
      rintro e w9 ⟨rfl, rfl⟩
      clear hln
      go_wp2_with fail
      refine hln2.mono ?_
      rintro e w10 ⟨rfl, rfl⟩
      clear hln2
      go_wp2_with fail
      go_ret
      exact ⟨rfl, HB.out⟩
end Go.Proofs.Ytpbepmipfjcjbaa
