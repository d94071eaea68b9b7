/- Order: the law OrderTurns, walked. -/
import Derived.Test.YtfdbimkddkohnaaLawSo
namespace Go.Proofs.Ytfdbimkddkohnaa
open Go.RowKit
def BytesAt (w : World) (B : Nat) (A : Option Addr) (l : List Int) : Prop := ∀ i (h : i < l.length), ∃ b o, A = some ⟨b, o, none⟩ ∧ b < B ∧ w.cell? ⟨b, o + i, none⟩ = some (.int .u8 l[i]) ∧ 0 ≤ l[i] ∧ l[i] ≤ 255
theorem BytesAt.below {w w' : World} {B : Nat} {A : Option Addr} {l : List Int} (h : BytesAt w B A l) (hk : Below B w w') : BytesAt w' B A l := by
  intro i hi
  obtain ⟨b, o, rfl, hb, c0, c⟩ := h i hi
  exact ⟨b, o, rfl, hb, (hk.cell (p := ⟨b, o + i, none⟩) hb).trans c0, c⟩
set_option maxRecDepth 100000 in
set_option maxHeartbeats 4000000 in
theorem turns_walk (v : Value) (l : List Timer) (a1 : Option Addr) (u : List Int) (cap1 : Nat) (w : World) (h : LAt w v l) (hu : BytesAt w w.heap.size a1 u) (hu1 : u.length ≤ 9223372036854775807) :
    Calls Try.prog 9 #[v, .slice a1 u.length cap1] w fun e w' => e = .returned (.bool true) ∧ Below w.heap.size w w' := by
  have hlat := h
  obtain ⟨A, c, rfl, _⟩ := h
  have HL := Lib.hid hlat
  have HU := Lib.hid hu
  have hcon := oworks_any w
  clear hlat hu
  go_enter Try.func9, Try.ntmps9
  go_wp2_with fail
  refine hcon.mono ?_
  rintro e w1 ⟨rfl, hb1⟩
  clear hcon
  by_cases hl : l.length ≤ 60
  rotate_left
  · have hli : (60 : Int) < l.length := by omega
    go_wp2_with fail
    go_ret
    exact ⟨rfl, hb1⟩
  have hli : ¬ (60 : Int) < l.length := by omega
  by_cases hl0 : l.length = 0
  · have hli0 : (l.length : Int) = 0 := by omega
    go_wp2_with fail
    go_ret
    exact ⟨rfl, hb1⟩
  have hli0 : ¬ (l.length : Int) = 0 := by omega
  by_cases hu2 : u.length ≤ 200
  rotate_left
  · have hui : (200 : Int) < u.length := by omega
    go_wp2_with fail
    go_ret
    exact ⟨rfl, hb1⟩
  have hui : ¬ (200 : Int) < u.length := by omega
  have hd1 : decide ((60 : Int) < l.length) = false := decide_eq_false hli
  have hd2 : ((l.length : Int) == 0) = false := by simpa using hli0
  have hd3 : decide ((200 : Int) < u.length) = false := decide_eq_false hui
  have hB1 := hb1.size
  have HB1 := Lib.hid hb1
  have hown0 : OwnT (w1.alloc (.cells #[] 25)) w.heap.size (.slice (some ⟨w1.heap.size, 0, none⟩) 0 0) [] := ⟨rfl, .inr ⟨w1.heap.size, 0, #[], rfl, hB1, heap_alloc_new _ _, Nat.le_refl _, by simp [maxLen], rfl, rfl⟩⟩
  have hlt1 := (HL.out.on hb1).on (alloc_kept' w1 (.cells #[] 25))
  have HO0 := Lib.hid hown0
  have HL1 := Lib.hid hlt1
  clear hb1 hown0 hlt1
  go_wp2_with (at_builtin; refine wpList_app_T rfl _ _ rfl w.heap.size _ [] rfl HO0.out _ l rfl HL1.out.lw (by simp; omega) (by simp; omega) ?_)
  intro v3 w3 ho3 hg3
  have hb3 := grown_below HO0.out hg3 (HB1.out.alloc hB1 _) (by simp; omega)
  have ho3' : OwnT w3 w.heap.size v3 l := by simpa using ho3
  have hlat3 := ho3'.lat
  obtain ⟨g, cap, cur, rfl, hBk, hCu, hbg, hcap⟩ := own_cur ho3' rfl (by omega)
  have hcm := hlat3.len.2.2.1
  clear ho3 ho3' hlat3 hg3 HO0 HL1 HB1 hd1 hd2 hd3
  go_wp2_with fail
  go_loopw [7, 8, 9, 10] (fun i _ _ _ wr => ∃ (k : Nat) (m : List Timer) (cur : Array Value), k ≤ u.length ∧ i = .int .i64 k ∧ m.Perm l ∧ Blk wr g 25 cur ∧ CurIs cur m ∧ Below w.heap.size w wr) (fun i _ _ _ _ => u.length - (intOf i).toNat)
  case atStart => exact ⟨0, l, cur, Nat.zero_le _, rfl, List.Perm.refl _, hBk, hCu, hb3⟩
  case round =>
    obtain ⟨k, m, cur, hk, rfl, hperm, hB, hC, hb⟩ := hrel
    clear hBk hCu hb3
    have hml : m.length = l.length := hperm.length_eq
    have HML := Lib.hid hml
    have HPERM := Lib.hid hperm
    clear hml hperm
    by_cases hlt : k < u.length
    · obtain ⟨bb, oo, rfl, hbbb, hcu, hu0, hu9⟩ := (HU.out.below hb) k hlt
      generalize u[k] = z at *
      obtain ⟨cz, rfl⟩ := Int.eq_ofNat_of_zero_le hu0
      have hbw : bb < wr.heap.size := Nat.lt_of_lt_of_le hbbb hb.size
      obtain ⟨q2, hq2⟩ : ∃ q, q = k % l.length := ⟨_, rfl⟩
      have hm1 : cz % l.length < l.length := Nat.mod_lt _ (by omega)
      have hm2 : q2 < l.length := by rw [hq2]; exact Nat.mod_lt _ (by omega)
      have hr2 : (k : Int) % (l.length : Int) = (q2 : Int) := by rw [hq2]; exact (Int.natCast_emod _ _).symm
      have hr4 : (k : Int).tmod (l.length : Int) = (q2 : Int) := by rw [Int.tmod_eq_emod_of_nonneg (by omega)]; exact hr2
      clear hq2
      obtain ⟨j0, j1, j2⟩ := hC (cz % l.length) (by rw [HML.out]; exact hm1)
      obtain ⟨k0, k1, k2⟩ := hC q2 (by rw [HML.out]; exact hm2)
      have hjm : cz % l.length < m.length := by rw [HML.out]; exact hm1
      have hkm : q2 < m.length := by rw [HML.out]; exact hm2
      have hsw := Lib.hid (List.set_set_perm hjm hkm)
      generalize m[cz % l.length]'hjm = X at *
      generalize m[q2]'hkm = Y at *
      have hz := hB.frozen
      have hgs := hB.lt
      rw [← hB.cell] at j0 j1 j2 k0 k1 k2
      go_upto_region 10 with (fail)
      refine still_all (by kernel_rfl) (by kernel_rfl) ?_
      repeat still_step
      refine wpStill_nil ?_
      go_upto_region 13 with (fail)
      have hB5 := put3_blk hB (cz % l.length) Y
      have hC5 := hC.set (cz % l.length) Y
      have hb5 : Below w.heap.size w (((wr.setCell ⟨g, cz % l.length * 3, none⟩ (.int .u64 Y.at_)).setCell ⟨g, cz % l.length * 3 + 1, none⟩ (.int .u64 Y.seq)).setCell ⟨g, cz % l.length * 3 + 2, none⟩ (.int .i64 Y.place)) := ((hb.setCell hbg _).setCell hbg _).setCell hbg _
      have hs5 : (((wr.setCell ⟨g, cz % l.length * 3, none⟩ (.int .u64 Y.at_)).setCell ⟨g, cz % l.length * 3 + 1, none⟩ (.int .u64 Y.seq)).setCell ⟨g, cz % l.length * 3 + 2, none⟩ (.int .i64 Y.place)).heap.size = wr.heap.size := by simp [World.setCell]
      clear j0 j1 j2 k0 k1 k2 hz hcu hb hB hC hr2 hr4
      generalize (((wr.setCell ⟨g, cz % l.length * 3, none⟩ (.int .u64 Y.at_)).setCell ⟨g, cz % l.length * 3 + 1, none⟩ (.int .u64 Y.seq)).setCell ⟨g, cz % l.length * 3 + 2, none⟩ (.int .i64 Y.place)) = w5 at *
      have hK6 := (Blk.new w5 25 #[.int .u64 X.at_, .int .u64 X.seq, .int .i64 X.place]).drew
      have hB6 := (hB5.alloc (.cells #[.int .u64 X.at_, .int .u64 X.seq, .int .i64 X.place] 25)).drew
      have hb6 := (hb5.alloc (by omega) (.cells #[.int .u64 X.at_, .int .u64 X.seq, .int .i64 X.place] 25)).drew
      rw [hs5] at hK6
      clear hs5 hB5 hb5
      generalize ((w5.alloc (.cells #[.int .u64 X.at_, .int .u64 X.seq, .int .i64 X.place] 25)).drew) = w6 at *
      generalize wr.heap.size = nb at *
      obtain ⟨k0, k1, k2⟩ := hC5 q2 (by simp; rw [HML.out]; exact hm2)
      rw [← hB6.cell] at k0 k1 k2
      have hKc := hK6.cell
      have hz := hB6.frozen
      go_wp2_with fail
      go_roundw
      case rel =>
        refine ⟨k + 1, _, _, by omega, by go_num, ?_, put3_blk hB6 q2 X, hC5.set q2 X, ?_⟩
        · exact hsw.out.trans HPERM.out
        · exact ((hb6.setCell hbg _).setCell hbg _).setCell hbg _
      case measure => simp [intOf]; omega
    · have hlm : LAt wr (.slice (some ⟨g, 0, none⟩) l.length cap) m := by
        refine ⟨some ⟨g, 0, none⟩, cap, by rw [HML.out], hC.tms hB, by rw [HML.out]; exact hcap, hcm, by simp, ?_⟩
        intro g' e
        simp only [Option.map_some, Option.some.injEq] at e
        subst e
        exact hB.lt
      have hll := HL.out.on hb
      have HE := Lib.hid (sortL_congr HPERM.out)
      have hcon := osort_any _ m wr hlm (by rw [HML.out]; omega)
      rw [HE.out] at hcon
      have HLL := Lib.hid hll
      have HBB := Lib.hid hb
      have hBB := hb.size
      clear hlm hll hb hB hC HPERM HML HE
      go_wp2_with fail
      refine hcon.mono ?_
      rintro e w2 ⟨v2, rfl, o2, hx⟩
      have HL2 := Lib.hid (HLL.out.on hx)
      have P2 := Lib.hid o2.lat
      have HB2 := Lib.hid (HBB.out.trans (Below.mono hx hBB))
      have hB2 := HB2.out.size
      clear hcon hx o2 HLL HBB
      have hcon := osort_any _ l w2 HL2.out (by omega)
      go_wp2_with fail
      refine hcon.mono ?_
      rintro e w3' ⟨v3, rfl, o3, hx⟩
      have P3 := Lib.hid (P2.out.on hx)
      have Q3 := Lib.hid o3.lat
      have HB3 := Lib.hid (HB2.out.trans (Below.mono hx hB2))
      have hB3 := HB3.out.size
      clear hcon hx o3 HL2 HB2 P2
      have hcon := same_refl v2 v3 _ w3' P3.out Q3.out (by rw [sortL_length]; omega)
      go_wp2_with fail
      refine hcon.mono ?_
      rintro e w4 ⟨rfl, hx⟩
      have hb4 := HB3.out.trans (Below.mono hx hB3)
      clear hcon hx HB3 P3 Q3
      go_wp2_with fail
      go_ret
      exact ⟨rfl, hb4⟩
end Go.Proofs.Ytfdbimkddkohnaa
