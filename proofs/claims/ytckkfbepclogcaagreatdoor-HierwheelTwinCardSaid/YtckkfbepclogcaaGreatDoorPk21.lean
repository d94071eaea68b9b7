/- Part 21: the texts Rkeep Rput Rins Rcan Rq Rwh, laid end to end by a program. -/
import Derived.Lib.QuietBelow
import Derived.Test.YtckkfbepclogcaaGreatDoorPk17
namespace Go.Proofs.YtckkfbepclogcaaGreatDoor
open Go.RowKit

theorem lastI_cases (l : List Nat) : (l = [] ∧ lastI l = none) ∨ ∃ (r : List Nat) (x : Nat), l = r ++ [x] ∧ lastI l = some (x : Int) := by
  rcases List.eq_nil_or_concat l with rfl | ⟨r, z, rfl⟩
  · exact .inl ⟨rfl, rfl⟩
  · exact .inr ⟨r, z, List.concat_eq_append, by rw [List.concat_eq_append, lastI_snoc]⟩
def mzV (L : List Nat) (v6 v7 : Value) : Nat := match v7 with
  | .bool true => L.idxOf (intOf v6).toNat + 1
  | _ => 0
/-- Where the walk through the list has come to: l1 is ahead, l2 has been passed. -/
structure KW (L : List Nat) (tm : Nat → Timer) (t : Timer) (l1 l2 : List Nat) : Prop where
  e : L = l1 ++ l2
  lt : ∀ b ∈ l2, t.lt (tm b) = true
theorem KW.at (L : List Nat) (hn : L.Nodup) {r l2 : List Nat} {x : Nat} (e : L = (r ++ [x]) ++ l2) : L.idxOf x = r.length := by
  have hk : r.length < L.length := by rw [e]; simp
  have h := idxOf_get hn hk
  have hx : L[r.length] = x := by simp [e]
  rwa [hx] at h
theorem KW.less (L : List Nat) (hn : L.Nodup) {r l2 : List Nat} {x : Nat} (e : L = (r ++ [x]) ++ l2) : mzV L (.int .i64 ((lastI r).getD 0)) (.bool (lastI r).isSome) < mzV L (.int .i64 (x : Int)) (.bool true) := by
  have h1 : mzV L (.int .i64 (x : Int)) (.bool true) = r.length + 1 := by
    show L.idxOf ((x : Int)).toNat + 1 = _
    rw [Int.toNat_natCast, KW.at L hn e]
  rw [h1]
  rcases lastI_cases r with ⟨rfl, hl⟩ | ⟨r', y, rfl, hl⟩
  · rw [hl]
    exact Nat.succ_pos _
  · rw [hl]
    show L.idxOf ((y : Int)).toNat + 1 < _
    rw [Int.toNat_natCast, KW.at L hn (r := r') (x := y) (l2 := x :: l2) (by rw [e]; simp)]
    simp
set_option linter.unusedSimpArgs false in
set_option maxRecDepth 100000 in
set_option maxHeartbeats 1000000 in
theorem rkeep_ok (q tb c nb P b B i K : Nat) (rg : Nat → Bits) (base n cas : Int) (tm : Nat → Timer) (inn : Nat → Option Nat) (L : Nat → List Nat) (t : Timer) (w : World) (hB : Blk w q 81 (rCells tb c P b rg base n cas)) (hT : Blk w tb 37 (tmC P tm)) (hC : CM w c nb P (4 * B + 2) inn L) (z : RSz P b B) (hK : Hid (4 * B + 1 = K))
    (hnd : (L K).Nodup) (hmem : ∀ x ∈ L K, x < P ∧ inn x = some K) (hi : i < P) (ho : inn i = none) (hp : Hid (t.place = i)) :
    Calls Tryz.prog 78 #[.pointer (some ⟨q, 0, none⟩), t.val] w fun e w' => e = .returned (.tuple #[]) ∧ ∃ l1 l2, L K = l1 ++ l2 ∧ (∀ a, l1.getLast? = some a → t.lt (tm a) = false) ∧ (∀ x ∈ l2, t.lt (tm x) = true) ∧ CM w' c nb P (4 * B + 2) (updO inn i (some K)) (updL L K (l1 ++ i :: l2)) ∧ Chg (fun g => g = nb) w w' := by
  have hP := z.hP
  have hB64 := z.le
  have hKN : K < 4 * B + 2 := by have := hK.out; omega
  have hb0 : Below w.heap.size w (w.alloc (.cells #[.int .u64 t.at_, .int .u64 t.seq, .int .i64 t.place] 37)) := (Below.refl _ _).alloc (Nat.le_refl _) _
  have q0 : Blk (w.alloc (.cells #[.int .u64 t.at_, .int .u64 t.seq, .int .i64 t.place] 37)) w.heap.size 37 #[.int .u64 t.at_, .int .u64 t.seq, .int .i64 t.place] := Blk.new _ _ _
  have hlq := hB.lt
  have hlt := hT.lt
  have hlc := hC.lt
  have hB1 := hB.below hb0 hlq
  have hT1 := hT.below hb0 hlt
  have hC1 := hC.below hb0
  have hkp := fun wx (h : Blk wx q 81 (rCells tb c P b rg base n cas)) => rkept_any q tb c P b B rg base n cas wx h z
  rw [hK.out] at hkp
  have hla := fun wx (h : CM wx c nb P (4 * B + 2) inn L) => clast_any c nb P (4 * B + 2) K inn L wx h (by omega) hKN
  unfold Timer.val
  clear hB hT hC
  go_enter Tryz.func78, Tryz.ntmps78
  go_upto_region 2 with fail
  generalize w.alloc (.cells #[.int .u64 t.at_, .int .u64 t.seq, .int .i64 t.place] 37) = w1 at *
  have hla1 := fun w' (hx : Below w1.heap.size w1 w') => hla w' (hC1.below hx)
  have hkp1 := fun w' (hx : Below w1.heap.size w1 w') => hkp w' (hB1.below hx hB1.lt)
  have KW0 : KW (L K) tm t (L K) [] := ⟨by simp, fun _ h => by simp at h⟩
  unfold pairV at hla1
  generalize hx0 : (lastI (L K)).getD 0 = x0 at *
  generalize hy0 : (lastI (L K)).isSome = y0 at *
  have hs0 : Below w1.heap.size w1 w1.drew := (Below.refl _ _).drew
  refine region_facts_set 12 (fun _ => false) (FV [.pointer (some ⟨q, 0, none⟩), .pointer (some ⟨q, 0, none⟩), .pointer (some ⟨q, 1, none⟩), .pointer (some ⟨c, 0, none⟩), .pointer (some ⟨q, 0, none⟩), .int .i64 K, .tuple #[.int .i64 x0, .bool y0], .tuple #[.int .i64 x0, .bool y0], .int .i64 x0, .bool y0, .int .i64 x0, .bool y0]) (fun _ x => Below w1.heap.size w1 x) (fun _ x y => x.heap.size ≤ y.heap.size) [9, 10, 11, 12, 13, 14, 15, 8, 16, 17, 6, 7] (by kernel_rfl) (by kernel_rfl) (by kernel_rfl) (by decide) (by kernel_rfl) (by kernel_rfl) (fun _ _ _ _ _ _ h _ => h) (fun _ _ _ h => h) hs0 ?_ ?_
  · intro fr hfr
    have f0 : fr.getD 0 undef = .pointer (some ⟨q, 0, none⟩) := by rw [hfr]; rfl
    clear hfr
    iterate 12
      refine ⟨⟨by first | trivial | exact ⟨rfl, fun _ _ h => h⟩, ?_⟩, ?_⟩
      · intro ρ w' p hp hdq hρ hd hSt
        simp only [DepF, Region.binds, List.getD_cons_zero, List.getD_cons_succ, FV, forall_const, and_true, true_and] at hd
        have hcon := hρ.con
        have e0 := (hρ.slot 0 (by kernel_rfl)).trans f0
        (have eb := (hB1.below hSt hB1.lt).cell; unfold rCells at eb)
        (try rw [execOp_call_fn _ _ _ _ _ _ _ _ _ (hρ.fn _)])
        go_simp
        (try simp only [GoodQ, FV, List.getD_cons_zero, List.getD_cons_succ])
        first
          | exact ⟨rfl, Nat.le_refl _, fun h => absurd h (by decide), hSt⟩
          | exact ⟨trivial, Nat.le_refl _, fun h => absurd h (by decide), hSt⟩
          | (refine (hkp1 w' hSt).mono ?_; rintro e w'' ⟨rfl, rfl⟩; exact ⟨_, rfl, rfl, Nat.le_refl _, fun h => absurd h (by decide), hSt⟩)
          | (refine (hla1 w' hSt).mono ?_; rintro e w'' ⟨rfl, hx⟩; exact ⟨_, rfl, rfl, hx.size, fun h => absurd h (by decide), hSt.trans (Below.mono hx hSt.size)⟩)
    trivial
  · intro vs w2 hSt hF _
    have h8 : vs 10 = .int .i64 x0 := hF 10 (by decide)
    have h9 : vs 11 = .bool y0 := hF 11 (by decide)
    simp only [setAll, List.setIfInBounds_toArray, List.set_cons_zero, List.set_cons_succ, Nat.reduceAdd]
    rw [h8, h9]
    simp only [List.drop_succ_cons, List.drop_zero, List.drop_nil]
    have hB2 := hB1.below hSt hB1.lt
    have hT2 := hT1.below hSt hT1.lt
    have hC2 := hC1.below hSt
    have q2 := q0.below hSt q0.lt
    have hb2 : Below w.heap.size w w2 := hb0.trans (Below.mono hSt hb0.size)
    clear h8 h9 hF hs0 hSt hB1 hT1 hC1 q0 hb0 hla1 hkp1
    go_wp2_with fail
    go_loopw [4, 5, 6, 7] (fun v4 v5 v6 v7 wr => ∃ l1 l2, KW (L K) tm t l1 l2 ∧ v4 = .int .i64 (l2.headD 0) ∧ v5 = .bool (!l2.isEmpty) ∧ v6 = .int .i64 ((lastI l1).getD 0) ∧ v7 = .bool (lastI l1).isSome ∧ Below w2.heap.size w2 wr) (fun _ _ v6 v7 _ => mzV (L K) v6 v7)
    case atStart => exact ⟨L K, [], KW0, rfl, rfl, by rw [hx0], by rw [hy0], Below.refl _ _⟩
    case round =>
      clear KW0 hx0 hy0
      obtain ⟨l1, l2, hk, rfl, rfl, rfl, rfl, hb⟩ := hrel
      have hB3 := hB2.below hb hB2.lt
      have hT3 := hT2.below hb hT2.lt
      have hC3 := hC2.below hb
      have q3 := q2.below hb q2.lt
      have hb3 : Below w.heap.size w wr := hb2.trans (Below.mono hb hb2.size)
      rcases lastI_cases l1 with ⟨hl1, hl⟩ | ⟨r, x, hl1, hl⟩
      · rw [hl]
        simp only [Option.getD_none, Option.isSome_none]
        go_upto_region 3 with fail
        have hmix : Tryz.prog.follows .mixedOrders = true := by kernel_rfl
        have hB4 := hB3.drew
        have hT4 := hT3.drew
        have hC4 := hC3.drew
        have q4 := q3.drew
        have hb4 := hb3.drew
        have HL1 := Lib.hid hl1
        clear hB3 hT3 hC3 q3 hb3 hb hl hl1 hB2 hT2 hC2 q2 hb2
        go_big_region_o
        clear hmix
        generalize wr.drew = w4 at *
        cases l2 with
        | nil =>
          have hE : L K = l1 := by rw [hk.e]; simp
          have hcap := cappend_ok c nb P (4 * B + 2) K i inn L w4.drew hC4.drew (by omega) hKN hi ho
          have hkp4 := hkp w4.drew hB4.drew
          have hb5 : Chg (fun g => g = nb) w w4.drew := Chg.of_same hb4.drew _
          have cb := hB4.drew.cell
          have cq := q4.drew.cell
          unfold rCells at cb
          have hlw := q4.lt
          clear hB4 hT4 hC4 q4 hkp hla
          simp only [List.headD_nil, List.isEmpty_nil, Bool.not_true]
          go_upto_region 8 with fail
          refine still_tail 8 (by kernel_rfl) (by kernel_rfl) ?_
          simp only [List.take_succ_cons, List.take_zero, List.drop_succ_cons, List.drop_zero]
          iterate 5 still_step
          still_call (flip hkp4)
          repeat still_step
          refine wpStill_nil ?_
          go_wp2_with fail
          rw [hp.out]
          refine hcap.mono ?_
          rintro e w6 ⟨rfl, hC6, hk6⟩
          go_wp2_with fail
          go_end0
          refine ⟨rfl, l1, [], by rw [hE]; simp, (by rw [HL1.out]; exact fun _ h => by simp at h), hk.lt, ?_, hb5.trans hk6 (fun _ _ e => e)⟩
          rw [hE] at hC6
          exact hC6
        | cons x2 l2' =>
          have hx2 := hmem x2 (by rw [hk.e]; simp)
          have hins := cinsert_ok c nb P (4 * B + 2) K i x2 l1 l2' inn L w4.drew hC4.drew (by omega) hi hx2.1 ho hx2.2 hk.e
          have hb5 : Chg (fun g => g = nb) w w4.drew := Chg.of_same hb4.drew _
          have cb := hB4.drew.cell
          have cq := q4.drew.cell
          unfold rCells at cb
          have hlw := q4.lt
          clear hB4 hT4 hC4 q4 hkp hla
          simp only [List.headD_cons, List.isEmpty_cons, Bool.not_false]
          go_upto_region 7 with fail
          refine still_tail 7 (by kernel_rfl) (by kernel_rfl) ?_
          simp only [List.take_succ_cons, List.take_zero, List.drop_succ_cons, List.drop_zero]
          repeat still_step
          refine wpStill_nil ?_
          go_wp2_with fail
          rw [hp.out]
          refine hins.mono ?_
          rintro e w6 ⟨rfl, hC6, hk6⟩
          go_wp2_with fail
          refine bodyPost_ret (v := .tuple #[]) (by simp [results, Tryz.results78, go_sem]) rfl ⟨rfl, l1, x2 :: l2', hk.e, (by rw [HL1.out]; exact fun _ h => by simp at h), hk.lt, hC6, hb5.trans hk6 (fun _ _ e => e)⟩
      · rw [hl]
        simp only [Option.getD_some, Option.isSome_some]
        subst hl1
        have hxm := hmem x (by rw [hk.e]; simp)
        have hless := Lib.hid (KW.less (L K) hnd hk.e)
        have hcm := fun w' => cmp_any t (tm x) w'
        have hcl := cmpT_lt t (tm x)
        have t0 := tmC_at P tm x hxm.1
        have t1 := tmC_seq P tm x hxm.1
        have t2 := tmC_place P tm x hxm.1
        generalize cmpT t (tm x) = cm at *
        have hxP := hxm.1
        go_upto_region 3 with fail
        have hs0 : Below wr.heap.size wr wr.drew := (Below.refl _ _).drew
        refine region_facts_set 13 (fun _ => false) (FV [.bool true, .bool true, t.val, .pointer (some ⟨q, 0, none⟩), .pointer (some ⟨q, 0, none⟩), .pointer (some ⟨q, 0, none⟩), .slice (some ⟨tb, 0, none⟩) P P, .int .i64 x, .pointer (some ⟨tb, x * 3, none⟩), (tm x).val, .int .i64 cm, .bool (decide (cm < 0)), .bool (decide (cm < 0))]) (fun _ x => Below wr.heap.size wr x) (fun _ x y => x.heap.size ≤ y.heap.size) [18, 19, 20, 21, 22, 23, 24, 25, 26, 27, 28, 29, 30] (by kernel_rfl) (by kernel_rfl) (by kernel_rfl) (by decide) (by kernel_rfl) (by kernel_rfl) (fun _ _ _ _ _ _ h _ => h) (fun _ _ _ h => h) hs0 ?_ ?_
        · intro fr hfr
          have f0 : fr.getD 0 undef = .pointer (some ⟨q, 0, none⟩) := by rw [hfr]; rfl
          have f7 : fr.getD 7 undef = .bool true := by rw [hfr]; rfl
          have f6 : fr.getD 6 undef = .int .i64 x := by rw [hfr]; rfl
          have f3 : fr.getD 3 undef = .pointer (some ⟨w.heap.size, 0, none⟩) := by rw [hfr]; rfl
          clear hfr
          iterate 13
            refine ⟨⟨by first | trivial | exact ⟨rfl, fun _ _ h => h⟩, ?_⟩, ?_⟩
            · intro ρ w' p hp hdq hρ hd hSt
              simp only [DepF, Region.binds, List.getD_cons_zero, List.getD_cons_succ, FV, forall_const, and_true, true_and] at hd
              have hcon := hρ.con
              (have e0 := (hρ.slot 0 (by kernel_rfl)).trans f0; have e7 := (hρ.slot 7 (by kernel_rfl)).trans f7; have e6 := (hρ.slot 6 (by kernel_rfl)).trans f6; have e3 := (hρ.slot 3 (by kernel_rfl)).trans f3)
              (have eb := (hB3.below hSt hB3.lt).cell; unfold rCells at eb; have eq := (q3.below hSt q3.lt).cell; have u0 := ((hT3.below hSt hT3.lt).cell _).trans t0; have u1 := ((hT3.below hSt hT3.lt).cell _).trans t1; have u2 := ((hT3.below hSt hT3.lt).cell _).trans t2; have hcc := hcm w'; unfold Timer.val at hcc; (try unfold Timer.val at hd))
              (try rw [execOp_call_fn _ _ _ _ _ _ _ _ _ (hρ.fn _)])
              go_simp
              (try simp only [GoodQ, FV, List.getD_cons_zero, List.getD_cons_succ])
              first
                | exact ⟨rfl, Nat.le_refl _, fun h => absurd h (by decide), hSt⟩
                | exact ⟨trivial, Nat.le_refl _, fun h => absurd h (by decide), hSt⟩
                | (refine hcc.mono ?_; rintro e w'' ⟨rfl, hx⟩; exact ⟨_, rfl, rfl, hx.size, fun h => absurd h (by decide), hSt.trans (Below.mono hx hSt.size)⟩)
          trivial
        · intro vs w4 hSt hF _
          have h12 : vs 12 = .bool (decide (cm < 0)) := hF 12 (by decide)
          simp only [setAll, List.setIfInBounds_toArray, List.set_cons_zero, List.set_cons_succ, Nat.reduceAdd]
          rw [h12]
          simp only [List.drop_succ_cons, List.drop_zero, List.drop_nil]
          have hB4 := hB3.below hSt hB3.lt
          have hT4 := hT3.below hSt hT3.lt
          have hC4 := hC3.below hSt
          have q4 := q3.below hSt q3.lt
          have hb4 : Below w.heap.size w w4 := hb3.trans (Below.mono hSt hb3.size)
          have hb5 : Below w2.heap.size w2 w4 := hb.trans (Below.mono hSt hb.size)
          clear hF hs0 hSt hB3 hT3 hC3 q3 hb3 hcm t0 t1 t2 h12
          by_cases hlt2 : t.lt (tm x) = true
          · rw [hlt2] at hcl
            rw [hcl]
            have hpv := cprev_any c nb P (4 * B + 2) x K r l2 inn L w4 hC4 (by omega) hxP hxm.2 (by rw [hk.e]; simp)
            have hk' : KW (L K) tm t r (x :: l2) := ⟨by rw [hk.e]; simp, fun b hb => by
              rcases List.mem_cons.1 hb with rfl | hb
              · exact hlt2
              · exact hk.lt b hb⟩
            have cb := hB4.cell
            unfold rCells at cb
            unfold pairV at hpv
            clear hB2 hT2 hC2 q2 hb2 hb hk hlt2 hcl hB4 hT4 hC4 q4 hb4 hkp hla hl
            generalize hx1 : (lastI r).getD 0 = x1 at *
            generalize hy1 : (lastI r).isSome = y1 at *
            go_wp2_with fail
            refine hpv.mono ?_
            rintro e w5 ⟨rfl, rfl⟩
            go_wp2_with fail
            go_roundw
            case rel => exact ⟨r, x :: l2, hk', rfl, rfl, by rw [hx1], by rw [hy1], hb5⟩
            case measure => exact hless.out
          · have hf : t.lt (tm x) = false := by simpa using hlt2
            rw [hf] at hcl
            rw [hcl]
            have HF := Lib.hid hf
            have HE := Lib.hid hk.e
            clear hB2 hT2 hC2 q2 hb2 hb hlt2 hf hcl hl hless hb5
            generalize hl1 : r ++ [x] = l1 at *
            have HL1 := Lib.hid hl1
            clear hl1
            cases l2 with
            | nil =>
              have hE : L K = l1 := by rw [hk.e]; simp
              have hcap := cappend_ok c nb P (4 * B + 2) K i inn L w4.drew hC4.drew (by omega) hKN hi ho
              have hkp4 := hkp w4.drew hB4.drew
              have hb5 : Chg (fun g => g = nb) w w4.drew := Chg.of_same hb4.drew _
              have cb := hB4.drew.cell
              have cq := q4.drew.cell
              unfold rCells at cb
              have hlw := q4.lt
              clear hB4 hT4 hC4 q4 hkp hla
              simp only [List.headD_nil, List.isEmpty_nil, Bool.not_true]
              go_upto_region 8 with fail
              refine still_tail 8 (by kernel_rfl) (by kernel_rfl) ?_
              simp only [List.take_succ_cons, List.take_zero, List.drop_succ_cons, List.drop_zero]
              iterate 5 still_step
              still_call (flip hkp4)
              repeat still_step
              refine wpStill_nil ?_
              go_wp2_with fail
              rw [hp.out]
              refine hcap.mono ?_
              rintro e w6 ⟨rfl, hC6, hk6⟩
              go_wp2_with fail
              go_end0
              refine ⟨rfl, l1, [], by rw [hE]; simp, (fun a ha => by rw [← HL1.out, List.getLast?_concat] at ha; injection ha with ha; rw [← ha]; exact HF.out), hk.lt, ?_, hb5.trans hk6 (fun _ _ e => e)⟩
              rw [hE] at hC6
              exact hC6
            | cons x2 l2' =>
              have hx2 := hmem x2 (by rw [hk.e]; simp)
              have hins := cinsert_ok c nb P (4 * B + 2) K i x2 l1 l2' inn L w4.drew hC4.drew (by omega) hi hx2.1 ho hx2.2 hk.e
              have hb5 : Chg (fun g => g = nb) w w4.drew := Chg.of_same hb4.drew _
              have cb := hB4.drew.cell
              have cq := q4.drew.cell
              unfold rCells at cb
              have hlw := q4.lt
              clear hB4 hT4 hC4 q4 hkp hla
              simp only [List.headD_cons, List.isEmpty_cons, Bool.not_false]
              go_upto_region 7 with fail
              refine still_tail 7 (by kernel_rfl) (by kernel_rfl) ?_
              simp only [List.take_succ_cons, List.take_zero, List.drop_succ_cons, List.drop_zero]
              repeat still_step
              refine wpStill_nil ?_
              go_wp2_with fail
              rw [hp.out]
              refine hins.mono ?_
              rintro e w6 ⟨rfl, hC6, hk6⟩
              go_wp2_with fail
              refine bodyPost_ret (v := .tuple #[]) (by simp [results, Tryz.results78, go_sem]) rfl ⟨rfl, l1, x2 :: l2', hk.e, (fun a ha => by rw [← HL1.out, List.getLast?_concat] at ha; injection ha with ha; rw [← ha]; exact HF.out), hk.lt, hC6, hb5.trans hk6 (fun _ _ e => e)⟩
end Go.Proofs.YtckkfbepclogcaaGreatDoor
namespace Go.Proofs.YtckkfbepclogcaaGreatDoor
open Go.RowKit

theorem HrOk.ins {P B : Nat} {s : HSt} (h : HrOk P B s) {i j : Nat} {t : Timer} {l' : List Nat} (hB : 0 < B) (hi : i < P) (ho : s.inn i = none) (ht : 0 ≤ t.at_) (hj : hslot B s.base t = j) (hl : l'.Perm (i :: s.L j)) (hk : j = 4 * B + 1 → l'.Pairwise fun a b => (updT s.tm i t b).lt (updT s.tm i t a) = false) : HrOk P B (s.ins i j l' t) := by
  have hjN : j < 4 * B + 2 := by rw [← hj]; exact hslot_lt hB _ _
  refine ⟨h.ok.ins hi ho ht hj hjN hl, ?_⟩
  show (updL s.L j l' (4 * B + 1)).Pairwise fun a b => (updT s.tm i t b).lt (updT s.tm i t a) = false
  by_cases e : 4 * B + 1 = j
  · subst e
    rw [updL_at]
    exact hk rfl
  · rw [updL_ne _ _ e]
    refine h.kept.imp_of_mem fun {a b} ha hb hlt => ?_
    have hne : ∀ x ∈ s.L (4 * B + 1), x ≠ i := fun x hx exi => by
      subst exi
      rw [(h.ok.mem _ (by omega) x hx).2] at ho
      cases ho
    rw [updT_ne _ _ (hne a ha), updT_ne _ _ (hne b hb)]
    exact hlt
theorem tm_put {w : World} {tb P i : Nat} {tm : Nat → Timer} (h : Blk w tb 37 (tmC P tm)) (hi : i < P) (t : Timer) (hp : t.place = i) :
    ∃ wa, wa = ((w.setCell ⟨tb, i * 3, none⟩ (.int .u64 t.at_)).setCell ⟨tb, i * 3 + 1, none⟩ (.int .u64 t.seq)).setCell ⟨tb, i * 3 + 2, none⟩ (.int .i64 i) ∧ Blk wa tb 37 (tmC P (updT tm i t)) ∧ Chg (fun g => g = tb) w wa := by
  refine ⟨_, rfl, ?_, (((Chg.refl (fun g => g = tb) w).setCell (fun _ => rfl) _).setCell (fun _ => rfl) _).setCell (fun _ => rfl) _⟩
  have hset := tmC_set P tm i t hi
  rw [hp] at hset
  rw [← hset]
  exact ((h.put _ _).put _ _).put _ _
/-- Behind put. -/
def PutOk (w w' : World) (q tb c nb P b B : Nat) (s : HSt) (_rg : Nat → Bits) (n cas : Int) (t : Timer) (i j : Nat) : Prop :=
  (∃ l' rg', RM w' q tb c nb P b B (s.ins i j l' t) rg' n cas ∧ l'.Perm (i :: s.L j) ∧ (j ≠ 4 * B + 1 → l' = s.L j ++ [i])) ∧ Chg (fun g => g = q ∨ g = tb ∨ g = nb) w w'
set_option maxRecDepth 100000 in
set_option maxHeartbeats 2000000 in
theorem rput_ready (q tb c nb P b B i j : Nat) (s : HSt) (rg : Nat → Bits) (n cas : Int) (t : Timer) (w : World) (h : RM w q tb c nb P b B s rg n cas) (z : RSz P b B) (hb : U64 s.base) (ht : U64 t.at_) (hi : i < P) (ho : s.inn i = none) (hp : Hid (t.place = i)) (hj : Hid (hslot B s.base t = j)) (hL : Hid (lev (B : Int) s.base t.at_ = -1)) :
    Calls Tryz.prog 53 #[.pointer (some ⟨q, 0, none⟩), t.val] w fun e w' => e = .returned (.tuple #[]) ∧ PutOk w w' q tb c nb P b B s rg n cas t i j := by
  have hP := z.hP
  have hB64 := z.le
  have hcq := h.qc
  have htc := h.tc
  have hqn := h.qnb
  have htn := h.tnb
  have hqt := h.qtb
  obtain ⟨hqw, htw, hcw, hnw⟩ := h.lts
  have hok := h.ok
  have hbusy := h.busy
  have hb0 : Below w.heap.size w (w.alloc (.cells #[.int .u64 t.at_, .int .u64 t.seq, .int .i64 i] 37)) := (Below.refl _ _).alloc (Nat.le_refl _) _
  have q0 : Blk (w.alloc (.cells #[.int .u64 t.at_, .int .u64 t.seq, .int .i64 i] 37)) w.heap.size 37 #[.int .u64 t.at_, .int .u64 t.seq, .int .i64 i] := Blk.new _ _ _
  have hB1 := h.blk.below hb0 hqw
  have hT1 := h.tms.below hb0 htw
  have hC1 := h.ch.below hb0
  have hli := fun wx (g : Blk wx q 81 (rCells tb c P b rg s.base n cas)) => rlies_any q tb c P b B rg s.base n cas t wx g z hb ht
  clear h
  unfold Timer.val at hli
  rw [hp.out] at hli
  unfold Timer.val
  rw [hp.out]
  go_enter Tryz.func53, Tryz.ntmps53
  go_upto_region 1 with fail
  generalize w.alloc (.cells #[.int .u64 t.at_, .int .u64 t.seq, .int .i64 i] 37) = w1 at *
  have hc := hB1.drew.cell
  unfold rCells at hc
  have hq0 := q0.drew.cell
  refine still_tail 8 (by kernel_rfl) (by kernel_rfl) ?_
  simp only [List.take_succ_cons, List.take_zero, List.drop_succ_cons, List.drop_zero]
  repeat still_step
  refine wpStill_nil ?_
  have t0 := (hT1.drew.cell _).trans (tmC_at P s.tm i hi)
  have t1 := (hT1.drew.cell _).trans (tmC_seq P s.tm i hi)
  have t2 := (hT1.drew.cell _).trans (tmC_place P s.tm i hi)
  have hzt := hT1.drew.frozen
  have hlt3 := hT1.drew.lt
  obtain ⟨wa, hwa, hTa, hka⟩ := tm_put hT1.drew hi t hp.out
  have hBa := hB1.drew.chg hka hqt
  have hCa := hC1.drew.chg hka (fun e => htc e.symm) (fun e => htn e.symm)
  have qa := q0.drew.chg hka (by omega)
  have hk1 : Chg (fun g => g = q ∨ g = tb ∨ g = nb) w wa := (Chg.of_same hb0.drew (fun g => g = q ∨ g = tb ∨ g = nb)).trans hka (fun _ _ e => .inr (.inl e))
  have hlia := hli wa hBa
  have hca := hBa.cell
  unfold rCells at hca
  have hqa := qa.cell
  clear hB1 hT1 hC1 q0 hb0 hka hli
  generalize w1.drew = w1' at *
  go_wp2_with fail
  rw [← hwa]
  refine hlia.mono ?_
  rintro e w3 ⟨rfl, hx⟩
  have hB3 := hBa.below hx hBa.lt
  have hT3 := hTa.below hx hTa.lt
  have hC3 := hCa.below hx
  have q3 := qa.below hx qa.lt
  have hk3 : Chg (fun g => g = q ∨ g = tb ∨ g = nb) w w3 := hk1.trans (Chg.of_same hx (fun g => g = q ∨ g = tb ∨ g = nb)) (fun _ _ e => e)
  clear hc hq0 t0 t1 t2 hzt hlt3 hwa hTa hBa hCa qa hk1 hlia hca hqa hx
  clear wa w1' w1
  unfold lsV
  rw [hL.out]
  generalize slotI (B : Int) s.base t.at_ = S at *
  have hj4 : j = 4 * B := by rw [← hj.out]; exact hslot_ready (lev_neg.1 hL.out)
  have hcap := cappend_ok c nb P (4 * B + 2) (4 * B) i s.inn s.L w3.drew hC3.drew (by omega) (by omega) hi ho
  have hre := rready_any q tb c P b B rg s.base n cas w3.drew hB3.drew z
  have cb := hB3.drew.cell
  unfold rCells at cb
  have cq := q3.drew.cell
  have fin : ∀ w6, CM w6 c nb P (4 * B + 2) (updO s.inn i (some (4 * B))) (updL s.L (4 * B) (s.L (4 * B) ++ [i])) → Chg (fun g => g = nb) w3.drew w6 → PutOk w w6 q tb c nb P b B s rg n cas t i j := by
    intro w6 hC6 hk6
    have hpm : (s.L (4 * B) ++ [i]).Perm (i :: s.L (4 * B)) := List.perm_append_singleton _ _
    subst hj4
    refine ⟨⟨_, rg, ⟨hB3.drew.chg hk6 hqn, hT3.drew.chg hk6 htn, hC6, ?_, hok.ins z.pos hi ho ht.1 hj.out hpm (fun e => by omega)⟩, hpm, fun _ => rfl⟩, hk3.drew.trans hk6 (fun _ _ e => .inr (.inr e))⟩
    exact ring_ins_high hbusy z.pos (Nat.le_refl _) (by simp)
  clear hB3 hT3 hC3 q3 hk3 hj4
  generalize 4 * B = r at *
  go_upto_region 6 with fail
  refine still_tail 8 (by kernel_rfl) (by kernel_rfl) ?_
  simp only [List.take_succ_cons, List.take_zero, List.drop_succ_cons, List.drop_zero]
  iterate 5 still_step
  still_call (flip hre)
  repeat still_step
  refine wpStill_nil ?_
  go_wp2_with fail
  refine hcap.mono ?_
  rintro e w6 ⟨rfl, hC6, hk6⟩
  have hfin := fin w6 hC6 hk6
  clear fin hcap hC6 hk6
  go_wp2_with fail
  go_end0
  exact ⟨rfl, hfin⟩
set_option maxRecDepth 100000 in
set_option maxHeartbeats 2000000 in
theorem rput_kept (q tb c nb P b B i j : Nat) (s : HSt) (rg : Nat → Bits) (n cas : Int) (t : Timer) (w : World) (h : RM w q tb c nb P b B s rg n cas) (z : RSz P b B) (hb : U64 s.base) (ht : U64 t.at_) (hi : i < P) (ho : s.inn i = none) (hp : Hid (t.place = i)) (hj : Hid (hslot B s.base t = j)) (hL : Hid (lev (B : Int) s.base t.at_ = 4)) :
    Calls Tryz.prog 53 #[.pointer (some ⟨q, 0, none⟩), t.val] w fun e w' => e = .returned (.tuple #[]) ∧ PutOk w w' q tb c nb P b B s rg n cas t i j := by
  have hP := z.hP
  have hB64 := z.le
  have hcq := h.qc
  have htc := h.tc
  have hqn := h.qnb
  have htn := h.tnb
  have hqt := h.qtb
  obtain ⟨hqw, htw, hcw, hnw⟩ := h.lts
  have hok := h.ok
  have hbusy := h.busy
  have hb0 : Below w.heap.size w (w.alloc (.cells #[.int .u64 t.at_, .int .u64 t.seq, .int .i64 i] 37)) := (Below.refl _ _).alloc (Nat.le_refl _) _
  have q0 : Blk (w.alloc (.cells #[.int .u64 t.at_, .int .u64 t.seq, .int .i64 i] 37)) w.heap.size 37 #[.int .u64 t.at_, .int .u64 t.seq, .int .i64 i] := Blk.new _ _ _
  have hB1 := h.blk.below hb0 hqw
  have hT1 := h.tms.below hb0 htw
  have hC1 := h.ch.below hb0
  have hli := fun wx (g : Blk wx q 81 (rCells tb c P b rg s.base n cas)) => rlies_any q tb c P b B rg s.base n cas t wx g z hb ht
  clear h
  unfold Timer.val at hli
  rw [hp.out] at hli
  unfold Timer.val
  rw [hp.out]
  go_enter Tryz.func53, Tryz.ntmps53
  go_upto_region 1 with fail
  generalize w.alloc (.cells #[.int .u64 t.at_, .int .u64 t.seq, .int .i64 i] 37) = w1 at *
  have hc := hB1.drew.cell
  unfold rCells at hc
  have hq0 := q0.drew.cell
  refine still_tail 8 (by kernel_rfl) (by kernel_rfl) ?_
  simp only [List.take_succ_cons, List.take_zero, List.drop_succ_cons, List.drop_zero]
  repeat still_step
  refine wpStill_nil ?_
  have t0 := (hT1.drew.cell _).trans (tmC_at P s.tm i hi)
  have t1 := (hT1.drew.cell _).trans (tmC_seq P s.tm i hi)
  have t2 := (hT1.drew.cell _).trans (tmC_place P s.tm i hi)
  have hzt := hT1.drew.frozen
  have hlt3 := hT1.drew.lt
  obtain ⟨wa, hwa, hTa, hka⟩ := tm_put hT1.drew hi t hp.out
  have hBa := hB1.drew.chg hka hqt
  have hCa := hC1.drew.chg hka (fun e => htc e.symm) (fun e => htn e.symm)
  have qa := q0.drew.chg hka (by omega)
  have hk1 : Chg (fun g => g = q ∨ g = tb ∨ g = nb) w wa := (Chg.of_same hb0.drew (fun g => g = q ∨ g = tb ∨ g = nb)).trans hka (fun _ _ e => .inr (.inl e))
  have hlia := hli wa hBa
  have hca := hBa.cell
  unfold rCells at hca
  have hqa := qa.cell
  clear hB1 hT1 hC1 q0 hb0 hka hli
  generalize w1.drew = w1' at *
  go_wp2_with fail
  rw [← hwa]
  refine hlia.mono ?_
  rintro e w3 ⟨rfl, hx⟩
  have hB3 := hBa.below hx hBa.lt
  have hT3 := hTa.below hx hTa.lt
  have hC3 := hCa.below hx
  have q3 := qa.below hx qa.lt
  have hk3 : Chg (fun g => g = q ∨ g = tb ∨ g = nb) w w3 := hk1.trans (Chg.of_same hx (fun g => g = q ∨ g = tb ∨ g = nb)) (fun _ _ e => e)
  clear hc hq0 t0 t1 t2 hzt hlt3 hwa hTa hBa hCa qa hk1 hlia hca hqa hx
  clear wa w1' w1
  unfold lsV
  rw [hL.out]
  generalize slotI (B : Int) s.base t.at_ = S at *
  have hj4 : 4 * B + 1 = j := by rw [← hj.out]; exact (hslot_kept hL.out).symm
  have hmem : ∀ x ∈ s.L j, x < P ∧ s.inn x = some j := fun x hx => hok.ok.mem j (by omega) x hx
  have hke := rkeep_ok q tb c nb P b B i j rg s.base n cas (updT s.tm i t) s.inn s.L t w3 hB3 hT3 hC3 z (Lib.hid hj4) (hok.ok.nodup j (by omega)) hmem hi ho hp
  unfold Timer.val at hke
  rw [hp.out] at hke
  have cq := q3.cell
  have fin : ∀ w6 l1 l2, s.L j = l1 ++ l2 → (∀ a, l1.getLast? = some a → t.lt (updT s.tm i t a) = false) → (∀ x ∈ l2, t.lt (updT s.tm i t x) = true) → CM w6 c nb P (4 * B + 2) (updO s.inn i (some j)) (updL s.L j (l1 ++ i :: l2)) → Chg (fun g => g = nb) w3 w6 → PutOk w w6 q tb c nb P b B s rg n cas t i j := by
    intro w6 l1 l2 hE h1 h2 hC6 hk6
    have hne : ∀ x ∈ s.L j, x ≠ i := fun x hx e => by
      have := (hmem x hx).2
      rw [e, ho] at this
      cases this
    have hpm : (l1 ++ i :: l2).Perm (i :: s.L j) := by rw [hE]; exact List.perm_middle
    have hpw : (l1 ++ i :: l2).Pairwise fun a b => (updT s.tm i t b).lt (updT s.tm i t a) = false := by
      refine kept_ins (tm := s.tm) ?_ ?_ ?_ ?_
      · have := hok.kept
        rw [hj4, hE] at this
        exact this
      · rw [← hE]
        exact fun hx => hne i hx rfl
      · intro a ha
        have hm : a ∈ s.L j := by rw [hE]; exact List.mem_append_left _ (List.mem_of_getLast? ha)
        have := h1 a ha
        rwa [updT_ne _ _ (hne a hm)] at this
      · intro x hx
        have hm : x ∈ s.L j := by rw [hE]; exact List.mem_append_right _ hx
        have := h2 x hx
        rwa [updT_ne _ _ (hne x hm)] at this
    refine ⟨⟨_, rg, ⟨hB3.chg hk6 hqn, hT3.chg hk6 htn, hC6, ?_, hok.ins z.pos hi ho ht.1 hj.out hpm (fun _ => hpw)⟩, hpm, fun e => absurd hj4.symm e⟩, hk3.trans hk6 (fun _ _ e => .inr (.inr e))⟩
    exact ring_ins_high hbusy z.pos (by omega) (by simp)
  clear hB3 hT3 hC3 q3 hk3 hj4 hmem
  go_wp2_with fail
  refine hke.mono ?_
  rintro e w6 ⟨rfl, l1, l2, g1, g2, g3, g4, g5⟩
  have hfin := fin w6 l1 l2 g1 g2 g3 g4 g5
  clear fin hke g1 g2 g3 g4 g5
  go_wp2_with fail
  go_end0
  exact ⟨rfl, hfin⟩
set_option linter.unusedSimpArgs false in
set_option maxRecDepth 100000 in
set_option maxHeartbeats 2000000 in
theorem rput_slot0 (q tb c nb P b B i j k : Nat) (s : HSt) (rg : Nat → Bits) (n cas : Int) (t : Timer) (w : World) (h : RM w q tb c nb P b B s rg n cas) (z : RSz P b B) (hb : U64 s.base) (ht : U64 t.at_) (hi : i < P) (ho : s.inn i = none) (hp : Hid (t.place = i)) (hj : Hid (hslot B s.base t = j)) (hL : Hid (lev (B : Int) s.base t.at_ = 0)) (hS : Hid (slotI (B : Int) s.base t.at_ = k)) (hk : k < B) (hjk : Hid (j = 0 * B + k)) :
    Calls Tryz.prog 53 #[.pointer (some ⟨q, 0, none⟩), t.val] w fun e w' => e = .returned (.tuple #[]) ∧ PutOk w w' q tb c nb P b B s rg n cas t i j := by
  have hP := z.hP
  have hB64 := z.le
  have hcq := h.qc
  have htc := h.tc
  have hqn := h.qnb
  have htn := h.tnb
  have hqt := h.qtb
  obtain ⟨hqw, htw, hcw, hnw⟩ := h.lts
  have hok := h.ok
  have hbusy := h.busy
  have hb0 : Below w.heap.size w (w.alloc (.cells #[.int .u64 t.at_, .int .u64 t.seq, .int .i64 i] 37)) := (Below.refl _ _).alloc (Nat.le_refl _) _
  have q0 : Blk (w.alloc (.cells #[.int .u64 t.at_, .int .u64 t.seq, .int .i64 i] 37)) w.heap.size 37 #[.int .u64 t.at_, .int .u64 t.seq, .int .i64 i] := Blk.new _ _ _
  have hB1 := h.blk.below hb0 hqw
  have hT1 := h.tms.below hb0 htw
  have hC1 := h.ch.below hb0
  have hli := fun wx (g : Blk wx q 81 (rCells tb c P b rg s.base n cas)) => rlies_any q tb c P b B rg s.base n cas t wx g z hb ht
  clear h
  unfold Timer.val at hli
  rw [hp.out] at hli
  unfold Timer.val
  rw [hp.out]
  go_enter Tryz.func53, Tryz.ntmps53
  go_upto_region 1 with fail
  generalize w.alloc (.cells #[.int .u64 t.at_, .int .u64 t.seq, .int .i64 i] 37) = w1 at *
  have hc := hB1.drew.cell
  unfold rCells at hc
  have hq0 := q0.drew.cell
  refine still_tail 8 (by kernel_rfl) (by kernel_rfl) ?_
  simp only [List.take_succ_cons, List.take_zero, List.drop_succ_cons, List.drop_zero]
  repeat still_step
  refine wpStill_nil ?_
  have t0 := (hT1.drew.cell _).trans (tmC_at P s.tm i hi)
  have t1 := (hT1.drew.cell _).trans (tmC_seq P s.tm i hi)
  have t2 := (hT1.drew.cell _).trans (tmC_place P s.tm i hi)
  have hzt := hT1.drew.frozen
  have hlt3 := hT1.drew.lt
  obtain ⟨wa, hwa, hTa, hka⟩ := tm_put hT1.drew hi t hp.out
  have hBa := hB1.drew.chg hka hqt
  have hCa := hC1.drew.chg hka (fun e => htc e.symm) (fun e => htn e.symm)
  have qa := q0.drew.chg hka (by omega)
  have hk1 : Chg (fun g => g = q ∨ g = tb ∨ g = nb) w wa := (Chg.of_same hb0.drew (fun g => g = q ∨ g = tb ∨ g = nb)).trans hka (fun _ _ e => .inr (.inl e))
  have hlia := hli wa hBa
  have hca := hBa.cell
  unfold rCells at hca
  have hqa := qa.cell
  clear hB1 hT1 hC1 q0 hb0 hka hli
  generalize w1.drew = w1' at *
  go_wp2_with fail
  rw [← hwa]
  refine hlia.mono ?_
  rintro e w3 ⟨rfl, hx⟩
  have hB3 := hBa.below hx hBa.lt
  have hT3 := hTa.below hx hTa.lt
  have hC3 := hCa.below hx
  have q3 := qa.below hx qa.lt
  have hk3 : Chg (fun g => g = q ∨ g = tb ∨ g = nb) w w3 := hk1.trans (Chg.of_same hx (fun g => g = q ∨ g = tb ∨ g = nb)) (fun _ _ e => e)
  clear hc hq0 t0 t1 t2 hzt hlt3 hwa hTa hBa hCa qa hk1 hlia hca hqa hx
  clear wa w1' w1
  unfold lsV
  rw [hL.out, hS.out]
  have hl : 0 < 4 := by omega
  have hj4 := slot_lt z.pos hl hk
  rw [← hjk.out] at hj4
  have hbok := (hbusy 0 hl).ok
  have hcap := cappend_ok c nb P (4 * B + 2) j i s.inn s.L w3.drew hC3.drew (by omega) (by omega) hi ho
  have hre := rlist_at q tb c P b B 0 k rg s.base n cas w3.drew hB3.drew z hl hk
  rw [← hjk.out] at hre
  have cb := hB3.drew.cell
  unfold rCells at cb
  have cq := q3.drew.cell
  go_upto_region 3 with fail
  refine still_tail 10 (by kernel_rfl) (by kernel_rfl) ?_
  simp only [List.take_succ_cons, List.take_zero, List.drop_succ_cons, List.drop_zero]
  iterate 7 still_step
  still_call (flip hre)
  repeat still_step
  refine wpStill_nil ?_
  go_wp2_with fail
  refine hcap.mono ?_
  rintro e w4 ⟨rfl, hC4, hk4'⟩
  have hB4 := hB3.drew.chg hk4' hqn
  have hT4 := hT3.drew.chg hk4' htn
  have hk4 : Chg (fun g => g = q ∨ g = tb ∨ g = nb) w w4 := hk3.drew.trans hk4' (fun _ _ e => .inr (.inr e))
  clear hB3 hT3 hC3 q3 hk3 cb cq hcap hre hk4'
  go_upto_region 4 with fail
  have hs0 : Below w4.heap.size w4 w4.drew := (Below.refl _ _).drew
  refine region_facts_set 13 (fun _ => false) (FV [.pointer (some ⟨q, 0, none⟩), .int .i64 0, .pointer (some ⟨q, 0, none⟩), .int .i64 0, .pointer (some ⟨q, 0, none⟩), .pointer (some ⟨q, 2, none⟩), .pointer (some ⟨q, 2, none⟩), .pointer (some ⟨q, 2, none⟩), (rg 0).val, .int .i64 k, ((rg 0).put (k : Int)).val, .pointer (some ⟨q, 0, none⟩), .pointer (some ⟨q, 2, none⟩)]) (fun _ x => Below w4.heap.size w4 x) (fun _ x y => x.heap.size ≤ y.heap.size) [31, 32, 33, 34, 35, 36, 37, 38, 39, 40, 41, 42, 43] (by kernel_rfl) (by kernel_rfl) (by kernel_rfl) (by decide) (by kernel_rfl) (by kernel_rfl) (fun _ _ _ _ _ _ h _ => h) (fun _ _ _ h => h) hs0 ?_ ?_
  · intro fr hfr
    have f0 : fr.getD 0 undef = .pointer (some ⟨q, 0, none⟩) := by rw [hfr]; rfl
    have f4 : fr.getD 4 undef = .int .i64 0 := by rw [hfr]; rfl
    have f5 : fr.getD 5 undef = .int .i64 k := by rw [hfr]; rfl
    clear hfr
    iterate 13
      refine ⟨⟨by first | trivial | exact ⟨rfl, fun _ _ h => h⟩, ?_⟩, ?_⟩
      · intro ρ w' p hp hdq hρ hd hSt
        simp only [DepF, Region.binds, List.getD_cons_zero, List.getD_cons_succ, FV, forall_const, and_true, true_and] at hd
        have hcon := hρ.con
        (have e0 := (hρ.slot 0 (by kernel_rfl)).trans f0; have e4 := (hρ.slot 4 (by kernel_rfl)).trans f4; have e5 := (hρ.slot 5 (by kernel_rfl)).trans f5)
        (have eb := (hB4.below hSt hB4.lt).cell; unfold rCells at eb; have hpu := bput_any (rg 0) k w' hbok; unfold Bits.val at hpu; (try unfold Bits.val at hd))
        (try rw [execOp_call_fn _ _ _ _ _ _ _ _ _ (hρ.fn _)])
        go_simp
        (try simp only [GoodQ, FV, List.getD_cons_zero, List.getD_cons_succ])
        first
          | exact ⟨rfl, Nat.le_refl _, fun h => absurd h (by decide), hSt⟩
          | exact ⟨trivial, Nat.le_refl _, fun h => absurd h (by decide), hSt⟩
          | (refine hpu.mono ?_; rintro e w'' ⟨rfl, hx⟩; exact ⟨_, rfl, rfl, hx.size, fun h => absurd h (by decide), hSt.trans (Below.mono hx hSt.size)⟩)
    trivial
  · intro vs w5 hSt hF _
    have h0 : vs 12 = .pointer (some ⟨q, 2, none⟩) := hF 12 (by decide)
    have h1 : vs 1 = .int .i64 0 := hF 1 (by decide)
    have h10 : vs 10 = ((rg 0).put (k : Int)).val := hF 10 (by decide)
    unfold Bits.val at h10
    have hB5 := hB4.below hSt hB4.lt
    have hT5 := hT4.below hSt hT4.lt
    have hC5 := hC4.below hSt
    have hk5 : Chg (fun g => g = q ∨ g = tb ∨ g = nb) w w5 := hk4.trans (Chg.of_same hSt (fun g => g = q ∨ g = tb ∨ g = nb)) (fun _ _ e => e)
    have e1 := hB5.cell
    unfold rCells at e1
    have e2 := hB5.frozen
    have e3 := hB5.lt
    obtain ⟨wa, hwa, hBa, hka⟩ := ring_put hB5 0 hl ((rg 0).put (k : Int))
    simp only [Nat.reduceMul, Nat.reduceAdd] at hwa
    have fin : PutOk w wa q tb c nb P b B s rg n cas t i j := by
      have hpm : (s.L j ++ [i]).Perm (i :: s.L j) := List.perm_append_singleton _ _
      refine ⟨⟨_, _, ⟨hBa, hT5.chg hka (fun e => hqt e.symm), hC5.chg hka (fun e => hcq e.symm) (fun e => hqn e.symm), ?_, hok.ins z.pos hi ho ht.1 hj.out hpm (fun e => by omega)⟩, hpm, fun _ => rfl⟩, hk5.trans hka (fun _ _ e => .inl e)⟩
      exact ring_ins hbusy z.le hk hjk.out (by simp)
    clear hF hSt hs0 hB4 hT4 hC4 hk4 hB5 hT5 hC5 hk5 hBa hka
    simp only [setAll, List.setIfInBounds_toArray, List.set_cons_zero, List.set_cons_succ, Nat.reduceAdd]
    rw [h0, h1, h10]
    simp only [List.drop_succ_cons, List.drop_zero]
    clear h0 h1 h10
    go_wp2_with fail
    rw [← hwa]
    go_end0
    exact ⟨rfl, fin⟩
set_option linter.unusedSimpArgs false in
set_option maxRecDepth 100000 in
set_option maxHeartbeats 2000000 in
theorem rput_slot1 (q tb c nb P b B i j k : Nat) (s : HSt) (rg : Nat → Bits) (n cas : Int) (t : Timer) (w : World) (h : RM w q tb c nb P b B s rg n cas) (z : RSz P b B) (hb : U64 s.base) (ht : U64 t.at_) (hi : i < P) (ho : s.inn i = none) (hp : Hid (t.place = i)) (hj : Hid (hslot B s.base t = j)) (hL : Hid (lev (B : Int) s.base t.at_ = 1)) (hS : Hid (slotI (B : Int) s.base t.at_ = k)) (hk : k < B) (hjk : Hid (j = 1 * B + k)) :
    Calls Tryz.prog 53 #[.pointer (some ⟨q, 0, none⟩), t.val] w fun e w' => e = .returned (.tuple #[]) ∧ PutOk w w' q tb c nb P b B s rg n cas t i j := by
  have hP := z.hP
  have hB64 := z.le
  have hcq := h.qc
  have htc := h.tc
  have hqn := h.qnb
  have htn := h.tnb
  have hqt := h.qtb
  obtain ⟨hqw, htw, hcw, hnw⟩ := h.lts
  have hok := h.ok
  have hbusy := h.busy
  have hb0 : Below w.heap.size w (w.alloc (.cells #[.int .u64 t.at_, .int .u64 t.seq, .int .i64 i] 37)) := (Below.refl _ _).alloc (Nat.le_refl _) _
  have q0 : Blk (w.alloc (.cells #[.int .u64 t.at_, .int .u64 t.seq, .int .i64 i] 37)) w.heap.size 37 #[.int .u64 t.at_, .int .u64 t.seq, .int .i64 i] := Blk.new _ _ _
  have hB1 := h.blk.below hb0 hqw
  have hT1 := h.tms.below hb0 htw
  have hC1 := h.ch.below hb0
  have hli := fun wx (g : Blk wx q 81 (rCells tb c P b rg s.base n cas)) => rlies_any q tb c P b B rg s.base n cas t wx g z hb ht
  clear h
  unfold Timer.val at hli
  rw [hp.out] at hli
  unfold Timer.val
  rw [hp.out]
  go_enter Tryz.func53, Tryz.ntmps53
  go_upto_region 1 with fail
  generalize w.alloc (.cells #[.int .u64 t.at_, .int .u64 t.seq, .int .i64 i] 37) = w1 at *
  have hc := hB1.drew.cell
  unfold rCells at hc
  have hq0 := q0.drew.cell
  refine still_tail 8 (by kernel_rfl) (by kernel_rfl) ?_
  simp only [List.take_succ_cons, List.take_zero, List.drop_succ_cons, List.drop_zero]
  repeat still_step
  refine wpStill_nil ?_
  have t0 := (hT1.drew.cell _).trans (tmC_at P s.tm i hi)
  have t1 := (hT1.drew.cell _).trans (tmC_seq P s.tm i hi)
  have t2 := (hT1.drew.cell _).trans (tmC_place P s.tm i hi)
  have hzt := hT1.drew.frozen
  have hlt3 := hT1.drew.lt
  obtain ⟨wa, hwa, hTa, hka⟩ := tm_put hT1.drew hi t hp.out
  have hBa := hB1.drew.chg hka hqt
  have hCa := hC1.drew.chg hka (fun e => htc e.symm) (fun e => htn e.symm)
  have qa := q0.drew.chg hka (by omega)
  have hk1 : Chg (fun g => g = q ∨ g = tb ∨ g = nb) w wa := (Chg.of_same hb0.drew (fun g => g = q ∨ g = tb ∨ g = nb)).trans hka (fun _ _ e => .inr (.inl e))
  have hlia := hli wa hBa
  have hca := hBa.cell
  unfold rCells at hca
  have hqa := qa.cell
  clear hB1 hT1 hC1 q0 hb0 hka hli
  generalize w1.drew = w1' at *
  go_wp2_with fail
  rw [← hwa]
  refine hlia.mono ?_
  rintro e w3 ⟨rfl, hx⟩
  have hB3 := hBa.below hx hBa.lt
  have hT3 := hTa.below hx hTa.lt
  have hC3 := hCa.below hx
  have q3 := qa.below hx qa.lt
  have hk3 : Chg (fun g => g = q ∨ g = tb ∨ g = nb) w w3 := hk1.trans (Chg.of_same hx (fun g => g = q ∨ g = tb ∨ g = nb)) (fun _ _ e => e)
  clear hc hq0 t0 t1 t2 hzt hlt3 hwa hTa hBa hCa qa hk1 hlia hca hqa hx
  clear wa w1' w1
  unfold lsV
  rw [hL.out, hS.out]
  have hl : 1 < 4 := by omega
  have hj4 := slot_lt z.pos hl hk
  rw [← hjk.out] at hj4
  have hbok := (hbusy 1 hl).ok
  have hcap := cappend_ok c nb P (4 * B + 2) j i s.inn s.L w3.drew hC3.drew (by omega) (by omega) hi ho
  have hre := rlist_at q tb c P b B 1 k rg s.base n cas w3.drew hB3.drew z hl hk
  rw [← hjk.out] at hre
  have cb := hB3.drew.cell
  unfold rCells at cb
  have cq := q3.drew.cell
  go_upto_region 3 with fail
  refine still_tail 10 (by kernel_rfl) (by kernel_rfl) ?_
  simp only [List.take_succ_cons, List.take_zero, List.drop_succ_cons, List.drop_zero]
  iterate 7 still_step
  still_call (flip hre)
  repeat still_step
  refine wpStill_nil ?_
  go_wp2_with fail
  refine hcap.mono ?_
  rintro e w4 ⟨rfl, hC4, hk4'⟩
  have hB4 := hB3.drew.chg hk4' hqn
  have hT4 := hT3.drew.chg hk4' htn
  have hk4 : Chg (fun g => g = q ∨ g = tb ∨ g = nb) w w4 := hk3.drew.trans hk4' (fun _ _ e => .inr (.inr e))
  clear hB3 hT3 hC3 q3 hk3 cb cq hcap hre hk4'
  go_upto_region 4 with fail
  have hs0 : Below w4.heap.size w4 w4.drew := (Below.refl _ _).drew
  refine region_facts_set 13 (fun _ => false) (FV [.pointer (some ⟨q, 0, none⟩), .int .i64 1, .pointer (some ⟨q, 0, none⟩), .int .i64 1, .pointer (some ⟨q, 0, none⟩), .pointer (some ⟨q, 2, none⟩), .pointer (some ⟨q, 6, none⟩), .pointer (some ⟨q, 6, none⟩), (rg 1).val, .int .i64 k, ((rg 1).put (k : Int)).val, .pointer (some ⟨q, 0, none⟩), .pointer (some ⟨q, 2, none⟩)]) (fun _ x => Below w4.heap.size w4 x) (fun _ x y => x.heap.size ≤ y.heap.size) [31, 32, 33, 34, 35, 36, 37, 38, 39, 40, 41, 42, 43] (by kernel_rfl) (by kernel_rfl) (by kernel_rfl) (by decide) (by kernel_rfl) (by kernel_rfl) (fun _ _ _ _ _ _ h _ => h) (fun _ _ _ h => h) hs0 ?_ ?_
  · intro fr hfr
    have f0 : fr.getD 0 undef = .pointer (some ⟨q, 0, none⟩) := by rw [hfr]; rfl
    have f4 : fr.getD 4 undef = .int .i64 1 := by rw [hfr]; rfl
    have f5 : fr.getD 5 undef = .int .i64 k := by rw [hfr]; rfl
    clear hfr
    iterate 13
      refine ⟨⟨by first | trivial | exact ⟨rfl, fun _ _ h => h⟩, ?_⟩, ?_⟩
      · intro ρ w' p hp hdq hρ hd hSt
        simp only [DepF, Region.binds, List.getD_cons_zero, List.getD_cons_succ, FV, forall_const, and_true, true_and] at hd
        have hcon := hρ.con
        (have e0 := (hρ.slot 0 (by kernel_rfl)).trans f0; have e4 := (hρ.slot 4 (by kernel_rfl)).trans f4; have e5 := (hρ.slot 5 (by kernel_rfl)).trans f5)
        (have eb := (hB4.below hSt hB4.lt).cell; unfold rCells at eb; have hpu := bput_any (rg 1) k w' hbok; unfold Bits.val at hpu; (try unfold Bits.val at hd))
        (try rw [execOp_call_fn _ _ _ _ _ _ _ _ _ (hρ.fn _)])
        go_simp
        (try simp only [GoodQ, FV, List.getD_cons_zero, List.getD_cons_succ])
        first
          | exact ⟨rfl, Nat.le_refl _, fun h => absurd h (by decide), hSt⟩
          | exact ⟨trivial, Nat.le_refl _, fun h => absurd h (by decide), hSt⟩
          | (refine hpu.mono ?_; rintro e w'' ⟨rfl, hx⟩; exact ⟨_, rfl, rfl, hx.size, fun h => absurd h (by decide), hSt.trans (Below.mono hx hSt.size)⟩)
    trivial
  · intro vs w5 hSt hF _
    have h0 : vs 12 = .pointer (some ⟨q, 2, none⟩) := hF 12 (by decide)
    have h1 : vs 1 = .int .i64 1 := hF 1 (by decide)
    have h10 : vs 10 = ((rg 1).put (k : Int)).val := hF 10 (by decide)
    unfold Bits.val at h10
    have hB5 := hB4.below hSt hB4.lt
    have hT5 := hT4.below hSt hT4.lt
    have hC5 := hC4.below hSt
    have hk5 : Chg (fun g => g = q ∨ g = tb ∨ g = nb) w w5 := hk4.trans (Chg.of_same hSt (fun g => g = q ∨ g = tb ∨ g = nb)) (fun _ _ e => e)
    have e1 := hB5.cell
    unfold rCells at e1
    have e2 := hB5.frozen
    have e3 := hB5.lt
    obtain ⟨wa, hwa, hBa, hka⟩ := ring_put hB5 1 hl ((rg 1).put (k : Int))
    simp only [Nat.reduceMul, Nat.reduceAdd] at hwa
    have fin : PutOk w wa q tb c nb P b B s rg n cas t i j := by
      have hpm : (s.L j ++ [i]).Perm (i :: s.L j) := List.perm_append_singleton _ _
      refine ⟨⟨_, _, ⟨hBa, hT5.chg hka (fun e => hqt e.symm), hC5.chg hka (fun e => hcq e.symm) (fun e => hqn e.symm), ?_, hok.ins z.pos hi ho ht.1 hj.out hpm (fun e => by omega)⟩, hpm, fun _ => rfl⟩, hk5.trans hka (fun _ _ e => .inl e)⟩
      exact ring_ins hbusy z.le hk hjk.out (by simp)
    clear hF hSt hs0 hB4 hT4 hC4 hk4 hB5 hT5 hC5 hk5 hBa hka
    simp only [setAll, List.setIfInBounds_toArray, List.set_cons_zero, List.set_cons_succ, Nat.reduceAdd]
    rw [h0, h1, h10]
    simp only [List.drop_succ_cons, List.drop_zero]
    clear h0 h1 h10
    go_wp2_with fail
    rw [← hwa]
    go_end0
    exact ⟨rfl, fin⟩
set_option linter.unusedSimpArgs false in
set_option maxRecDepth 100000 in
set_option maxHeartbeats 2000000 in
theorem rput_slot2 (q tb c nb P b B i j k : Nat) (s : HSt) (rg : Nat → Bits) (n cas : Int) (t : Timer) (w : World) (h : RM w q tb c nb P b B s rg n cas) (z : RSz P b B) (hb : U64 s.base) (ht : U64 t.at_) (hi : i < P) (ho : s.inn i = none) (hp : Hid (t.place = i)) (hj : Hid (hslot B s.base t = j)) (hL : Hid (lev (B : Int) s.base t.at_ = 2)) (hS : Hid (slotI (B : Int) s.base t.at_ = k)) (hk : k < B) (hjk : Hid (j = 2 * B + k)) :
    Calls Tryz.prog 53 #[.pointer (some ⟨q, 0, none⟩), t.val] w fun e w' => e = .returned (.tuple #[]) ∧ PutOk w w' q tb c nb P b B s rg n cas t i j := by
  have hP := z.hP
  have hB64 := z.le
  have hcq := h.qc
  have htc := h.tc
  have hqn := h.qnb
  have htn := h.tnb
  have hqt := h.qtb
  obtain ⟨hqw, htw, hcw, hnw⟩ := h.lts
  have hok := h.ok
  have hbusy := h.busy
  have hb0 : Below w.heap.size w (w.alloc (.cells #[.int .u64 t.at_, .int .u64 t.seq, .int .i64 i] 37)) := (Below.refl _ _).alloc (Nat.le_refl _) _
  have q0 : Blk (w.alloc (.cells #[.int .u64 t.at_, .int .u64 t.seq, .int .i64 i] 37)) w.heap.size 37 #[.int .u64 t.at_, .int .u64 t.seq, .int .i64 i] := Blk.new _ _ _
  have hB1 := h.blk.below hb0 hqw
  have hT1 := h.tms.below hb0 htw
  have hC1 := h.ch.below hb0
  have hli := fun wx (g : Blk wx q 81 (rCells tb c P b rg s.base n cas)) => rlies_any q tb c P b B rg s.base n cas t wx g z hb ht
  clear h
  unfold Timer.val at hli
  rw [hp.out] at hli
  unfold Timer.val
  rw [hp.out]
  go_enter Tryz.func53, Tryz.ntmps53
  go_upto_region 1 with fail
  generalize w.alloc (.cells #[.int .u64 t.at_, .int .u64 t.seq, .int .i64 i] 37) = w1 at *
  have hc := hB1.drew.cell
  unfold rCells at hc
  have hq0 := q0.drew.cell
  refine still_tail 8 (by kernel_rfl) (by kernel_rfl) ?_
  simp only [List.take_succ_cons, List.take_zero, List.drop_succ_cons, List.drop_zero]
  repeat still_step
  refine wpStill_nil ?_
  have t0 := (hT1.drew.cell _).trans (tmC_at P s.tm i hi)
  have t1 := (hT1.drew.cell _).trans (tmC_seq P s.tm i hi)
  have t2 := (hT1.drew.cell _).trans (tmC_place P s.tm i hi)
  have hzt := hT1.drew.frozen
  have hlt3 := hT1.drew.lt
  obtain ⟨wa, hwa, hTa, hka⟩ := tm_put hT1.drew hi t hp.out
  have hBa := hB1.drew.chg hka hqt
  have hCa := hC1.drew.chg hka (fun e => htc e.symm) (fun e => htn e.symm)
  have qa := q0.drew.chg hka (by omega)
  have hk1 : Chg (fun g => g = q ∨ g = tb ∨ g = nb) w wa := (Chg.of_same hb0.drew (fun g => g = q ∨ g = tb ∨ g = nb)).trans hka (fun _ _ e => .inr (.inl e))
  have hlia := hli wa hBa
  have hca := hBa.cell
  unfold rCells at hca
  have hqa := qa.cell
  clear hB1 hT1 hC1 q0 hb0 hka hli
  generalize w1.drew = w1' at *
  go_wp2_with fail
  rw [← hwa]
  refine hlia.mono ?_
  rintro e w3 ⟨rfl, hx⟩
  have hB3 := hBa.below hx hBa.lt
  have hT3 := hTa.below hx hTa.lt
  have hC3 := hCa.below hx
  have q3 := qa.below hx qa.lt
  have hk3 : Chg (fun g => g = q ∨ g = tb ∨ g = nb) w w3 := hk1.trans (Chg.of_same hx (fun g => g = q ∨ g = tb ∨ g = nb)) (fun _ _ e => e)
  clear hc hq0 t0 t1 t2 hzt hlt3 hwa hTa hBa hCa qa hk1 hlia hca hqa hx
  clear wa w1' w1
  unfold lsV
  rw [hL.out, hS.out]
  have hl : 2 < 4 := by omega
  have hj4 := slot_lt z.pos hl hk
  rw [← hjk.out] at hj4
  have hbok := (hbusy 2 hl).ok
  have hcap := cappend_ok c nb P (4 * B + 2) j i s.inn s.L w3.drew hC3.drew (by omega) (by omega) hi ho
  have hre := rlist_at q tb c P b B 2 k rg s.base n cas w3.drew hB3.drew z hl hk
  rw [← hjk.out] at hre
  have cb := hB3.drew.cell
  unfold rCells at cb
  have cq := q3.drew.cell
  go_upto_region 3 with fail
  refine still_tail 10 (by kernel_rfl) (by kernel_rfl) ?_
  simp only [List.take_succ_cons, List.take_zero, List.drop_succ_cons, List.drop_zero]
  iterate 7 still_step
  still_call (flip hre)
  repeat still_step
  refine wpStill_nil ?_
  go_wp2_with fail
  refine hcap.mono ?_
  rintro e w4 ⟨rfl, hC4, hk4'⟩
  have hB4 := hB3.drew.chg hk4' hqn
  have hT4 := hT3.drew.chg hk4' htn
  have hk4 : Chg (fun g => g = q ∨ g = tb ∨ g = nb) w w4 := hk3.drew.trans hk4' (fun _ _ e => .inr (.inr e))
  clear hB3 hT3 hC3 q3 hk3 cb cq hcap hre hk4'
  go_upto_region 4 with fail
  have hs0 : Below w4.heap.size w4 w4.drew := (Below.refl _ _).drew
  refine region_facts_set 13 (fun _ => false) (FV [.pointer (some ⟨q, 0, none⟩), .int .i64 2, .pointer (some ⟨q, 0, none⟩), .int .i64 2, .pointer (some ⟨q, 0, none⟩), .pointer (some ⟨q, 2, none⟩), .pointer (some ⟨q, 10, none⟩), .pointer (some ⟨q, 10, none⟩), (rg 2).val, .int .i64 k, ((rg 2).put (k : Int)).val, .pointer (some ⟨q, 0, none⟩), .pointer (some ⟨q, 2, none⟩)]) (fun _ x => Below w4.heap.size w4 x) (fun _ x y => x.heap.size ≤ y.heap.size) [31, 32, 33, 34, 35, 36, 37, 38, 39, 40, 41, 42, 43] (by kernel_rfl) (by kernel_rfl) (by kernel_rfl) (by decide) (by kernel_rfl) (by kernel_rfl) (fun _ _ _ _ _ _ h _ => h) (fun _ _ _ h => h) hs0 ?_ ?_
  · intro fr hfr
    have f0 : fr.getD 0 undef = .pointer (some ⟨q, 0, none⟩) := by rw [hfr]; rfl
    have f4 : fr.getD 4 undef = .int .i64 2 := by rw [hfr]; rfl
    have f5 : fr.getD 5 undef = .int .i64 k := by rw [hfr]; rfl
    clear hfr
    iterate 13
      refine ⟨⟨by first | trivial | exact ⟨rfl, fun _ _ h => h⟩, ?_⟩, ?_⟩
      · intro ρ w' p hp hdq hρ hd hSt
        simp only [DepF, Region.binds, List.getD_cons_zero, List.getD_cons_succ, FV, forall_const, and_true, true_and] at hd
        have hcon := hρ.con
        (have e0 := (hρ.slot 0 (by kernel_rfl)).trans f0; have e4 := (hρ.slot 4 (by kernel_rfl)).trans f4; have e5 := (hρ.slot 5 (by kernel_rfl)).trans f5)
        (have eb := (hB4.below hSt hB4.lt).cell; unfold rCells at eb; have hpu := bput_any (rg 2) k w' hbok; unfold Bits.val at hpu; (try unfold Bits.val at hd))
        (try rw [execOp_call_fn _ _ _ _ _ _ _ _ _ (hρ.fn _)])
        go_simp
        (try simp only [GoodQ, FV, List.getD_cons_zero, List.getD_cons_succ])
        first
          | exact ⟨rfl, Nat.le_refl _, fun h => absurd h (by decide), hSt⟩
          | exact ⟨trivial, Nat.le_refl _, fun h => absurd h (by decide), hSt⟩
          | (refine hpu.mono ?_; rintro e w'' ⟨rfl, hx⟩; exact ⟨_, rfl, rfl, hx.size, fun h => absurd h (by decide), hSt.trans (Below.mono hx hSt.size)⟩)
    trivial
  · intro vs w5 hSt hF _
    have h0 : vs 12 = .pointer (some ⟨q, 2, none⟩) := hF 12 (by decide)
    have h1 : vs 1 = .int .i64 2 := hF 1 (by decide)
    have h10 : vs 10 = ((rg 2).put (k : Int)).val := hF 10 (by decide)
    unfold Bits.val at h10
    have hB5 := hB4.below hSt hB4.lt
    have hT5 := hT4.below hSt hT4.lt
    have hC5 := hC4.below hSt
    have hk5 : Chg (fun g => g = q ∨ g = tb ∨ g = nb) w w5 := hk4.trans (Chg.of_same hSt (fun g => g = q ∨ g = tb ∨ g = nb)) (fun _ _ e => e)
    have e1 := hB5.cell
    unfold rCells at e1
    have e2 := hB5.frozen
    have e3 := hB5.lt
    obtain ⟨wa, hwa, hBa, hka⟩ := ring_put hB5 2 hl ((rg 2).put (k : Int))
    simp only [Nat.reduceMul, Nat.reduceAdd] at hwa
    have fin : PutOk w wa q tb c nb P b B s rg n cas t i j := by
      have hpm : (s.L j ++ [i]).Perm (i :: s.L j) := List.perm_append_singleton _ _
      refine ⟨⟨_, _, ⟨hBa, hT5.chg hka (fun e => hqt e.symm), hC5.chg hka (fun e => hcq e.symm) (fun e => hqn e.symm), ?_, hok.ins z.pos hi ho ht.1 hj.out hpm (fun e => by omega)⟩, hpm, fun _ => rfl⟩, hk5.trans hka (fun _ _ e => .inl e)⟩
      exact ring_ins hbusy z.le hk hjk.out (by simp)
    clear hF hSt hs0 hB4 hT4 hC4 hk4 hB5 hT5 hC5 hk5 hBa hka
    simp only [setAll, List.setIfInBounds_toArray, List.set_cons_zero, List.set_cons_succ, Nat.reduceAdd]
    rw [h0, h1, h10]
    simp only [List.drop_succ_cons, List.drop_zero]
    clear h0 h1 h10
    go_wp2_with fail
    rw [← hwa]
    go_end0
    exact ⟨rfl, fin⟩
set_option linter.unusedSimpArgs false in
set_option maxRecDepth 100000 in
set_option maxHeartbeats 2000000 in
theorem rput_slot3 (q tb c nb P b B i j k : Nat) (s : HSt) (rg : Nat → Bits) (n cas : Int) (t : Timer) (w : World) (h : RM w q tb c nb P b B s rg n cas) (z : RSz P b B) (hb : U64 s.base) (ht : U64 t.at_) (hi : i < P) (ho : s.inn i = none) (hp : Hid (t.place = i)) (hj : Hid (hslot B s.base t = j)) (hL : Hid (lev (B : Int) s.base t.at_ = 3)) (hS : Hid (slotI (B : Int) s.base t.at_ = k)) (hk : k < B) (hjk : Hid (j = 3 * B + k)) :
    Calls Tryz.prog 53 #[.pointer (some ⟨q, 0, none⟩), t.val] w fun e w' => e = .returned (.tuple #[]) ∧ PutOk w w' q tb c nb P b B s rg n cas t i j := by
  have hP := z.hP
  have hB64 := z.le
  have hcq := h.qc
  have htc := h.tc
  have hqn := h.qnb
  have htn := h.tnb
  have hqt := h.qtb
  obtain ⟨hqw, htw, hcw, hnw⟩ := h.lts
  have hok := h.ok
  have hbusy := h.busy
  have hb0 : Below w.heap.size w (w.alloc (.cells #[.int .u64 t.at_, .int .u64 t.seq, .int .i64 i] 37)) := (Below.refl _ _).alloc (Nat.le_refl _) _
  have q0 : Blk (w.alloc (.cells #[.int .u64 t.at_, .int .u64 t.seq, .int .i64 i] 37)) w.heap.size 37 #[.int .u64 t.at_, .int .u64 t.seq, .int .i64 i] := Blk.new _ _ _
  have hB1 := h.blk.below hb0 hqw
  have hT1 := h.tms.below hb0 htw
  have hC1 := h.ch.below hb0
  have hli := fun wx (g : Blk wx q 81 (rCells tb c P b rg s.base n cas)) => rlies_any q tb c P b B rg s.base n cas t wx g z hb ht
  clear h
  unfold Timer.val at hli
  rw [hp.out] at hli
  unfold Timer.val
  rw [hp.out]
  go_enter Tryz.func53, Tryz.ntmps53
  go_upto_region 1 with fail
  generalize w.alloc (.cells #[.int .u64 t.at_, .int .u64 t.seq, .int .i64 i] 37) = w1 at *
  have hc := hB1.drew.cell
  unfold rCells at hc
  have hq0 := q0.drew.cell
  refine still_tail 8 (by kernel_rfl) (by kernel_rfl) ?_
  simp only [List.take_succ_cons, List.take_zero, List.drop_succ_cons, List.drop_zero]
  repeat still_step
  refine wpStill_nil ?_
  have t0 := (hT1.drew.cell _).trans (tmC_at P s.tm i hi)
  have t1 := (hT1.drew.cell _).trans (tmC_seq P s.tm i hi)
  have t2 := (hT1.drew.cell _).trans (tmC_place P s.tm i hi)
  have hzt := hT1.drew.frozen
  have hlt3 := hT1.drew.lt
  obtain ⟨wa, hwa, hTa, hka⟩ := tm_put hT1.drew hi t hp.out
  have hBa := hB1.drew.chg hka hqt
  have hCa := hC1.drew.chg hka (fun e => htc e.symm) (fun e => htn e.symm)
  have qa := q0.drew.chg hka (by omega)
  have hk1 : Chg (fun g => g = q ∨ g = tb ∨ g = nb) w wa := (Chg.of_same hb0.drew (fun g => g = q ∨ g = tb ∨ g = nb)).trans hka (fun _ _ e => .inr (.inl e))
  have hlia := hli wa hBa
  have hca := hBa.cell
  unfold rCells at hca
  have hqa := qa.cell
  clear hB1 hT1 hC1 q0 hb0 hka hli
  generalize w1.drew = w1' at *
  go_wp2_with fail
  rw [← hwa]
  refine hlia.mono ?_
  rintro e w3 ⟨rfl, hx⟩
  have hB3 := hBa.below hx hBa.lt
  have hT3 := hTa.below hx hTa.lt
  have hC3 := hCa.below hx
  have q3 := qa.below hx qa.lt
  have hk3 : Chg (fun g => g = q ∨ g = tb ∨ g = nb) w w3 := hk1.trans (Chg.of_same hx (fun g => g = q ∨ g = tb ∨ g = nb)) (fun _ _ e => e)
  clear hc hq0 t0 t1 t2 hzt hlt3 hwa hTa hBa hCa qa hk1 hlia hca hqa hx
  clear wa w1' w1
  unfold lsV
  rw [hL.out, hS.out]
  have hl : 3 < 4 := by omega
  have hj4 := slot_lt z.pos hl hk
  rw [← hjk.out] at hj4
  have hbok := (hbusy 3 hl).ok
  have hcap := cappend_ok c nb P (4 * B + 2) j i s.inn s.L w3.drew hC3.drew (by omega) (by omega) hi ho
  have hre := rlist_at q tb c P b B 3 k rg s.base n cas w3.drew hB3.drew z hl hk
  rw [← hjk.out] at hre
  have cb := hB3.drew.cell
  unfold rCells at cb
  have cq := q3.drew.cell
  go_upto_region 3 with fail
  refine still_tail 10 (by kernel_rfl) (by kernel_rfl) ?_
  simp only [List.take_succ_cons, List.take_zero, List.drop_succ_cons, List.drop_zero]
  iterate 7 still_step
  still_call (flip hre)
  repeat still_step
  refine wpStill_nil ?_
  go_wp2_with fail
  refine hcap.mono ?_
  rintro e w4 ⟨rfl, hC4, hk4'⟩
  have hB4 := hB3.drew.chg hk4' hqn
  have hT4 := hT3.drew.chg hk4' htn
  have hk4 : Chg (fun g => g = q ∨ g = tb ∨ g = nb) w w4 := hk3.drew.trans hk4' (fun _ _ e => .inr (.inr e))
  clear hB3 hT3 hC3 q3 hk3 cb cq hcap hre hk4'
  go_upto_region 4 with fail
  have hs0 : Below w4.heap.size w4 w4.drew := (Below.refl _ _).drew
  refine region_facts_set 13 (fun _ => false) (FV [.pointer (some ⟨q, 0, none⟩), .int .i64 3, .pointer (some ⟨q, 0, none⟩), .int .i64 3, .pointer (some ⟨q, 0, none⟩), .pointer (some ⟨q, 2, none⟩), .pointer (some ⟨q, 14, none⟩), .pointer (some ⟨q, 14, none⟩), (rg 3).val, .int .i64 k, ((rg 3).put (k : Int)).val, .pointer (some ⟨q, 0, none⟩), .pointer (some ⟨q, 2, none⟩)]) (fun _ x => Below w4.heap.size w4 x) (fun _ x y => x.heap.size ≤ y.heap.size) [31, 32, 33, 34, 35, 36, 37, 38, 39, 40, 41, 42, 43] (by kernel_rfl) (by kernel_rfl) (by kernel_rfl) (by decide) (by kernel_rfl) (by kernel_rfl) (fun _ _ _ _ _ _ h _ => h) (fun _ _ _ h => h) hs0 ?_ ?_
  · intro fr hfr
    have f0 : fr.getD 0 undef = .pointer (some ⟨q, 0, none⟩) := by rw [hfr]; rfl
    have f4 : fr.getD 4 undef = .int .i64 3 := by rw [hfr]; rfl
    have f5 : fr.getD 5 undef = .int .i64 k := by rw [hfr]; rfl
    clear hfr
    iterate 13
      refine ⟨⟨by first | trivial | exact ⟨rfl, fun _ _ h => h⟩, ?_⟩, ?_⟩
      · intro ρ w' p hp hdq hρ hd hSt
        simp only [DepF, Region.binds, List.getD_cons_zero, List.getD_cons_succ, FV, forall_const, and_true, true_and] at hd
        have hcon := hρ.con
        (have e0 := (hρ.slot 0 (by kernel_rfl)).trans f0; have e4 := (hρ.slot 4 (by kernel_rfl)).trans f4; have e5 := (hρ.slot 5 (by kernel_rfl)).trans f5)
        (have eb := (hB4.below hSt hB4.lt).cell; unfold rCells at eb; have hpu := bput_any (rg 3) k w' hbok; unfold Bits.val at hpu; (try unfold Bits.val at hd))
        (try rw [execOp_call_fn _ _ _ _ _ _ _ _ _ (hρ.fn _)])
        go_simp
        (try simp only [GoodQ, FV, List.getD_cons_zero, List.getD_cons_succ])
        first
          | exact ⟨rfl, Nat.le_refl _, fun h => absurd h (by decide), hSt⟩
          | exact ⟨trivial, Nat.le_refl _, fun h => absurd h (by decide), hSt⟩
          | (refine hpu.mono ?_; rintro e w'' ⟨rfl, hx⟩; exact ⟨_, rfl, rfl, hx.size, fun h => absurd h (by decide), hSt.trans (Below.mono hx hSt.size)⟩)
    trivial
  · intro vs w5 hSt hF _
    have h0 : vs 12 = .pointer (some ⟨q, 2, none⟩) := hF 12 (by decide)
    have h1 : vs 1 = .int .i64 3 := hF 1 (by decide)
    have h10 : vs 10 = ((rg 3).put (k : Int)).val := hF 10 (by decide)
    unfold Bits.val at h10
    have hB5 := hB4.below hSt hB4.lt
    have hT5 := hT4.below hSt hT4.lt
    have hC5 := hC4.below hSt
    have hk5 : Chg (fun g => g = q ∨ g = tb ∨ g = nb) w w5 := hk4.trans (Chg.of_same hSt (fun g => g = q ∨ g = tb ∨ g = nb)) (fun _ _ e => e)
    have e1 := hB5.cell
    unfold rCells at e1
    have e2 := hB5.frozen
    have e3 := hB5.lt
    obtain ⟨wa, hwa, hBa, hka⟩ := ring_put hB5 3 hl ((rg 3).put (k : Int))
    simp only [Nat.reduceMul, Nat.reduceAdd] at hwa
    have fin : PutOk w wa q tb c nb P b B s rg n cas t i j := by
      have hpm : (s.L j ++ [i]).Perm (i :: s.L j) := List.perm_append_singleton _ _
      refine ⟨⟨_, _, ⟨hBa, hT5.chg hka (fun e => hqt e.symm), hC5.chg hka (fun e => hcq e.symm) (fun e => hqn e.symm), ?_, hok.ins z.pos hi ho ht.1 hj.out hpm (fun e => by omega)⟩, hpm, fun _ => rfl⟩, hk5.trans hka (fun _ _ e => .inl e)⟩
      exact ring_ins hbusy z.le hk hjk.out (by simp)
    clear hF hSt hs0 hB4 hT4 hC4 hk4 hB5 hT5 hC5 hk5 hBa hka
    simp only [setAll, List.setIfInBounds_toArray, List.set_cons_zero, List.set_cons_succ, Nat.reduceAdd]
    rw [h0, h1, h10]
    simp only [List.drop_succ_cons, List.drop_zero]
    clear h0 h1 h10
    go_wp2_with fail
    rw [← hwa]
    go_end0
    exact ⟨rfl, fin⟩
theorem slotI_lev {B : Nat} (_hB : 0 < B) {base a : Int} {l : Nat} (hl : l < 4) (h : lev (B : Int) base a = l) : slotI (B : Int) base a = ((dig (B : Int) a l).toNat : Nat) := by
  have hd := dig_in (B := (B : Int)) (by omega) a l
  unfold slotI
  rw [h, if_neg (by omega), Int.toNat_natCast]
  omega
theorem rput_ok (q tb c nb P b B i : Nat) (s : HSt) (rg : Nat → Bits) (n cas : Int) (t : Timer) (w : World) (h : RM w q tb c nb P b B s rg n cas) (z : RSz P b B) (hb : U64 s.base) (ht : U64 t.at_) (hi : i < P) (ho : s.inn i = none) (hp : Hid (t.place = i)) :
    Calls Tryz.prog 53 #[.pointer (some ⟨q, 0, none⟩), t.val] w fun e w' => e = .returned (.tuple #[]) ∧ PutOk w w' q tb c nb P b B s rg n cas t i (hslot B s.base t) := by
  rcases lev_in (B : Int) s.base t.at_ with e | e | e | e | e | e
  · exact rput_ready q tb c nb P b B i _ s rg n cas t w h z hb ht hi ho hp (Lib.hid rfl) (Lib.hid e)
  · exact rput_slot0 q tb c nb P b B i _ _ s rg n cas t w h z hb ht hi ho hp (Lib.hid rfl) (Lib.hid e) (Lib.hid (slotI_lev z.pos (l := 0) (by omega) e)) (dig_lt z.pos _ _) (Lib.hid (hslot_lev (l := 0) (by omega) e))
  · exact rput_slot1 q tb c nb P b B i _ _ s rg n cas t w h z hb ht hi ho hp (Lib.hid rfl) (Lib.hid e) (Lib.hid (slotI_lev z.pos (l := 1) (by omega) e)) (dig_lt z.pos _ _) (Lib.hid (hslot_lev (l := 1) (by omega) e))
  · exact rput_slot2 q tb c nb P b B i _ _ s rg n cas t w h z hb ht hi ho hp (Lib.hid rfl) (Lib.hid e) (Lib.hid (slotI_lev z.pos (l := 2) (by omega) e)) (dig_lt z.pos _ _) (Lib.hid (hslot_lev (l := 2) (by omega) e))
  · exact rput_slot3 q tb c nb P b B i _ _ s rg n cas t w h z hb ht hi ho hp (Lib.hid rfl) (Lib.hid e) (Lib.hid (slotI_lev z.pos (l := 3) (by omega) e)) (dig_lt z.pos _ _) (Lib.hid (hslot_lev (l := 3) (by omega) e))
  · exact rput_kept q tb c nb P b B i _ s rg n cas t w h z hb ht hi ho hp (Lib.hid rfl) (Lib.hid e)
end Go.Proofs.YtckkfbepclogcaaGreatDoor
namespace Go.Proofs.YtckkfbepclogcaaGreatDoor
open Go.RowKit
section
variable {w : World} {q tb c nb P b B : Nat} {s : HSt} {rg : Nat → Bits} {n cas : Int}
theorem RM.setn (h : RM w q tb c nb P b B s rg n cas) (n' : Int) : RM (w.setCell ⟨q, 20, none⟩ (.int .i64 n')) q tb c nb P b B s rg n' cas ∧ Chg (fun g => g = q) w (w.setCell ⟨q, 20, none⟩ (.int .i64 n')) := by
  have k : Chg (fun g => g = q) w (w.setCell ⟨q, 20, none⟩ (.int .i64 n')) := (Chg.refl (fun g => g = q) w).setCell (fun _ => rfl) _
  exact ⟨⟨h.blk.put 20 _, h.tms.chg k (fun e => h.qtb e.symm), h.ch.chg k (fun e => h.qc e.symm) (fun e => h.qnb e.symm), h.busy, h.ok⟩, k⟩
theorem RM.setcas (h : RM w q tb c nb P b B s rg n cas) (n' : Int) : RM (w.setCell ⟨q, 21, none⟩ (.int .i64 n')) q tb c nb P b B s rg n n' ∧ Chg (fun g => g = q) w (w.setCell ⟨q, 21, none⟩ (.int .i64 n')) := by
  have k : Chg (fun g => g = q) w (w.setCell ⟨q, 21, none⟩ (.int .i64 n')) := (Chg.refl (fun g => g = q) w).setCell (fun _ => rfl) _
  exact ⟨⟨h.blk.put 21 _, h.tms.chg k (fun e => h.qtb e.symm), h.ch.chg k (fun e => h.qc e.symm) (fun e => h.qnb e.symm), h.busy, h.ok⟩, k⟩
end
set_option maxRecDepth 100000 in
set_option maxHeartbeats 2000000 in
theorem vins_bad (q tb c nb P b B : Nat) (s : HSt) (rg : Nat → Bits) (n cas : Int) (t : Timer) (w : World) (h : RM w q tb c nb P b B s rg n cas) (z : RSz P b B) (hq : t.place < 0 ∨ (P : Int) ≤ t.place) :
    Calls Tryz.prog 30 #[.pointer (some ⟨q, 0, none⟩), t.val] w fun e w' => e = .returned (.int .i64 1) ∧ Below w.heap.size w w' := by
  by_cases h0 : t.place < 0
  · clear hq
    have hP := z.hP
    have hB64 := z.le
    have hb0 : Below w.heap.size w (w.alloc (.cells #[.int .u64 t.at_, .int .u64 t.seq, .int .i64 t.place] 37)) := (Below.refl _ _).alloc (Nat.le_refl _) _
    have q0 : Blk (w.alloc (.cells #[.int .u64 t.at_, .int .u64 t.seq, .int .i64 t.place] 37)) w.heap.size 37 #[.int .u64 t.at_, .int .u64 t.seq, .int .i64 t.place] := Blk.new _ _ _
    obtain ⟨hqw, htw, hcw, hnw⟩ := h.lts
    have h1 := h.below hb0
    clear h
    have hc := h1.blk.cell
    unfold rCells at hc
    have hq0 := q0.cell
    unfold Timer.val
    go_enter Tryz.func30, Tryz.ntmps30
    go_upto_region 1 with fail
    generalize w.alloc (.cells #[.int .u64 t.at_, .int .u64 t.seq, .int .i64 t.place] 37) = w1 at *
    have hmix : Tryz.prog.follows .mixedOrders = true := by kernel_rfl
    have HB := Lib.hid hb0.drew
    clear h1 q0 hb0
    go_big_region_o
    go_wp2_with fail
    go_ret
    exact ⟨rfl, HB.out⟩
  · have hge : (P : Int) ≤ t.place := by omega
    clear hq
    have hP := z.hP
    have hB64 := z.le
    have hb0 : Below w.heap.size w (w.alloc (.cells #[.int .u64 t.at_, .int .u64 t.seq, .int .i64 t.place] 37)) := (Below.refl _ _).alloc (Nat.le_refl _) _
    have q0 : Blk (w.alloc (.cells #[.int .u64 t.at_, .int .u64 t.seq, .int .i64 t.place] 37)) w.heap.size 37 #[.int .u64 t.at_, .int .u64 t.seq, .int .i64 t.place] := Blk.new _ _ _
    obtain ⟨hqw, htw, hcw, hnw⟩ := h.lts
    have h1 := h.below hb0
    clear h
    have hc := h1.blk.cell
    unfold rCells at hc
    have hq0 := q0.cell
    unfold Timer.val
    go_enter Tryz.func30, Tryz.ntmps30
    go_upto_region 1 with fail
    generalize w.alloc (.cells #[.int .u64 t.at_, .int .u64 t.seq, .int .i64 t.place] 37) = w1 at *
    have HB := Lib.hid hb0.drew
    clear h1 q0 hb0
    refine still_all (by kernel_rfl) (by kernel_rfl) ?_
    repeat still_step
    refine wpStill_nil ?_
    go_wp2_with fail
    go_ret
    exact ⟨rfl, HB.out⟩
set_option maxRecDepth 100000 in
set_option maxHeartbeats 2000000 in
theorem vins_twice (q tb c nb P b B i j : Nat) (s : HSt) (rg : Nat → Bits) (n cas : Int) (t : Timer) (w : World) (h : RM w q tb c nb P b B s rg n cas) (z : RSz P b B) (hi : i < P) (hp : Hid (t.place = i)) (ho : s.inn i = some j) :
    Calls Tryz.prog 30 #[.pointer (some ⟨q, 0, none⟩), t.val] w fun e w' => e = .returned (.int .i64 4) ∧ Below w.heap.size w w' := by
  have g0 : ¬ t.place < 0 := by have := hp.out; omega
  have g1 : ¬ (P : Int) ≤ t.place := by have := hp.out; omega
  have hP := z.hP
  have hB64 := z.le
  have hb0 : Below w.heap.size w (w.alloc (.cells #[.int .u64 t.at_, .int .u64 t.seq, .int .i64 t.place] 37)) := (Below.refl _ _).alloc (Nat.le_refl _) _
  have q0 : Blk (w.alloc (.cells #[.int .u64 t.at_, .int .u64 t.seq, .int .i64 t.place] 37)) w.heap.size 37 #[.int .u64 t.at_, .int .u64 t.seq, .int .i64 t.place] := Blk.new _ _ _
  obtain ⟨hqw, htw, hcw, hnw⟩ := h.lts
  have h1 := h.below hb0
  clear h
  have hc := h1.blk.cell
  unfold rCells at hc
  have hq0 := q0.cell
  unfold Timer.val
  go_enter Tryz.func30, Tryz.ntmps30
  go_upto_region 1 with fail
  generalize w.alloc (.cells #[.int .u64 t.at_, .int .u64 t.seq, .int .i64 t.place] 37) = w1 at *
  refine still_all (by kernel_rfl) (by kernel_rfl) ?_
  repeat still_step
  refine wpStill_nil ?_
  have h2 := h1.drew
  have q2 := q0.drew
  have hb2 := hb0.drew
  clear h1 q0 hb0 hc hq0
  generalize w1.drew = w2 at *
  have hwh := cwhich_any c nb P (4 * B + 2) s.inn s.L t.place w2.drew h2.ch.drew (by omega)
  have hc := h2.blk.drew.cell
  unfold rCells at hc
  have hq0 := q2.drew.cell
  have hwo : whichO P s.inn t.place = some ((j : Nat) : Int) := by rw [hp.out]; simp [whichO, cin_of hi, ho]
  rw [hwo] at hwh
  unfold pairV at hwh
  have HB := Lib.hid hb2.drew
  clear h2 q2 hb2 hwo
  go_upto_region 3 with fail
  refine still_all (by kernel_rfl) (by kernel_rfl) ?_
  iterate 6 still_step
  still_call (flip hwh)
  repeat still_step
  refine wpStill_nil ?_
  go_wp2_with fail
  go_ret
  exact ⟨rfl, HB.out⟩
set_option maxRecDepth 100000 in
set_option maxHeartbeats 2000000 in
theorem vins_ok (q tb c nb P b B i : Nat) (s : HSt) (rg : Nat → Bits) (n cas : Int) (t : Timer) (w : World) (h : RM w q tb c nb P b B s rg n cas) (z : RSz P b B) (hn : 0 ≤ n ∧ n ≤ 100000) (hb : U64 s.base) (ht : U64 t.at_) (hi : i < P) (hp : Hid (t.place = i)) (ho : s.inn i = none) :
    Calls Tryz.prog 30 #[.pointer (some ⟨q, 0, none⟩), t.val] w fun e w' => e = .returned (.int .i64 0) ∧ PutOk w w' q tb c nb P b B s rg (n + 1) cas t i (hslot B s.base t) := by
  have g0 : ¬ t.place < 0 := by have := hp.out; omega
  have g1 : ¬ (P : Int) ≤ t.place := by have := hp.out; omega
  have hP := z.hP
  have hB64 := z.le
  have hb0 : Below w.heap.size w (w.alloc (.cells #[.int .u64 t.at_, .int .u64 t.seq, .int .i64 t.place] 37)) := (Below.refl _ _).alloc (Nat.le_refl _) _
  have q0 : Blk (w.alloc (.cells #[.int .u64 t.at_, .int .u64 t.seq, .int .i64 t.place] 37)) w.heap.size 37 #[.int .u64 t.at_, .int .u64 t.seq, .int .i64 t.place] := Blk.new _ _ _
  obtain ⟨hqw, htw, hcw, hnw⟩ := h.lts
  have h1 := h.below hb0
  clear h
  have hc := h1.blk.cell
  unfold rCells at hc
  have hq0 := q0.cell
  unfold Timer.val
  go_enter Tryz.func30, Tryz.ntmps30
  go_upto_region 1 with fail
  generalize w.alloc (.cells #[.int .u64 t.at_, .int .u64 t.seq, .int .i64 t.place] 37) = w1 at *
  refine still_all (by kernel_rfl) (by kernel_rfl) ?_
  repeat still_step
  refine wpStill_nil ?_
  have h2 := h1.drew
  have q2 := q0.drew
  have hb2 := hb0.drew
  clear h1 q0 hb0 hc hq0
  generalize w1.drew = w2 at *
  have hwh := cwhich_any c nb P (4 * B + 2) s.inn s.L t.place w2.drew h2.ch.drew (by omega)
  have hc := h2.blk.drew.cell
  unfold rCells at hc
  have hq0 := q2.drew.cell
  have hwo : whichO P s.inn t.place = none := by rw [hp.out]; simp [whichO, cin_of hi, ho]
  rw [hwo] at hwh
  unfold pairV at hwh
  have hpu := rput_ok q tb c nb P b B i s rg n cas t w2.drew h2.drew z hb ht hi ho hp
  unfold Timer.val at hpu
  have hb3 := hb2.drew
  have hwn : IntKind.i64.wrap (n + 1) = n + 1 := IntWalk.i64_in _ (by omega)
  clear h2 q2 hb2 hwo
  go_upto_region 3 with fail
  refine still_all (by kernel_rfl) (by kernel_rfl) ?_
  iterate 6 still_step
  still_call (flip hwh)
  repeat still_step
  refine wpStill_nil ?_
  go_wp2_with fail
  refine hpu.mono ?_
  rintro e w4 ⟨rfl, ⟨l', rg', h4, p1, p2⟩, hk4⟩
  obtain ⟨h5, k5⟩ := h4.setn (n + 1)
  have e1 := h4.blk.cell
  unfold rCells at e1
  have e2 := h4.blk.frozen
  have e3 := h4.blk.lt
  have fin : PutOk w (w4.setCell ⟨q, 20, none⟩ (.int .i64 (n + 1))) q tb c nb P b B s rg (n + 1) cas t i (hslot B s.base t) := by
    refine ⟨⟨l', rg', h5, p1, p2⟩, ?_⟩
    exact ((Chg.of_same hb3 (fun g => g = q ∨ g = tb ∨ g = nb)).trans hk4 (fun _ _ e => e)).trans k5 (fun _ _ e => .inl e)
  clear hwh hpu hb3 h4 p1 p2 hk4 h5 k5 hc hq0
  go_wp2_with fail
  go_ret
  exact ⟨rfl, fin⟩
end Go.Proofs.YtckkfbepclogcaaGreatDoor
namespace Go.Proofs.YtckkfbepclogcaaGreatDoor
open Go.RowKit
set_option maxRecDepth 100000 in
set_option maxHeartbeats 2000000 in
theorem vcan_bad (q tb c nb P b B : Nat) (s : HSt) (rg : Nat → Bits) (n cas : Int) (p : Int) (w : World) (h : RM w q tb c nb P b B s rg n cas) (z : RSz P b B) (hq : p < 0 ∨ (P : Int) ≤ p) :
    Calls Tryz.prog 32 #[.pointer (some ⟨q, 0, none⟩), .int .i64 p] w fun e w' => e = .returned (teV Timer.zero 1) ∧ Below w.heap.size w w' := by
  by_cases h0 : p < 0
  · skip
    have hP := z.hP
    have hB64 := z.le
    have hb0 : Below w.heap.size w (w.alloc (.cells #[.int .u64 0, .int .u64 0, .int .i64 0] 37)) := (Below.refl _ _).alloc (Nat.le_refl _) _
    have HB0 := Lib.hid (show ∀ cs, Below w.heap.size w (w.alloc (.cells cs 37)) from fun cs => (Below.refl _ _).alloc (Nat.le_refl _) _)
    have q0 : Blk (w.alloc (.cells #[.int .u64 0, .int .u64 0, .int .i64 0] 37)) w.heap.size 37 #[.int .u64 0, .int .u64 0, .int .i64 0] := Blk.new _ _ _
    obtain ⟨hqw, htw, hcw, hnw⟩ := h.lts
    have h1 := h.below hb0
    clear h
    have hc := h1.blk.cell
    unfold rCells at hc
    clear h1 q0 hb0
    go_enter Tryz.func32, Tryz.ntmps32
    go_wp2_with fail
    refine bodyPost_ret (v := teV Timer.zero 1) (by simp [results, Tryz.results32, go_sem, teV, Timer.val, Timer.zero]) rfl ⟨rfl, ?_⟩
    first | exact HB0.out _ | exact (((HB0.out _).setCell (Nat.le_refl _) _).setCell (Nat.le_refl _) _).setCell (Nat.le_refl _) _
  · have hge : (P : Int) ≤ p := by omega
    have hP := z.hP
    have hB64 := z.le
    have hb0 : Below w.heap.size w (w.alloc (.cells #[.int .u64 0, .int .u64 0, .int .i64 0] 37)) := (Below.refl _ _).alloc (Nat.le_refl _) _
    have HB0 := Lib.hid (show ∀ cs, Below w.heap.size w (w.alloc (.cells cs 37)) from fun cs => (Below.refl _ _).alloc (Nat.le_refl _) _)
    have q0 : Blk (w.alloc (.cells #[.int .u64 0, .int .u64 0, .int .i64 0] 37)) w.heap.size 37 #[.int .u64 0, .int .u64 0, .int .i64 0] := Blk.new _ _ _
    obtain ⟨hqw, htw, hcw, hnw⟩ := h.lts
    have h1 := h.below hb0
    clear h
    have hc := h1.blk.cell
    unfold rCells at hc
    clear h1 q0 hb0
    go_enter Tryz.func32, Tryz.ntmps32
    go_wp2_with fail
    refine bodyPost_ret (v := teV Timer.zero 1) (by simp [results, Tryz.results32, go_sem, teV, Timer.val, Timer.zero]) rfl ⟨rfl, ?_⟩
    first | exact HB0.out _ | exact (((HB0.out _).setCell (Nat.le_refl _) _).setCell (Nat.le_refl _) _).setCell (Nat.le_refl _) _
set_option maxRecDepth 100000 in
set_option maxHeartbeats 2000000 in
theorem vcan_none (q tb c nb P b B i : Nat) (s : HSt) (rg : Nat → Bits) (n cas : Int) (w : World) (h : RM w q tb c nb P b B s rg n cas) (z : RSz P b B) (hi : i < P) (ho : s.inn i = none) :
    Calls Tryz.prog 32 #[.pointer (some ⟨q, 0, none⟩), .int .i64 i] w fun e w' => e = .returned (teV Timer.zero 5) ∧ Below w.heap.size w w' := by
  have hP := z.hP
  have hB64 := z.le
  have hb0 : Below w.heap.size w (w.alloc (.cells #[.int .u64 0, .int .u64 0, .int .i64 0] 37)) := (Below.refl _ _).alloc (Nat.le_refl _) _
  have HB0 := Lib.hid (show ∀ cs, Below w.heap.size w (w.alloc (.cells cs 37)) from fun cs => (Below.refl _ _).alloc (Nat.le_refl _) _)
  have q0 : Blk (w.alloc (.cells #[.int .u64 0, .int .u64 0, .int .i64 0] 37)) w.heap.size 37 #[.int .u64 0, .int .u64 0, .int .i64 0] := Blk.new _ _ _
  obtain ⟨hqw, htw, hcw, hnw⟩ := h.lts
  have h1 := h.below hb0
  clear h
  have hc := h1.blk.cell
  unfold rCells at hc
  have hg := rget_in q tb c nb P b B s rg n cas i _ h1 z
  have ha : atW P s i = none := by
    unfold atW
    exact atP_off (by rw [Int.toNat_natCast, HSt.on_none ho]; simp)
  rw [ha] at hg
  unfold pairT at hg
  simp only [Option.getD_none, Option.isSome_none] at hg
  unfold Timer.val Timer.zero at hg
  clear ha
  go_enter Tryz.func32, Tryz.ntmps32
  go_wp2_with fail
  refine hg.mono ?_
  rintro e w2 ⟨rfl, hx⟩
  have q2 := q0.below hx q0.lt
  have hb2 := hb0.trans (Below.mono hx hb0.size)
  have hs0 := hb0.size
  have hs2 := hx.size
  have c3 := q2.cell
  have z3 := q2.frozen
  have l3 := q2.lt
  have HB := Lib.hid (show ∀ a b c o, Below w.heap.size w ((((w2.setCell ⟨w.heap.size, 0, none⟩ a).setCell ⟨w.heap.size, 1, none⟩ b).setCell ⟨w.heap.size, 2, none⟩ c).alloc o) from fun _ _ _ _ => (((hb2.setCell (Nat.le_refl _) _).setCell (Nat.le_refl _) _).setCell (Nat.le_refl _) _).alloc (by simp [World.setCell]; omega) _)
  have hs3 := fun a b c o i => ((((q2.put 0 a).put 1 b).put 2 c).alloc o).cell i
  clear hg hx hb0 q0 q2 hb2 hc h1 hs0 hs2
  go_wp2_with fail
  refine bodyPost_ret (v := teV Timer.zero 5) (by simp [results, Tryz.results32, go_sem, teV, Timer.val, Timer.zero, hs3]) rfl ⟨rfl, HB.out _ _ _ _⟩
set_option maxRecDepth 100000 in
set_option maxHeartbeats 2000000 in
theorem vcan_ok (q tb c nb P b B i j : Nat) (s : HSt) (rg : Nat → Bits) (n cas : Int) (w : World) (h : RM w q tb c nb P b B s rg n cas) (z : RSz P b B) (hn : 0 ≤ n ∧ n ≤ 100000) (hi : i < P) (ho : s.inn i = some j) :
    Calls Tryz.prog 32 #[.pointer (some ⟨q, 0, none⟩), .int .i64 i] w fun e w' => e = .returned (teV (s.tm i) 0) ∧ (∃ rg', RM w' q tb c nb P b B (s.del i j) rg' (n - 1) cas) ∧ Chg (fun g => g = q ∨ g = nb) w w' := by
  have g0 : ¬ (i : Int) < 0 := by omega
  have g1 : ¬ (P : Int) ≤ i := by omega
  have hP := z.hP
  have hB64 := z.le
  have hb0 : Below w.heap.size w (w.alloc (.cells #[.int .u64 0, .int .u64 0, .int .i64 0] 37)) := (Below.refl _ _).alloc (Nat.le_refl _) _
  have HB0 := Lib.hid (show ∀ cs, Below w.heap.size w (w.alloc (.cells cs 37)) from fun cs => (Below.refl _ _).alloc (Nat.le_refl _) _)
  have q0 : Blk (w.alloc (.cells #[.int .u64 0, .int .u64 0, .int .i64 0] 37)) w.heap.size 37 #[.int .u64 0, .int .u64 0, .int .i64 0] := Blk.new _ _ _
  obtain ⟨hqw, htw, hcw, hnw⟩ := h.lts
  have h1 := h.below hb0
  clear h
  have hc := h1.blk.cell
  unfold rCells at hc
  have hg := rget_in q tb c nb P b B s rg n cas i _ h1 z
  have ha : atW P s i = some (s.tm i) := by
    unfold atW
    rw [atP_on (by omega) (by rw [Int.toNat_natCast]; exact HSt.on_some ho), Int.toNat_natCast]
  rw [ha] at hg
  unfold pairT at hg
  simp only [Option.getD_some, Option.isSome_some] at hg
  unfold Timer.val at hg
  have hwn : IntKind.i64.wrap (n - 1) = n - 1 := IntWalk.i64_in _ (by omega)
  unfold teV Timer.val
  generalize s.tm i = x at *
  clear ha
  go_enter Tryz.func32, Tryz.ntmps32
  go_wp2_with fail
  refine hg.mono ?_
  rintro e w2 ⟨rfl, hx⟩
  have h3 := (h1.below hx).below (alloc_kept' w2 (.cells #[.int .u64 x.at_, .int .u64 x.seq, .int .i64 x.place] 37))
  have hs0 := hb0.size
  have hs2 := hx.size
  have q3 := (q0.below hx q0.lt).alloc (.cells #[.int .u64 x.at_, .int .u64 x.seq, .int .i64 x.place] 37)
  have b3 := Blk.new w2 37 #[.int .u64 x.at_, .int .u64 x.seq, .int .i64 x.place]
  have k3 : Chg (fun g => g = q ∨ g = nb) w (w2.alloc (.cells #[.int .u64 x.at_, .int .u64 x.seq, .int .i64 x.place] 37)) := Chg.of_same ((hb0.trans (Below.mono hx hb0.size)).alloc (by omega) _) _
  have hw2 : w.heap.size < w2.heap.size := by simp at hs2; omega
  have hdr := rdrop_ok q tb c nb P b B i j s rg n cas _ h3 z hi ho
  clear hg hx hb0 q0 hc h1 h3
  go_wp2_with fail
  refine hdr.mono ?_
  rintro e w4 ⟨rfl, ⟨rg', h4⟩, hk4⟩
  have q4 := q3.chg hk4 (fun e => by rcases e with e | e <;> omega)
  have b4 := b3.chg hk4 (fun e => by rcases e with e | e <;> omega)
  have k4 := k3.trans hk4 (fun _ _ e => e)
  obtain ⟨h5, k5⟩ := h4.setn (n - 1)
  have q5 := q4.chg k5 (fun e => by omega)
  have b5 := b4.chg k5 (fun e => by omega)
  have e1 := h4.blk.cell
  unfold rCells at e1
  have e2 := h4.blk.frozen
  have e3 := h4.blk.lt
  have e4 := q4.cell
  have e5 := q4.frozen
  have e6 := q4.lt
  have e7 := b4.cell
  have e8 := b4.lt
  have fin : ∀ w9 x0 x1 x2, w9 = (((w4.setCell ⟨q, 20, none⟩ (.int .i64 (n - 1))).setCell ⟨w.heap.size, 0, none⟩ x0).setCell ⟨w.heap.size, 1, none⟩ x1).setCell ⟨w.heap.size, 2, none⟩ x2 →
      (∃ rg', RM w9 q tb c nb P b B (s.del i j) rg' (n - 1) cas) ∧ Chg (fun g => g = q ∨ g = nb) w w9 ∧ (∀ k, w9.cell? ⟨w.heap.size, k, none⟩ = (#[x0, x1, x2] : Array Value)[k]?) := by
    rintro w9 x0 x1 x2 rfl
    have hkk : Chg (fun g => g = w.heap.size) (w4.setCell ⟨q, 20, none⟩ (.int .i64 (n - 1))) ((((w4.setCell ⟨q, 20, none⟩ (.int .i64 (n - 1))).setCell ⟨w.heap.size, 0, none⟩ x0).setCell ⟨w.heap.size, 1, none⟩ x1).setCell ⟨w.heap.size, 2, none⟩ x2) :=
      (((Chg.refl (fun g => g = w.heap.size) _).setCell (fun _ => rfl) _).setCell (fun _ => rfl) _).setCell (fun _ => rfl) _
    refine ⟨⟨rg', h5.chg hkk (show ¬ q = w.heap.size by omega) (show ¬ tb = w.heap.size by omega) (show ¬ c = w.heap.size by omega) (show ¬ nb = w.heap.size by omega)⟩, (k4.trans k5 (fun _ _ e => .inl e)).trans hkk (fun k hk e => by have e' : k = w.heap.size := e; omega), ?_⟩
    exact (((q5.put 0 x0).put 1 x1).put 2 x2).cell
  clear hdr q3 b3 k3 hk4 q4 b4 k4 h4 h5 k5 q5 b5
  go_wp2_with fail
  obtain ⟨f1, f2, f3⟩ := fin _ _ _ _ rfl
  refine bodyPost_ret (v := teV x 0) (by simp [results, Tryz.results32, go_sem, teV, Timer.val, f3]) rfl ⟨rfl, f1, f2⟩
end Go.Proofs.YtckkfbepclogcaaGreatDoor
namespace Go.Proofs.YtckkfbepclogcaaGreatDoor
open Go.RowKit
/-- The wheel at q: m is what pends, in order. -/
structure RQ (w : World) (q tb c nb P b B : Nat) (base cas : Int) (m : List Timer) : Prop where
  ex : ∃ s rg, RM w q tb c nb P b B s rg m.length cas ∧ PRel P s.on s.tm m ∧ s.base = base
section
variable {w w' : World} {q tb c nb P b B : Nat} {base cas : Int} {m : List Timer}
theorem RQ.below (h : RQ w q tb c nb P b B base cas m) (k : Below w.heap.size w w') : RQ w' q tb c nb P b B base cas m := by
  obtain ⟨s, rg, h1, h2, h3⟩ := h.ex
  exact ⟨s, rg, h1.below k, h2, h3⟩
theorem RQ.drew (h : RQ w q tb c nb P b B base cas m) : RQ w.drew q tb c nb P b B base cas m := by
  obtain ⟨s, rg, h1, h2, h3⟩ := h.ex
  exact ⟨s, rg, h1.drew, h2, h3⟩
theorem RQ.chg {T : Nat → Prop} (h : RQ w q tb c nb P b B base cas m) (k : Chg T w w') (h1 : ¬ T q) (h2 : ¬ T tb) (h3 : ¬ T c) (h4 : ¬ T nb) : RQ w' q tb c nb P b B base cas m := by
  obtain ⟨s, rg, g1, g2, g3⟩ := h.ex
  exact ⟨s, rg, g1.chg k h1 h2 h3 h4, g2, g3⟩
theorem RQ.len (h : RQ w q tb c nb P b B base cas m) : m.length ≤ P := by
  obtain ⟨s, rg, h1, h2, h3⟩ := h.ex
  exact h2.len_le
theorem RQ.srt (h : RQ w q tb c nb P b B base cas m) : Srt m := by
  obtain ⟨s, rg, h1, h2, h3⟩ := h.ex
  exact h2.srt
theorem RQ.lts (h : RQ w q tb c nb P b B base cas m) : q < w.heap.size ∧ tb < w.heap.size ∧ c < w.heap.size ∧ nb < w.heap.size := by
  obtain ⟨s, rg, h1, h2, h3⟩ := h.ex
  exact h1.lts
end
theorem vq_ins (q tb c nb P b B : Nat) (base cas : Int) (m : List Timer) (t : Timer) (w : World) (h : RQ w q tb c nb P b B base cas m) (z : RSz P b B) (hb : U64 base) (ht : U64 t.at_) :
    Calls Tryz.prog 30 #[.pointer (some ⟨q, 0, none⟩), t.val] w fun e w' => e = .returned (.int .i64 (insC P m t)) ∧ RQ w' q tb c nb P b B base cas (insL P m t) ∧ Chg (HS q tb nb) w w' := by
  obtain ⟨s, rg, hm, hp, rfl⟩ := h.ex
  have hC := hp.insC t
  have hmn := hp.len_le
  have hP := z.hP
  by_cases ho : t.place < 0 ∨ (P : Int) ≤ t.place
  · rw [if_pos ho] at hC
    have hL : insL P m t = m := by unfold insL; rw [hC]; rfl
    rw [hC, hL]
    refine (vins_bad q tb c nb P b B s rg _ cas t w hm z ho).mono ?_
    rintro e w' ⟨rfl, hx⟩
    exact ⟨rfl, h.below hx, Chg.of_same hx _⟩
  · rw [if_neg ho] at hC
    obtain ⟨i, hi⟩ : ∃ i : Nat, t.place = i := ⟨t.place.toNat, by omega⟩
    have hiP : i < P := by omega
    rw [hi, Int.toNat_natCast] at hC
    cases hj : s.inn i with
    | some k =>
      rw [if_pos (HSt.on_some hj)] at hC
      have hL : insL P m t = m := by unfold insL; rw [hC]; rfl
      rw [hC, hL]
      refine (vins_twice q tb c nb P b B i k s rg _ cas t w hm z hiP (Lib.hid hi) hj).mono ?_
      rintro e w' ⟨rfl, hx⟩
      exact ⟨rfl, h.below hx, Chg.of_same hx _⟩
    | none =>
      rw [if_neg (by rw [HSt.on_none hj]; simp)] at hC
      have hL : insL P m t = putL m t := by unfold insL; rw [hC]; rfl
      rw [hC, hL]
      refine (vins_ok q tb c nb P b B i s rg _ cas t w hm z (by omega) hb ht hiP (Lib.hid hi) hj).mono ?_
      rintro e w' ⟨rfl, ⟨l', rg', hm', _, _⟩, hx⟩
      refine ⟨rfl, ⟨s.ins i (hslot B s.base t) l' t, rg', ?_, ?_, rfl⟩, hx⟩
      · rw [show ((putL m t).length : Int) = m.length + 1 by have := (putL_perm m t).length_eq; simp at this; omega]
        exact hm'
      · rw [HSt.on_ins]
        exact hp.put hiP (HSt.on_none hj) hi
theorem vq_can (q tb c nb P b B : Nat) (base cas : Int) (m : List Timer) (p : Int) (w : World) (h : RQ w q tb c nb P b B base cas m) (z : RSz P b B) :
    Calls Tryz.prog 32 #[.pointer (some ⟨q, 0, none⟩), .int .i64 p] w fun e w' => e = .returned (teV (canT P m p) (canC P m p)) ∧ RQ w' q tb c nb P b B base cas (canL P m p) ∧ Chg (HS q tb nb) w w' := by
  obtain ⟨s, rg, hm, hp, rfl⟩ := h.ex
  have hC := hp.canC p
  by_cases ho : p < 0 ∨ (P : Int) ≤ p
  · rw [if_pos ho] at hC
    have hL : canL P m p = m := by unfold canL; rw [hC]; rfl
    have hT : canT P m p = Timer.zero := by unfold canT; rw [hC]; rfl
    rw [hC, hL, hT]
    refine (vcan_bad q tb c nb P b B s rg _ cas p w hm z ho).mono ?_
    rintro e w' ⟨rfl, hx⟩
    exact ⟨rfl, h.below hx, Chg.of_same hx _⟩
  · rw [if_neg ho] at hC
    obtain ⟨i, rfl⟩ : ∃ i : Nat, p = i := ⟨p.toNat, by omega⟩
    have hiP : i < P := by omega
    rw [Int.toNat_natCast] at hC
    cases hj : s.inn i with
    | none =>
      rw [if_neg (by rw [HSt.on_none hj]; simp)] at hC
      have hL : canL P m i = m := by unfold canL; rw [hC]; rfl
      have hT : canT P m i = Timer.zero := by unfold canT; rw [hC]; rfl
      rw [hC, hL, hT]
      refine (vcan_none q tb c nb P b B i s rg _ cas w hm z hiP hj).mono ?_
      rintro e w' ⟨rfl, hx⟩
      exact ⟨rfl, h.below hx, Chg.of_same hx _⟩
    | some j =>
      have hon := HSt.on_some hj
      rw [if_pos hon] at hC
      have hL : canL P m i = withoutL m i := by unfold canL; rw [hC]; rfl
      rw [hC, hL, hp.canT hiP hon]
      have hmn := hp.len_le
      have hP := z.hP
      refine (vcan_ok q tb c nb P b B i j s rg _ cas w hm z (by omega) hiP hj).mono ?_
      rintro e w' ⟨rfl, ⟨rg', hm'⟩, hx⟩
      have hw : PRel P (s.del i j).on s.tm (withoutL m i) := by
        rw [HSt.on_del]
        exact hp.without hiP hon
      have hln : ((withoutL m i).length : Int) = m.length - 1 := by
        have e1 := hw.perm.length_eq
        have e2 := hp.perm.length_eq
        have e3 : (s.pend P).length = ((s.del i j).pend P).length + 1 := pend_del_len hiP hj
        unfold HSt.pend at e3
        have e4 : (pendL P (s.del i j).on (s.del i j).tm).length = (pendL P (s.del i j).on s.tm).length := rfl
        omega
      refine ⟨rfl, ⟨_, rg', ?_, hw, rfl⟩, hx.mono fun k _ e => ?_⟩
      · rw [hln]
        exact hm'
      · rcases e with e | e
        · exact .inl e
        · exact .inr (.inr e)
theorem vq_get (q tb c nb P b B : Nat) (base cas : Int) (m : List Timer) (p : Int) (w : World) (h : RQ w q tb c nb P b B base cas m) (z : RSz P b B) :
    Calls Tryz.prog 16 #[.pointer (some ⟨q, 0, none⟩), .int .i64 p] w fun e w' => e = .returned (pairT (getL m p)) ∧ Below w.heap.size w w' := by
  obtain ⟨s, rg, hm, hp, rfl⟩ := h.ex
  rw [hp.get]
  exact rget_in q tb c nb P b B s rg _ cas p w hm z
theorem vq_len (q tb c nb P b B : Nat) (base cas : Int) (m : List Timer) (w : World) (h : RQ w q tb c nb P b B base cas m) :
    Calls Tryz.prog 15 #[.pointer (some ⟨q, 0, none⟩)] w fun e w' => e = .returned (.int .i64 m.length) ∧ w = w' := by
  obtain ⟨s, rg, hm, hp, rfl⟩ := h.ex
  exact rlen_any q tb c nb P b B s rg _ cas w hm
theorem vq_base (q tb c nb P b B : Nat) (base cas : Int) (m : List Timer) (w : World) (h : RQ w q tb c nb P b B base cas m) :
    Calls Tryz.prog 13 #[.pointer (some ⟨q, 0, none⟩)] w fun e w' => e = .returned (.int .u64 base) ∧ w = w' := by
  obtain ⟨s, rg, hm, hp, rfl⟩ := h.ex
  exact rbase_any q tb c nb P b B s rg _ cas w hm
theorem vq_cas (q tb c nb P b B : Nat) (base cas : Int) (m : List Timer) (w : World) (h : RQ w q tb c nb P b B base cas m) :
    Calls Tryz.prog 14 #[.pointer (some ⟨q, 0, none⟩)] w fun e w' => e = .returned (.int .i64 cas) ∧ w = w' := by
  obtain ⟨s, rg, hm, hp, rfl⟩ := h.ex
  exact rcas_any q tb c nb P b B s rg _ cas w hm
set_option maxRecDepth 100000 in
theorem vq_all (q tb c nb P b B : Nat) (base cas : Int) (m : List Timer) (w : World) (h : RQ w q tb c nb P b B base cas m) (z : RSz P b B) :
    Calls Tryz.prog 21 #[.pointer (some ⟨q, 0, none⟩)] w fun e w' => ∃ v, e = .returned v ∧ OwnT w' w.heap.size v m ∧ Below w.heap.size w w' := by
  obtain ⟨s, rg, hm, hp, rfl⟩ := h.ex
  have hP := z.hP
  have hpe := rpending_any q tb c nb P b B s rg _ cas w hm z
  have hsort := hp.sort
  have hle : (s.pend P).length ≤ 1000000 := Nat.le_trans (pendL_le _ _ _) (by omega)
  clear h hm hp
  go_enter Tryz.func21, Tryz.ntmps21
  go_wp2_with fail
  refine hpe.mono ?_
  rintro e w1 ⟨v, rfl, ho, hx⟩
  have hs := osort_any v (s.pend P) w1 ho.lat hle
  rw [show sortL (s.pend P) = m from hsort] at hs
  clear hpe
  go_wp2_with fail
  refine hs.mono ?_
  rintro e w2 ⟨v2, rfl, ho2, hy⟩
  go_wp2_with fail
  go_ret
  exact ⟨_, rfl, ho2.mono hx.size, hx.trans (Below.mono hy hx.size)⟩
set_option maxRecDepth 100000 in
theorem vq_min (q tb c nb P b B : Nat) (base cas : Int) (m : List Timer) (w : World) (h : RQ w q tb c nb P b B base cas m) (z : RSz P b B) :
    Calls Tryz.prog 18 #[.pointer (some ⟨q, 0, none⟩)] w fun e w' => e = .returned (pairT m.head?) ∧ Below w.heap.size w w' := by
  obtain ⟨s, rg, hm, hp, rfl⟩ := h.ex
  have hP := z.hP
  have hb0 : Below w.heap.size w (w.alloc (.cells #[.int .u64 0, .int .u64 0, .int .i64 0] 37)) := (Below.refl _ _).alloc (Nat.le_refl _) _
  have q0 : Blk (w.alloc (.cells #[.int .u64 0, .int .u64 0, .int .i64 0] 37)) w.heap.size 37 #[.int .u64 0, .int .u64 0, .int .i64 0] := Blk.new _ _ _
  have hpe := rpending_any q tb c nb P b B s rg _ cas _ (hm.below hb0) z
  have hmin : firstL (s.pend P) = m.head? := hp.min
  have hle : (s.pend P).length ≤ 100000 := Nat.le_trans (pendL_le _ _ _) (by omega)
  clear h hm hp
  go_enter Tryz.func18, Tryz.ntmps18
  go_wp2_with fail
  refine hpe.mono ?_
  rintro e w1 ⟨v, rfl, ho, hx⟩
  have hs := tfirst_any v (s.pend P) w1 ho.lat hle
  rw [hmin] at hs
  have q1 := q0.below hx q0.lt
  have hb1 := hb0.trans (Below.mono hx hb0.size)
  clear hpe ho hx hb0 q0
  go_wp2_with fail
  refine hs.mono ?_
  rintro e w2 ⟨rfl, hy⟩
  have q2 := q1.below hy q1.lt
  have hb2 := hb1.trans (Below.mono hy hb1.size)
  have z2 := q2.frozen
  have c2 := q2.cell
  have l2 := q2.lt
  have hs3 := fun a b c i => (((q2.put 0 a).put 1 b).put 2 c).cell i
  have HB := Lib.hid (show ∀ a b c, Below w.heap.size w (((w2.setCell ⟨w.heap.size, 0, none⟩ a).setCell ⟨w.heap.size, 1, none⟩ b).setCell ⟨w.heap.size, 2, none⟩ c) from fun _ _ _ => ((hb2.setCell (Nat.le_refl _) _).setCell (Nat.le_refl _) _).setCell (Nat.le_refl _) _)
  clear hs hy q1 hb1
  have HV := Lib.hid (show pairT m.head? = .tuple #[(m.head?.getD Timer.zero).val, .bool m.head?.isSome] from rfl)
  unfold pairT Timer.val
  generalize m.head?.isSome = ok at *
  generalize m.head?.getD Timer.zero = x at *
  go_wp2_with fail
  refine bodyPost_ret (v := .tuple #[x.val, .bool ok]) (by simp [results, Tryz.results18, go_sem, Timer.val, hs3]) rfl ⟨by rw [HV.out], HB.out _ _ _⟩
set_option maxRecDepth 100000 in
set_option maxHeartbeats 1000000 in
theorem vq_mov (q tb c nb P b B : Nat) (base cas : Int) (m : List Timer) (t : Timer) (w : World) (h : RQ w q tb c nb P b B base cas m) (z : RSz P b B) (hb : U64 base) (ht : U64 t.at_) :
    Calls Tryz.prog 31 #[.pointer (some ⟨q, 0, none⟩), t.val] w fun e w' => e = .returned (.int .i64 (movC P m t)) ∧ RQ w' q tb c nb P b B base cas (movL P m t) ∧ Chg (HS q tb nb) w w' := by
  have hb0 : Below w.heap.size w (w.alloc (.cells #[.int .u64 t.at_, .int .u64 t.seq, .int .i64 t.place] 37)) := (Below.refl _ _).alloc (Nat.le_refl _) _
  have h1 := h.below hb0
  have q0 : Blk (w.alloc (.cells #[.int .u64 t.at_, .int .u64 t.seq, .int .i64 t.place] 37)) w.heap.size 37 #[.int .u64 t.at_, .int .u64 t.seq, .int .i64 t.place] := Blk.new _ _ _
  have hcan := vq_can q tb c nb P b B base cas m t.place _ h1 z
  obtain ⟨l0, l1, l2, l3⟩ := h.lts
  have hout : ¬ HS q tb nb w.heap.size := by unfold HS; omega
  have hins := fun (w' : World) (k : RQ w' q tb c nb P b B base cas (withoutL m t.place)) => vq_ins q tb c nb P b B base cas (withoutL m t.place) t w' k z hb ht
  unfold Timer.val at hins
  clear h h1
  unfold Timer.val
  go_enter Tryz.func31, Tryz.ntmps31
  go_wp2_with fail
  refine hcan.mono ?_
  rintro e w1 ⟨rfl, hq1, hk1⟩
  have q1 := q0.chg hk1 hout
  have hkb : Chg (HS q tb nb) w w1 := (Chg.of_same hb0 _).trans hk1 (fun _ _ e => e)
  have hc1 := q1.cell
  clear hcan q0 hb0 hk1
  unfold teV Timer.val
  by_cases hz : canC P m t.place = 0
  · have hMC := Lib.hid (show movC P m t = insC P (withoutL m t.place) t by unfold movC; rw [if_pos hz])
    have hML := Lib.hid (show movL P m t = insL P (withoutL m t.place) t by unfold movL; rw [if_pos hz])
    have hCL : canL P m t.place = withoutL m t.place := by unfold canL; rw [if_pos hz]
    rw [hCL] at hq1
    rw [hz]
    clear hz hCL
    generalize canT P m t.place = x at *
    have hx := (hq1.lts).1
    have hin := hins _ (hq1.below ((Below.refl w1.heap.size w1).alloc (Nat.le_refl _) (.cells #[.int .u64 x.at_, .int .u64 x.seq, .int .i64 x.place] 37)))
    have hkc : Chg (HS q tb nb) w (w1.alloc (.cells #[.int .u64 x.at_, .int .u64 x.seq, .int .i64 x.place] 37)) := hkb.alloc _
    have l4 := q1.lt
    clear hins
    go_wp2_with fail
    refine hin.mono ?_
    rintro e w2 ⟨rfl, hq2, hk2⟩
    go_wp2_with fail
    go_ret
    exact ⟨by rw [hMC.out]; rfl, by rw [hML.out]; exact hq2, hkc.trans hk2 (fun _ _ e => e)⟩
  · have hMC := Lib.hid (show movC P m t = canC P m t.place by unfold movC; rw [if_neg hz])
    have hML := Lib.hid (show movL P m t = m by unfold movL; rw [if_neg hz])
    have hCL : canL P m t.place = m := by unfold canL; rw [if_neg hz]
    rw [hCL] at hq1
    have hz2 : (canC P m t.place != 0) = true := by rw [bne_iff_ne]; exact hz
    generalize canT P m t.place = x at *
    generalize canC P m t.place = k at *
    have HK : Hid (Chg (HS q tb nb) w (w1.alloc (.cells #[.int .u64 x.at_, .int .u64 x.seq, .int .i64 x.place] 37))) := Lib.hid (hkb.alloc _)
    have HQ2 := Lib.hid (hq1.below ((Below.refl w1.heap.size w1).alloc (Nat.le_refl _) (.cells #[.int .u64 x.at_, .int .u64 x.seq, .int .i64 x.place] 37)))
    clear hins hz hCL hq1 hkb
    go_wp2_with fail
    go_ret
    exact ⟨by rw [hMC.out]; rfl, by rw [hML.out]; exact HQ2.out, HK.out⟩
end Go.Proofs.YtckkfbepclogcaaGreatDoor
namespace Go.Proofs.YtckkfbepclogcaaGreatDoor
open Go.RowKit
def whV (B : Nat) (base : Int) : Option Timer → Value
  | none => .tuple #[.int .i64 0, .int .i64 0, .bool false]
  | some t => .tuple #[.int .i64 (lev (B : Int) base t.at_), .int .i64 (slotI (B : Int) base t.at_), .bool true]
set_option maxRecDepth 100000 in
set_option maxHeartbeats 1000000 in
theorem vq_where (q tb c nb P b B : Nat) (base cas : Int) (m : List Timer) (p : Int) (w : World) (h : RQ w q tb c nb P b B base cas m) (z : RSz P b B) (hb : U64 base) (hm : ∀ x ∈ m, U64 x.at_) :
    Calls Tryz.prog 11 #[.pointer (some ⟨q, 0, none⟩), .int .i64 p] w fun e w' => e = .returned (whV B base (getL m p)) ∧ Below w.heap.size w w' := by
  have hg := vq_get q tb c nb P b B base cas m p w h z
  cases ho : getL m p with
  | none =>
    rw [ho] at hg
    unfold pairT Timer.val Timer.zero at hg
    simp only [Option.getD_none, Option.isSome_none] at hg
    clear ho hm h
    go_enter Tryz.func11, Tryz.ntmps11
    go_wp2_with fail
    refine hg.mono ?_
    rintro e w1 ⟨rfl, hx⟩
    have HB := Lib.hid (hx.alloc hx.size (.cells #[.int .u64 0, .int .u64 0, .int .i64 0] 37))
    clear hg hx
    go_wp2_with fail
    refine bodyPost_ret (v := whV B base none) (by simp [results, Tryz.results11, go_sem, whV]) rfl ⟨rfl, HB.out⟩
  | some t =>
    have ht : U64 t.at_ := hm t (List.mem_of_find?_eq_some ho)
    rw [ho] at hg
    unfold pairT Timer.val at hg
    simp only [Option.getD_some, Option.isSome_some] at hg
    have HV := Lib.hid (show whV B base (some t) = .tuple #[.int .i64 (lev (B : Int) base t.at_), .int .i64 (slotI (B : Int) base t.at_), .bool true] from rfl)
    have hli : ∀ w1, Below w.heap.size w w1 → Calls Tryz.prog 38 #[.pointer (some ⟨q, 0, none⟩), t.val] w1 fun e w' => e = .returned (lsV (lev (B : Int) base t.at_) (slotI (B : Int) base t.at_)) ∧ Below w1.heap.size w1 w' := by
      intro w1 hx
      obtain ⟨s, rg, g1, g2, rfl⟩ := (h.below hx).ex
      exact rlies_any q tb c P b B rg s.base _ cas t w1 g1.blk z hb ht
    generalize lev (B : Int) base t.at_ = L at *
    generalize slotI (B : Int) base t.at_ = S at *
    unfold Timer.val at hli
    clear ho hm h
    go_enter Tryz.func11, Tryz.ntmps11
    go_wp2_with fail
    refine hg.mono ?_
    rintro e w1 ⟨rfl, hx⟩
    have hb1 := hx.alloc hx.size (.cells #[.int .u64 t.at_, .int .u64 t.seq, .int .i64 t.place] 37)
    have hl1 := hli _ hb1
    have hs1 := hb1.size
    clear hg hx hli
    unfold lsV at hl1
    go_wp2_with fail
    refine hl1.mono ?_
    rintro e w2 ⟨rfl, hy⟩
    have HB := Lib.hid (hb1.trans (Below.mono hy hs1))
    clear hl1 hy hb1
    go_wp2_with fail
    refine bodyPost_ret (v := .tuple #[.int .i64 L, .int .i64 S, .bool true]) (by simp [results, Tryz.results11, go_sem]) rfl ⟨by rw [HV.out], HB.out⟩
end Go.Proofs.YtckkfbepclogcaaGreatDoor
