/- The law: the texts RefF, laid end to end by a program. -/
import Derived.Test.YtckkfbepclogcaaGreatDoorPcRefE
import Derived.Test.YtckkfbepclogcaaGreatDoorPcRef3
import Derived.Test.YtckkfbepclogcaaGreatDoorPk24
namespace Go.Proofs.YtckkfbepclogcaaGreatDoor
open Go.RowKit

theorem tms_of {w : World} {A : Option Addr} {n c : Nat} {l : List Timer} (h : LAt w (.slice A n c) l) : TmAt w w.heap.size A l := by
  obtain ⟨A', c', e, h1, _⟩ := h
  injection e with e1 e2 e3
  subst e1
  exact h1
/-- Behind k rounds. -/
def casK (m : List Timer) (B : Nat) (base now : Int) (k : Nat) : Nat := (m.take k).countP (cascB B base now)
theorem casK_step {m : List Timer} {B : Nat} {base now : Int} {k : Nat} (h : k < m.length) : casK m B base now (k + 1) = casK m B base now k + if cascB B base now m[k] = true then 1 else 0 := by
  unfold casK
  rw [take_snoc m k h, List.countP_append]
  simp [List.countP_cons]
theorem casK_le (m : List Timer) (B : Nat) (base now : Int) (k : Nat) : casK m B base now k ≤ m.length := by
  unfold casK
  exact Nat.le_trans List.countP_le_length (by simp; omega)
attribute [local irreducible] Calls
set_option linter.unusedSimpArgs false in
set_option maxRecDepth 100000 in
set_option maxHeartbeats 4000000 in
theorem vwdo_due (P : Int) (v : Value) (m : List Timer) (n B : Nat) (PP : Nat) (z : RSz PP n B) (base lk : Int) (a : Act) (w : World) (h : LAt w v m) (hl : m.length ≤ 100000) (h3 : a.kind = 3) (hgt : ¬ a.now ≤ base) (hb : U64 base) (hw : U64 a.now) (hf : ∀ x ∈ m, U64 x.at_) (hlk : 0 ≤ lk ∧ lk ≤ 1000000000) :
    Calls Tryz.prog 8 #[wV P v n base lk, a.val] w fun e w' => ∃ v' u, e = .returned (.tuple #[wV P v' n a.now (lk + casL m B base a.now), tV (doE P m a) (doT P m a) u]) ∧ LAt w' v' (doL P m a) ∧ LAt w' u (doD m a) ∧ Below w.heap.size w w' ∧ FreshV w v v' ∧ FreshV w (.slice none 0 0) u := by
  have hV := h.blk
  have k0 := BoxW.new #[.int .i64 P, v, .int .i64 n, .int .u64 base, .int .i64 lk] #[.int .i64 a.kind, .int .u64 a.t.at_, .int .u64 a.t.seq, .int .i64 a.t.place, .int .u64 a.now] w
  have hdo := rdo_any P v m a _ (h.on k0.below) hl
  obtain ⟨A0, n0, c0, rfl⟩ := h.form
  have HL : Hid (casL m B base a.now = casK (doL P m a) B base a.now (doL P m a).length) := Lib.hid (by
    have e : doL P m a = dueL m a.now false := by simp [doL, h3]
    rw [e]
    unfold casL casK
    rw [if_neg hgt, List.take_of_length_le (Nat.le_refl _)])
  have hfm : ∀ x ∈ doL P m a, U64 x.at_ := by
    have e : doL P m a = dueL m a.now false := by simp [doL, h3]
    rw [e]
    exact fun x hx => hf x (List.mem_filter.1 hx).1
  have hlm : (doL P m a).length ≤ 100000 := by
    have e : doL P m a = dueL m a.now false := by simp [doL, h3]
    rw [e]
    exact Nat.le_trans (List.length_filter_le _ _) hl
  unfold qV Act.val at hdo
  unfold wV Act.val
  rw [h3] at hdo k0 ⊢
  go_enter Tryz.func8, Tryz.ntmps8
  go_wp2_with fail
  refine hdo.mono ?_
  rintro e w1 ⟨v1, u1, rfl, hv1, hu1, hx1, hf1, hf2⟩
  have k1 := k0.kept hx1
  obtain ⟨A1, c1, rfl, _⟩ := id hv1
  obtain ⟨A2, n2, c2, rfl⟩ := hu1.form
  have e1 := k1.b1.cell
  have e2 := k1.b0.cell
  have l0 := k1.b0.lt
  have l1 := k1.b1.lt
  clear hdo k0
  unfold doV tV qV
  generalize hx : doT P m a = x at *
  generalize hy : doE P m a = y at *
  generalize hn1 : (doL P m a).length = n1 at *
  go_upto_region 3 with fail
  have q0 := BoxX.new #[.int .i64 P, .slice A1 n1 c1] #[.int .i64 y, .int .u64 x.at_, .int .u64 x.seq, .int .i64 x.place, .slice A2 n2 c2] #[.int .i64 P, .slice A1 n1 c1, .int .i64 n, .int .u64 base, .int .i64 lk] w1
  have k2 := ((k1.alloc (.cells #[.int .i64 P, .slice A1 n1 c1] 31)).alloc (.cells #[.int .i64 y, .int .u64 x.at_, .int .u64 x.seq, .int .i64 x.place, .slice A2 n2 c2] 39)).alloc (.cells #[.int .i64 P, .slice A1 n1 c1, .int .i64 n, .int .u64 base, .int .i64 lk] 33)
  have l4 := k1.b3.lt
  clear k1 e1 e2 l0 l1
  have hM1 := ((hv1.on (alloc_kept' _ (.cells #[.int .i64 P, .slice A1 n1 c1] 31))).on (alloc_kept' _ (.cells #[.int .i64 y, .int .u64 x.at_, .int .u64 x.seq, .int .i64 x.place, .slice A2 n2 c2] 39))).on (alloc_kept' _ (.cells #[.int .i64 P, .slice A1 n1 c1, .int .i64 n, .int .u64 base, .int .i64 lk] 33))
  have hM2 := ((hu1.on (alloc_kept' _ (.cells #[.int .i64 P, .slice A1 n1 c1] 31))).on (alloc_kept' _ (.cells #[.int .i64 y, .int .u64 x.at_, .int .u64 x.seq, .int .i64 x.place, .slice A2 n2 c2] 39))).on (alloc_kept' _ (.cells #[.int .i64 P, .slice A1 n1 c1, .int .i64 n, .int .u64 base, .int .i64 lk] 33))
  generalize ((w1.alloc (.cells #[.int .i64 P, .slice A1 n1 c1] 31)).alloc (.cells #[.int .i64 y, .int .u64 x.at_, .int .u64 x.seq, .int .i64 x.place, .slice A2 n2 c2] 39)).alloc (.cells #[.int .i64 P, .slice A1 n1 c1, .int .i64 n, .int .u64 base, .int .i64 lk] 33) = w2 at *
  have hW : WL #[.int .i64 P, .slice A0 n0 c0, .int .i64 n, .int .u64 base, .int .i64 lk] #[.int .i64 3, .int .u64 a.t.at_, .int .u64 a.t.seq, .int .i64 a.t.place, .int .u64 a.now] #[.int .i64 P, .slice A1 n1 c1] #[.int .i64 y, .int .u64 x.at_, .int .u64 x.seq, .int .i64 x.place, .slice A2 n2 c2] (.int .i64 P) (.slice A1 n1 c1) (.int .i64 n) (.int .u64 base) (.slice A1 n1 c1) (.slice A2 n2 c2) (doL P m a) (doD m a) w w1.heap.size (.int .i64 lk) w2 :=
    ⟨k2, q0, hM1, hM2, hv1.blk, hu1.blk, l4⟩
  have hW := hW.rebase (.int .u64 a.now)
  have e0 := k2.b0.cell
  have e1 := k2.b1.cell
  have e2 := q0.c2.cell
  have e3 := q0.c2.frozen
  have l2 := q0.c2.lt
  have l1 := k2.b1.lt
  clear k2 q0 hM1 hM2
  generalize hm' : doL P m a = m' at *
  have HN1 := Lib.hid hn1
  have HM := Lib.hid hm'
  have HX0 := Lib.hid hx
  have HY0 := Lib.hid hy
  have hn1' := HN1.out
  clear hn1 hm' hx hy
  go_upto_region 6 with fail
  generalize w2.setCell ⟨w1.heap.size + 1 + 1, 3, none⟩ (.int .u64 a.now) = w3 at *
  clear e0 e1 e2 e3 l2 l1
  go_wp2_with fail
  go_loopw [9] (fun i wr => ∃ (k : Nat) (cs : Int), k ≤ n1 ∧ i = .int .i64 k ∧ WL #[.int .i64 P, .slice A0 n0 c0, .int .i64 n, .int .u64 base, .int .i64 lk] #[.int .i64 3, .int .u64 a.t.at_, .int .u64 a.t.seq, .int .i64 a.t.place, .int .u64 a.now] #[.int .i64 P, .slice A1 n1 c1] #[.int .i64 y, .int .u64 x.at_, .int .u64 x.seq, .int .i64 x.place, .slice A2 n2 c2] (.int .i64 P) (.slice A1 n1 c1) (.int .i64 n) (.int .u64 a.now) (.slice A1 n1 c1) (.slice A2 n2 c2) m' (doD m a) w w1.heap.size (.int .i64 cs) wr ∧ Hid (cs = lk + (casK m' B base a.now k : Nat))) (fun i _ => n1 - (intOf i).toNat)
  case atStart => exact ⟨0, lk, Nat.zero_le _, rfl, hW, Lib.hid (by simp [casK])⟩
  case round =>
    clear hW
    obtain ⟨k, cs, hk, rfl, hW, HC⟩ := hrel
    by_cases hlt : k < n1
    · have hlt' : k < m'.length := by omega
      have hcs : 0 ≤ cs ∧ cs ≤ 1000100000 := by
        have h1 := HC.out
        have h2 := casK_le m' B base a.now k
        omega
      have HST := Lib.hid (casK_step (B := B) (base := base) (now := a.now) hlt')
      obtain ⟨ab, ao, hA, hbb, d0, _, _⟩ := tms_of hW.l1 k hlt'
      have hux := hfm _ (List.getElem_mem hlt')
      generalize m'[k] = t at *
      have hv1' := fun w => rlevel_u z hb hux w
      have hv2' := fun w => rlevel_u z hw hux w
      have HCB : Hid (cascB B base a.now t = decide (0 ≤ lev (B : Int) base t.at_ ∧ lev (B : Int) base t.at_ ≤ 3 ∧ lev (B : Int) a.now t.at_ < lev (B : Int) base t.at_)) := Lib.hid rfl
      generalize lev (B : Int) base t.at_ = L at *
      generalize lev (B : Int) a.now t.at_ = M at *
      subst hA
      have b0 := hW.k.b0
      have bq := hW.q.c0
      have bn := hW.q.c2
      have cq := bq.cell
      have lq := bq.lt
      have hsz := hW.k.below.size
      clear h hx1 hv1 hu1
      go_upto_region 9 with fail
      clear cq lq
      have hs0 : Below wr.heap.size wr wr.drew := (Below.refl _ _).drew
      refine region_facts_set 12 (fun _ => false) (FV [.pointer (some ⟨w.heap.size, 3, none⟩), .int .u64 base, .pointer (some ⟨w1.heap.size, 1, none⟩), .slice (some ⟨ab, ao, none⟩) n1 c1, .int .i64 k, .pointer (some ⟨ab, ao + k * 3, none⟩), .pointer (some ⟨ab, ao + k * 3, none⟩), .int .u64 t.at_, .pointer (some ⟨w.heap.size, 2, none⟩), .int .i64 n, .int .i64 L, .int .i64 L]) (fun _ x => Below wr.heap.size wr x) (fun _ x y => x.heap.size ≤ y.heap.size) [48, 49, 50, 51, 52, 53, 54, 55, 56, 57, 58, 10] (by kernel_rfl) (by kernel_rfl) (by kernel_rfl) (by decide) (by kernel_rfl) (by kernel_rfl) (fun _ _ _ _ _ _ h _ => h) (fun _ _ _ h => h) hs0 ?_ ?_
      · intro fr hfr
        have f2 : fr.getD 2 undef = .pointer (some ⟨w.heap.size, 0, none⟩) := by rw [hfr]; rfl
        have f6 : fr.getD 6 undef = .pointer (some ⟨w1.heap.size, 0, none⟩) := by rw [hfr]; rfl
        have f9 : fr.getD 9 undef = .int .i64 k := by rw [hfr]; rfl
        clear hfr
        iterate 12
          refine ⟨⟨by first | trivial | exact ⟨rfl, fun _ _ h => h⟩, ?_⟩, ?_⟩
          · intro ρ w' p hp hdq hρ hd hSt
            simp only [DepF, Region.binds, List.getD_cons_zero, List.getD_cons_succ, FV, forall_const, and_true, true_and] at hd
            have hcon := hρ.con
            (have e2 := (hρ.slot 2 (by kernel_rfl)).trans f2; have e6 := (hρ.slot 6 (by kernel_rfl)).trans f6; have e9 := (hρ.slot 9 (by kernel_rfl)).trans f9)
            (have eb := (b0.below hSt b0.lt).cell; have eq := (bq.below hSt bq.lt).cell; have ed := (World.cell?_of_block (hSt.block ab hbb)).trans d0)
            (try rw [execOp_call_fn _ _ _ _ _ _ _ _ _ (hρ.fn _)])
            go_simp
            (try simp only [GoodQ, FV, List.getD_cons_zero, List.getD_cons_succ])
            first
              | exact ⟨rfl, Nat.le_refl _, fun h => absurd h (by decide), hSt⟩
              | exact ⟨trivial, Nat.le_refl _, fun h => absurd h (by decide), hSt⟩
              | (refine (hv1' w').mono ?_; rintro e w'' ⟨rfl, hx⟩; exact ⟨_, rfl, rfl, hx.size, fun h => absurd h (by decide), hSt.trans (Below.mono hx hSt.size)⟩)
        trivial
      · intro vs wA hSt hF _
        have h11 : vs 11 = .int .i64 L := hF 11 (by decide)
        have hWA := hW.kept hSt
        have dA := (World.cell?_of_block (hSt.block ab hbb)).trans d0
        have hbA : ab < wA.heap.size := by have := hSt.size; omega
        simp only [setAll, List.setIfInBounds_toArray, List.set_cons_zero, List.set_cons_succ, Nat.reduceAdd]
        rw [h11]
        simp only [List.drop_succ_cons, List.drop_zero, List.drop_nil]
        clear h11 hF hs0 hSt hW b0 bq bn d0 hbb hv1'
        have hmix : Tryz.prog.follows .mixedOrders = true := by kernel_rfl
        by_cases g0 : 0 ≤ L
        · by_cases g3 : L ≤ 3
          · have b0 := hWA.k.b0
            have bq := hWA.q.c0
            have bn := hWA.q.c2
            have HC1 : Hid (∀ c', (M < L → c' = cs + 1) → (¬ M < L → c' = cs) → c' = lk + (casK m' B base a.now (k + 1) : Nat)) := Lib.hid fun c' y1 y2 => by
              have h1 := HST.out
              rw [HCB.out] at h1
              have h2 := HC.out
              by_cases hml : M < L
              · rw [if_pos (decide_eq_true ⟨g0, g3, hml⟩)] at h1
                have := y1 hml
                omega
              · rw [if_neg (by simp [hml])] at h1
                have := y2 hml
                omega
            clear HST HCB HC hmix
            go_upto_region 10 with fail
            have hs0 : Below wA.heap.size wA wA.drew := (Below.refl _ _).drew
            refine region_facts_set 21 (fun _ => false) (FV [.int .i64 L, .bool true, .bool true, .int .i64 L, .bool true, .bool true, .bool true, .pointer (some ⟨w1.heap.size + 1 + 1, 3, none⟩), .int .u64 a.now, .pointer (some ⟨w1.heap.size, 1, none⟩), .slice (some ⟨ab, ao, none⟩) n1 c1, .int .i64 k, .pointer (some ⟨ab, ao + k * 3, none⟩), .pointer (some ⟨ab, ao + k * 3, none⟩), .int .u64 t.at_, .pointer (some ⟨w.heap.size, 2, none⟩), .int .i64 n, .int .i64 M, .int .i64 L, .bool (decide (M < L)), .bool (decide (M < L))]) (fun _ x => Below wA.heap.size wA x) (fun _ x y => x.heap.size ≤ y.heap.size) [59, 60, 61, 62, 63, 64, 65, 66, 67, 68, 69, 70, 71, 72, 73, 74, 75, 76, 77, 78, 79] (by kernel_rfl) (by kernel_rfl) (by kernel_rfl) (by decide) (by kernel_rfl) (by kernel_rfl) (fun _ _ _ _ _ _ h _ => h) (fun _ _ _ h => h) hs0 ?_ ?_
            · intro fr hfr
              have f2 : fr.getD 2 undef = .pointer (some ⟨w.heap.size, 0, none⟩) := by rw [hfr]; rfl
              have f6 : fr.getD 6 undef = .pointer (some ⟨w1.heap.size, 0, none⟩) := by rw [hfr]; rfl
              have f8 : fr.getD 8 undef = .pointer (some ⟨w1.heap.size + 1 + 1, 0, none⟩) := by rw [hfr]; rfl
              have f9 : fr.getD 9 undef = .int .i64 k := by rw [hfr]; rfl
              have f10 : fr.getD 10 undef = .int .i64 L := by rw [hfr]; rfl
              clear hfr
              iterate 21
                refine ⟨⟨by first | trivial | exact ⟨rfl, fun _ _ h => h⟩, ?_⟩, ?_⟩
                · intro ρ w' p hp hdq hρ hd hSt
                  simp only [DepF, Region.binds, List.getD_cons_zero, List.getD_cons_succ, FV, forall_const, and_true, true_and] at hd
                  have hcon := hρ.con
                  (have e2 := (hρ.slot 2 (by kernel_rfl)).trans f2; have e6 := (hρ.slot 6 (by kernel_rfl)).trans f6; have e8 := (hρ.slot 8 (by kernel_rfl)).trans f8; have e9 := (hρ.slot 9 (by kernel_rfl)).trans f9; have e10 := (hρ.slot 10 (by kernel_rfl)).trans f10)
                  (have eb := (b0.below hSt b0.lt).cell; have eq := (bq.below hSt bq.lt).cell; have en := (bn.below hSt bn.lt).cell; have ed := (World.cell?_of_block (hSt.block ab hbA)).trans dA)
                  (try rw [execOp_call_fn _ _ _ _ _ _ _ _ _ (hρ.fn _)])
                  go_simp
                  (try simp only [GoodQ, FV, List.getD_cons_zero, List.getD_cons_succ])
                  first
                    | exact ⟨rfl, Nat.le_refl _, fun h => absurd h (by decide), hSt⟩
                    | exact ⟨trivial, Nat.le_refl _, fun h => absurd h (by decide), hSt⟩
                    | (refine (hv2' w').mono ?_; rintro e w'' ⟨rfl, hx⟩; exact ⟨_, rfl, rfl, hx.size, fun h => absurd h (by decide), hSt.trans (Below.mono hx hSt.size)⟩)
              trivial
            · intro vs w5 hSt hF _
              have h20 : vs 20 = .bool (decide (M < L)) := hF 20 (by decide)
              have hW5 := hWA.kept hSt
              simp only [setAll, List.setIfInBounds_toArray, List.set_cons_zero, List.set_cons_succ, Nat.reduceAdd]
              rw [h20]
              simp only [List.drop_succ_cons, List.drop_zero, List.drop_nil]
              clear h20 hF hs0 hSt hWA b0 bq bn dA hbA hv2'
              by_cases hml : M < L
              · rw [decide_eq_true hml]
                have e2 := hW5.q.c2.cell
                have e3 := hW5.q.c2.frozen
                have l2 := hW5.q.c2.lt
                have hw1 : wrap64 (cs + 1) = cs + 1 := by unfold wrap64; omega
                have hW6 := hW5.put (.int .i64 (cs + 1))
                have HC2 := Lib.hid (HC1.out (cs + 1) (fun _ => rfl) (fun y => absurd hml y))
                clear hW5 HC1 hml
                go_wp2_with fail
                go_roundw
                case rel => exact ⟨k + 1, cs + 1, by omega, by go_num, hW6, HC2⟩
                case measure => simp [intOf]; omega
              · rw [decide_eq_false hml]
                have HC2 := Lib.hid (HC1.out cs (fun y => absurd y hml) (fun _ => rfl))
                clear HC1 hml
                go_wp2_with fail
                go_roundw
                case rel => exact ⟨k + 1, cs, by omega, by go_num, hW5, HC2⟩
                case measure => simp [intOf]; omega
          · have HC1 : Hid (cs = lk + (casK m' B base a.now (k + 1) : Nat)) := Lib.hid (by
              have h1 := HST.out
              rw [HCB.out, if_neg (by simp; omega)] at h1
              have h2 := HC.out
              omega)
            clear HST HCB HC hv2' dA hbA
            go_upto_region 10 with fail
            go_big_region_o
            have hW7 := hWA.kept (Below.refl _ _).drew
            clear hWA
            generalize wA.drew = w7 at *
            go_wp2_with fail
            go_roundw
            case rel => exact ⟨k + 1, cs, by omega, by go_num, hW7, HC1⟩
            case measure => simp [intOf]; omega
        · have HC1 : Hid (cs = lk + (casK m' B base a.now (k + 1) : Nat)) := Lib.hid (by
            have h1 := HST.out
            rw [HCB.out, if_neg (by simp; omega)] at h1
            have h2 := HC.out
            omega)
          clear HST HCB HC hv2' dA hbA
          go_upto_region 10 with fail
          go_big_region_o
          have hW7 := hWA.kept (Below.refl _ _).drew
          clear hWA
          generalize wA.drew = w7 at *
          go_wp2_with fail
          go_roundw
          case rel => exact ⟨k + 1, cs, by omega, by go_num, hW7, HC1⟩
          case measure => simp [intOf]; omega
    · have hkn : n1 = k := by omega
      subst hkn
      have cq := hW.q.c0.cell
      have lq := hW.q.c0.lt
      have HLK : Hid (lk + (casL m B base a.now : Nat) = cs) := Lib.hid (by rw [HL.out, HC.out])
      clear HC HL hn1' hlk
      go_upto_region 12 with fail
      have k2 := hW.k
      have q0 := hW.q
      have hM1 := hW.l1
      have hM2 := hW.l2
      rw [← HM.out] at hM1
      have hx := HX0.out
      have hy := HY0.out
      clear cq lq hW HX0 HY0 hb hw hf hfm hlt hk
      generalize hb2 : a.now = bn at *
      have HB2 := Lib.hid hb2
      clear hb2
      have e1 := q0.c1.cell
      have e2 := q0.c2.cell
      have z0 := k2.b2.cell
      have z1 := k2.b3.cell
      have z2 := k2.b2.frozen
      have z3 := k2.b3.frozen
      have l2 := k2.b2.lt
      have l3 := k2.b3.lt
      have l5 := q0.c2.lt
      have n1' : w1.heap.size + 1 ≠ w.heap.size + 1 + 1 := by omega
      have n2' : w1.heap.size + 1 + 1 ≠ w.heap.size + 1 + 1 := by omega
      have n3' : w1.heap.size + 1 ≠ w.heap.size + 1 + 1 + 1 := by omega
      have n4' : w1.heap.size + 1 + 1 ≠ w.heap.size + 1 + 1 + 1 := by omega
      have n5' : w.heap.size + 1 + 1 ≠ w.heap.size + 1 + 1 + 1 := by omega
      have m1' := n1'.symm
      have m2' := n2'.symm
      have m3' := n3'.symm
      have m4' := n4'.symm
      have m5' := n5'.symm
      have fin : Hid (∀ W, FinW w wr W (w.heap.size + 1 + 1) (w.heap.size + 1 + 1 + 1) (.int .i64 P) (.slice A1 n1 c1) (.int .i64 n) (.int .u64 bn) (.int .i64 cs) (.int .i64 y) (.int .u64 x.at_) (.int .u64 x.seq) (.int .i64 x.place) (.slice A2 n2 c2) → LAt W (.slice A1 n1 c1) (doL P m a) ∧ LAt W (.slice A2 n2 c2) (doD m a) ∧ Below w.heap.size w W ∧ FreshV w (.slice A0 n0 c0) (.slice A1 n1 c1) ∧ FreshV w (.slice none 0 0) (.slice A2 n2 c2)) := Lib.hid (by
        intro W hF
        refine ⟨hF.keep _ _ hM1 ?_, hF.keep _ _ hM2 ?_, hF.below, ?_, ?_⟩
        · intro g hg
          rcases hf1 g hg with h | h
          · have := hV g h; omega
          · simp at h; omega
        · intro g hg
          rcases hf2 g hg with h | h
          · cases h
          · simp at h; omega
        · intro g hg
          rcases hf1 g hg with h | h
          · exact .inl h
          · right; simp at h; omega
        · intro g hg
          rcases hf2 g hg with h | h
          · exact .inl h
          · right; simp at h; omega)
      have hFW := Lib.hid (finW (w := w) (.int .i64 P) (.slice A1 n1 c1) (.int .i64 n) (.int .u64 bn) (.int .i64 cs) (.int .i64 y) (.int .u64 x.at_) (.int .u64 x.seq) (.int .i64 x.place) (.slice A2 n2 c2) k2.b2 k2.b3 k2.below n5' (by omega) (by omega))
      clear hx1 hv1 hu1 h hf1 hf2 k2 q0 l4 hM1 hM2 hV
      generalize w.heap.size + 1 + 1 + 1 = g3 at *
      generalize w.heap.size + 1 + 1 = g2 at *
      generalize w1.heap.size + 1 + 1 = h2 at *
      generalize w1.heap.size + 1 = h1 at *
      have HX := Lib.hid hx
      have HY := Lib.hid hy
      clear hx hy
      go_region
      all_goals
        go_wp2_with fail
        first
        | (have hW := hFW.out.1
           have s2 := hW.b2.cell
           have s3 := hW.b3.cell
           refine bodyPost_ret (v := .tuple #[.agg #[.int .i64 P, .slice A1 n1 c1, .int .i64 n, .int .u64 bn, .int .i64 cs], .agg #[.int .i64 y, .int .u64 x.at_, .int .u64 x.seq, .int .i64 x.place, .slice A2 n2 c2]]) ?_ rfl ⟨.slice A1 n1 c1, .slice A2 n2 c2, by rw [HX.out, HY.out, HB2.out, HLK.out]; rfl, fin.out _ hW⟩
           simp [results, Tryz.results8, go_sem, s2, s3])
        | (have hW := hFW.out.2
           have s2 := hW.b2.cell
           have s3 := hW.b3.cell
           refine bodyPost_ret (v := .tuple #[.agg #[.int .i64 P, .slice A1 n1 c1, .int .i64 n, .int .u64 bn, .int .i64 cs], .agg #[.int .i64 y, .int .u64 x.at_, .int .u64 x.seq, .int .i64 x.place, .slice A2 n2 c2]]) ?_ rfl ⟨.slice A1 n1 c1, .slice A2 n2 c2, by rw [HX.out, HY.out, HB2.out, HLK.out]; rfl, fin.out _ hW⟩
           simp [results, Tryz.results8, go_sem, s2, s3])
theorem vwdo_any (P : Int) (v : Value) (m : List Timer) (n B : Nat) (PP : Nat) (z : RSz PP n B) (base lk : Int) (a : Act) (w : World) (h : LAt w v m) (hl : m.length ≤ 100000) (hb : U64 base) (hw : U64 a.now) (hf : ∀ x ∈ m, U64 x.at_) (hlk : 0 ≤ lk ∧ lk ≤ 1000000000) :
    Calls Tryz.prog 8 #[wV P v n base lk, a.val] w fun e w' => ∃ v' u, e = .returned (.tuple #[wV P v' n (baseN base a) (casN m B base lk a), tV (doE P m a) (doT P m a) u]) ∧ LAt w' v' (doL P m a) ∧ LAt w' u (doD m a) ∧ Below w.heap.size w w' ∧ FreshV w v v' ∧ FreshV w (.slice none 0 0) u := by
  by_cases h3 : a.kind = 3
  · by_cases hle : a.now ≤ base
    · have e1 : baseN base a = base := by simp [baseN, h3]; omega
      have e2 : casN m B base lk a = lk := by simp [casN, h3, casL, hle]
      rw [e1, e2]
      exact vwdo_late P v m n base lk a w h hl h3 hle
    · have e1 : baseN base a = a.now := by simp [baseN, h3]; omega
      have e2 : casN m B base lk a = lk + casL m B base a.now := by simp [casN, h3]
      rw [e1, e2]
      exact vwdo_due P v m n B PP z base lk a w h hl h3 hle hb hw hf hlk
  · have e1 : baseN base a = base := by simp [baseN, h3]
    have e2 : casN m B base lk a = lk := by simp [casN, h3]
    rw [e1, e2]
    exact vwdo_rest P v m n base lk a w h hl h3
end Go.Proofs.YtckkfbepclogcaaGreatDoor
