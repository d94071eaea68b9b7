/- The law: the texts LawRA, laid end to end by a program. -/
import Derived.Test.YtckkfbepclogcaaGreatDoorPk19
import Derived.Test.YtckkfbepclogcaaGreatDoorPk24
namespace Go.Proofs.YtckkfbepclogcaaGreatDoor
open Go.RowKit
section
variable {w0 : World} {q tb c nb o tb2 c2 nb2 x : Nat}
theorem Apart.oneR (h : Apart w0 q tb c nb o tb2 c2 nb2 x) {w w' : World} {P bb S : Nat} {b lk : Int} {m : List Timer} (hq : RQ w q tb c nb P bb S b lk m) (k : Chg (HS o tb2 nb2) w w') : RQ w' q tb c nb P bb S b lk m := by
  have := h.lq; have := h.lt; have := h.lc; have := h.ln; have := h.mo; have := h.mt; have := h.mn
  exact hq.chg k (by unfold HS; omega) (by unfold HS; omega) (by unfold HS; omega) (by unfold HS; omega)
end
/-- The second told's cells. -/
def Told5 (e : Int) (t : Timer) (u : Value) : Array Value := #[.int .i64 e, .int .u64 t.at_, .int .u64 t.seq, .int .i64 t.place, u]
/-- A round behind the first wheel's step. -/
structure TW (B x1 x2 q tb c nb o tb2 c2 nb2 P bb S S2 : Nat) (b1 k1 : Int) (m1 : List Timer) (b2 k2 : Int) (m2 : List Timer) (w0 : World) (ab ao k : Nat) (a : Act) (cs ds : Array Value) (u : Value) (d : List Timer) (w : World) : Prop where
  q : RQ w q tb c nb P bb S b1 k1 m1
  o : HQ w o tb2 c2 nb2 P S2 b2 k2 m2
  y1 : Blk w x1 39 cs
  y2 : Blk w x2 39 ds
  lf : LF B w u d
  act : w.cell? ⟨ab, ao + k * 5, none⟩ = some (.int .i64 a.kind) ∧ w.cell? ⟨ab, ao + k * 5 + 1, none⟩ = some (.int .u64 a.t.at_) ∧ w.cell? ⟨ab, ao + k * 5 + 2, none⟩ = some (.int .u64 a.t.seq) ∧ w.cell? ⟨ab, ao + k * 5 + 3, none⟩ = some (.int .i64 a.t.place) ∧ w.cell? ⟨ab, ao + k * 5 + 4, none⟩ = some (.int .u64 a.now)
  below : Below w0.heap.size w0 w
  tab : TabAt w
/-- What a round rests upon. -/
structure TA (B x1 x2 : Nat) (u : Value) (w0 : World) (q tb c nb o tb2 c2 nb2 x ab gt : Nat) : Prop where
  ap : Apart w0 q tb c nb o tb2 c2 nb2 x
  lt : q < B ∧ tb < B ∧ c < B ∧ nb < B ∧ o < B ∧ tb2 < B ∧ c2 < B ∧ nb2 < B
  h1 : B ≤ x1
  h2 : B ≤ x2
  hne : x1 ≠ x2
  hu : ∀ g, blkOf u = some g → g ≠ x2
  hab : ab < w0.heap.size
  hgt : gt < w0.heap.size
  h0 : w0.heap.size ≤ B
section
variable {B x1 x2 q tb c nb o tb2 c2 nb2 P bb S S2 x : Nat} {b1 k1 b2 k2 b2' k2' : Int} {m1 m2 m2' : List Timer} {w0 w w' : World} {ab ao k : Nat} {a : Act} {cs ds : Array Value} {u : Value} {d : List Timer}
/-- The second wheel is turned. -/
theorem TW.turn (h : TW B x1 x2 q tb c nb o tb2 c2 nb2 P bb S S2 b1 k1 m1 b2 k2 m2 w0 ab ao k a cs ds u d w) (A : TA B x1 x2 u w0 q tb c nb o tb2 c2 nb2 x ab 0) (r : Chg (HS o tb2 nb2) w w') (ho : HQ w' o tb2 c2 nb2 P S2 b2' k2' m2') : TW B x1 x2 q tb c nb o tb2 c2 nb2 P bb S S2 b1 k1 m1 b2' k2' m2' w0 ab ao k a cs ds u d w' := by
  have ha := A.lt
  have hk := chg_two (q := q) (tb := tb) (nb := nb) r
  have hn : ∀ i, HS o tb2 nb2 i → i < B := fun i e => by unfold HS at e; omega
  have hl : ∀ i, i < w0.heap.size → ¬ HS o tb2 nb2 i := fun i hi e => A.ap.low hi (.inr e)
  have hs := h.below.size
  have := A.hab; have := A.hgt; have := A.h1; have := A.h2
  exact ⟨A.ap.oneR h.q r, ho, h.y1.chg r (fun e => by have := hn _ e; omega), h.y2.chg r (fun e => by have := hn _ e; omega), h.lf.chg r hn, act_on h.act (r.block ab (by omega) (hl _ A.hab)), A.ap.below h.below hk, h.tab.chg r (hl _ A.hgt)⟩
/-- The second told is written. -/
theorem TW.put (h : TW B x1 x2 q tb c nb o tb2 c2 nb2 P bb S S2 b1 k1 m1 b2 k2 m2 w0 ab ao k a cs ds u d w) (A : TA B x1 x2 u w0 q tb c nb o tb2 c2 nb2 x ab 0) {ds' : Array Value} (r : Chg (fun i => i = x2) w w') (hy : Blk w' x2 39 ds') : TW B x1 x2 q tb c nb o tb2 c2 nb2 P bb S S2 b1 k1 m1 b2 k2 m2 w0 ab ao k a cs ds' u d w' := by
  have ha := A.lt
  have hs := h.below.size
  have := A.hab; have := A.hgt; have := A.h1; have := A.h2; have := A.hne; have := A.h0
  exact ⟨h.q.chg r (show ¬ q = x2 by omega) (show ¬ tb = x2 by omega) (show ¬ c = x2 by omega) (show ¬ nb = x2 by omega), h.o.chg r (show ¬ o = x2 by omega) (show ¬ tb2 = x2 by omega) (show ¬ c2 = x2 by omega) (show ¬ nb2 = x2 by omega), h.y1.chg r (show ¬ x1 = x2 by omega), hy,
    ⟨h.lf.at_.far r.size fun g hg => r.block g (h.lf.at_.blk g hg) (show ¬ g = x2 from A.hu g hg), h.lf.ge⟩, act_on h.act (r.block ab (by omega) (show ¬ ab = x2 by omega)), below_chg h.below (Nat.le_refl _) r fun i e => by have e' : i = x2 := e; omega, h.tab.chg r (show ¬ _ = x2 by omega)⟩
theorem TW.kept (h : TW B x1 x2 q tb c nb o tb2 c2 nb2 P bb S S2 b1 k1 m1 b2 k2 m2 w0 ab ao k a cs ds u d w) (A : TA B x1 x2 u w0 q tb c nb o tb2 c2 nb2 x ab 0) (r : Below w.heap.size w w') : TW B x1 x2 q tb c nb o tb2 c2 nb2 P bb S S2 b1 k1 m1 b2 k2 m2 w0 ab ao k a cs ds u d w' :=
  h.turn A (Chg.of_same r _) (h.o.below r)
end
theorem chg_one5 (x : Nat) (w : World) (k : Nat) (v : Value) : Chg (fun i => i = x) w (w.setCell ⟨x, k, none⟩ v) := Chg.setCell (S := fun i => i = x) (Chg.refl _ w) (p := ⟨x, k, none⟩) (fun _ => rfl) v
theorem chg_four5 (x : Nat) (w : World) (k0 k1 k2 k3 : Nat) (v0 v1 v2 v3 : Value) : Chg (fun i => i = x) w ((((w.setCell ⟨x, k0, none⟩ v0).setCell ⟨x, k1, none⟩ v1).setCell ⟨x, k2, none⟩ v2).setCell ⟨x, k3, none⟩ v3) :=
  Chg.setCell (S := fun i => i = x) (Chg.setCell (S := fun i => i = x) (Chg.setCell (S := fun i => i = x) (chg_one5 x w k0 v0) (p := ⟨x, k1, none⟩) (fun _ => rfl) v1) (p := ⟨x, k2, none⟩) (fun _ => rfl) v2) (p := ⟨x, k3, none⟩) (fun _ => rfl) v3
theorem put_e {w : World} {x : Nat} {t : TypeId} {a b c d e : Value} (h : Blk w x t #[a, b, c, d, e]) (v : Value) : Blk (w.setCell ⟨x, 0, none⟩ v) x t #[v, b, c, d, e] := by simpa using h.put 0 v
theorem put_d {w : World} {x : Nat} {t : TypeId} {a b c d e : Value} (h : Blk w x t #[a, b, c, d, e]) (v : Value) : Blk (w.setCell ⟨x, 4, none⟩ v) x t #[a, b, c, d, v] := by simpa using h.put 4 v
theorem put_te {w : World} {x : Nat} {t : TypeId} {a b c d e : Value} (h : Blk w x t #[a, b, c, d, e]) (v0 v1 v2 v3 : Value) : Blk ((((w.setCell ⟨x, 1, none⟩ v1).setCell ⟨x, 2, none⟩ v2).setCell ⟨x, 3, none⟩ v3).setCell ⟨x, 0, none⟩ v0) x t #[v0, v1, v2, v3, e] := by
  have := (((h.put 1 v1).put 2 v2).put 3 v3).put 0 v0
  simpa using this
/-! Both wheels' lists, held against each other. -/
def FT (B q o o1 : Nat) (m : List Timer) (j : Nat) (v : Value) (w : World) : Prop := match j with
  | 0 => v = .pointer (some ⟨q, 0, none⟩)
  | 1 => LF B w v m
  | 2 => v = .pointer (some ⟨o, 0, none⟩)
  | 3 => v = .pointer (some ⟨o, 0, none⟩)
  | 4 => v = .pointer (some ⟨o, o1, none⟩)
  | _ => LF B w v m
theorem FT.keep {B q o o1 : Nat} {m : List Timer} (i j : Nat) (v : Value) (w w' : World) (_ : j ≠ i) (h : FT B q o o1 m j v w) (r : Below w.heap.size w w') : FT B q o o1 m j v w' := by
  unfold FT at h ⊢
  split at h <;> first | exact h | exact h.chg (Chg.of_same r (fun _ => False)) (fun _ e => e.elim)
structure ST (B q tb c nb o tb2 c2 nb2 P bb S S2 : Nat) (b1 k1 b2 k2 : Int) (m : List Timer) (w0 : World) (x20 x22 : Nat) (cs : Array Value) (_p : Nat → Bool) (w : World) : Prop where
  q : RQ w q tb c nb P bb S b1 k1 m
  o : HQ w o tb2 c2 nb2 P S2 b2 k2 m
  size : B ≤ w.heap.size
  below : Below w0.heap.size w0 w
  b20 : Blk w x20 37 cs
  b22 : Blk w x22 37 cs
theorem ST.keep {B q tb c nb o tb2 c2 nb2 P bb S S2 : Nat} {b1 k1 b2 k2 : Int} {m : List Timer} {w0 w w' : World} {x20 x22 : Nat} {cs : Array Value} {p p' : Nat → Bool} (h : ST B q tb c nb o tb2 c2 nb2 P bb S S2 b1 k1 b2 k2 m w0 x20 x22 cs p w) (r : Below w.heap.size w w') : ST B q tb c nb o tb2 c2 nb2 P bb S S2 b1 k1 b2 k2 m w0 x20 x22 cs p' w' :=
  ⟨h.q.below r, h.o.below r, Nat.le_trans h.size r.size, h.below.trans (Below.mono r h.below.size), h.b20.below r h.b20.lt, h.b22.below r h.b22.lt⟩
attribute [local irreducible] Calls
set_option linter.unusedSimpArgs false in
set_option maxRecDepth 100000 in
set_option maxHeartbeats 4000000 in
theorem rtwin (P bits base other start : Int) (A : Option Addr) (l : List Act) (c : Nat) (w : World) (hT : TabAt w) (hA : AcAt w w.heap.size A l) (ha : AcOk l) (hlen : l.length ≤ 2 ^ 63 - 1) (ub : U64 base) (us : U64 start) :
    Calls Tryz.prog 4 #[.int .i64 P, .int .i64 bits, .int .u64 base, .slice A l.length c, .int .i64 other, .int .u64 start] w fun e w' => e = .returned (.bool true) ∧ Below w.heap.size w w' := by
  have hw := vworks w hT
  go_enter Tryz.func4, Tryz.ntmps4
  go_wp2_with fail
  refine hw.mono ?_
  rintro e w1 ⟨rfl, hb⟩
  have hT1 := hT.below hb (glob_lt hT)
  clear hw
  by_cases hl : 60 < l.length
  · have hl2 : (60 : Int) < l.length := by omega
    have HB := Lib.hid hb
    clear hA hb
    go_wp2_with fail
    go_ret
    exact ⟨rfl, HB.out⟩
  · have hl2 : ¬ (60 : Int) < l.length := by omega
    by_cases hok : NewOk P bits
    · by_cases hok2 : NewOk P other
      · have hn := vnew_ok P bits base w1 hok
        have hn2 := fun w2 => hnew_ok P other start w2 hok2
        have z := sideN_ok hok
        have z2 := slotsN_ok hok2
        obtain ⟨Pn, rfl⟩ := Int.eq_ofNat_of_zero_le (show 0 ≤ P by have := hok.1; omega)
        obtain ⟨bn, rfl⟩ := Int.eq_ofNat_of_zero_le (show 0 ≤ bits by have := hok.2.2.1; omega)
        rw [Int.toNat_natCast] at hn z z2
        rw [Int.toNat_natCast] at hn z
        simp only [Int.toNat_natCast] at hn2
        generalize sideN bn = S at *
        have hB0 := z.pos
        have HF0 : Hid (FewI S base 0 [] 0 0) := Lib.hid ⟨Int.le_refl _, by simp [potS], Nat.le_refl _, by simp⟩
        clear hok hok2
        go_wp2_with fail
        refine hn.mono ?_
        rintro e w2 ⟨q, tb, c1, nb, rfl, hq, hx, g1, g2, g3, g4⟩
        have hb2 := hb.trans (Below.mono hx hb.size)
        obtain ⟨l1, l2, l3, l4⟩ := hq.lts
        have hs1 := hb.size
        clear hn hx hb
        go_wp2_with fail
        refine (hn2 _).mono ?_
        rintro e w3 ⟨o, tb2, c2, nb2, rfl, ho, hx, m1, m2, m3, m4⟩
        have hq3 := hq.below hx
        have hb3 := hb2.trans (Below.mono hx hb2.size)
        have AP : Apart w q tb c1 nb o tb2 c2 nb2 w2.heap.size := ⟨⟨by omega, l1⟩, ⟨by omega, l2⟩, ⟨by omega, l3⟩, ⟨by omega, l4⟩, m1, m2, m3, m4⟩
        clear hn2 hx hb2 hq hT1 g1 g2 g3 g4 m1 m2 m3 m4 l1 l2 l3 l4 hs1
        generalize slotsN other = S2 at *
        go_wp2_with fail
        go_loopw [18] (fun i wr => ∃ (k : Nat) (k1 k2 : Int) (inn : Nat), k ≤ l.length ∧ i = .int .i64 k ∧ RQ wr q tb c1 nb Pn bn S (baseA base (l.take k)) k1 (behindL Pn (l.take k)) ∧ HQ wr o tb2 c2 nb2 Pn S2 (baseA start (l.take k)) k2 (behindL Pn (l.take k)) ∧ Below w.heap.size w wr ∧ Hid (FewI S (baseA base (l.take k)) k1 (behindL Pn (l.take k)) inn k)) (fun i _ => l.length - (intOf i).toNat)
        case atStart => exact ⟨0, 0, 0, 0, Nat.zero_le _, rfl, hq3, ho, hb3, HF0⟩
        case round =>
          clear hq3 ho hb3 HF0
          obtain ⟨k, k1, k2, inn, hk, rfl, hq, ho, hb, HFI⟩ := hrel
          by_cases hlt : k < l.length
          · obtain ⟨ab, ao, rfl, hbb, c0, c1', c2', c3, c4⟩ := (hA.below hb (Nat.le_refl _)) k hlt
            have HSx := Lib.hid (show behindL Pn (l.take (k + 1)) = doL Pn (behindL Pn (l.take k)) l[k] from by rw [take_snoc l k hlt, behindL_snoc])
            have HB1 := Lib.hid (show baseA base (l.take (k + 1)) = baseN (baseA base (l.take k)) l[k] from by rw [take_snoc l k hlt, baseA_snoc])
            have HB2 := Lib.hid (show baseA start (l.take (k + 1)) = baseN (baseA start (l.take k)) l[k] from by rw [take_snoc l k hlt, baseA_snoc])
            have u1 := baseA_u64 ub _ (ha.take k)
            have u2 := baseA_u64 us _ (ha.take k)
            have ua := (ha _ (List.getElem_mem hlt)).1
            have un := (ha _ (List.getElem_mem hlt)).2
            have hT1 := hT.below hb (glob_lt hT)
            have hcas : 0 ≤ k1 ∧ k1 ≤ 1000000000 := by
              have h1 := HFI.out.ge
              have h2 := HFI.out.le
              have h3 := HFI.out.in_
              omega
            have hmU := HFI.out.u
            have HFN := Lib.hid (HFI.out.step hB0 Pn l[k] ua)
            clear HFI
            generalize l[k] = a at *
            generalize behindL Pn (l.take k) = m at *
            generalize baseA base (l.take k) = b1 at *
            generalize baseA start (l.take k) = b2 at *
            have hml := hq.len
            obtain ⟨l1, l2, l3, l4⟩ := hq.lts
            obtain ⟨m1, m2, m3, m4⟩ := ho.lts
            have hdo := vdo_any q tb c1 nb Pn bn S b1 k1 m a wr hq z hT1 u1 ua un hmU hcas
            have hdl : (doD m a).length ≤ 100000 := by
              have := z.hP
              unfold doD
              split
              · have := due_lens m a.now; omega
              · simp
            unfold Act.val at hdo
            have hsz := hb.size
            clear hq hT1 hcas hmU u1
            go_wp2_with fail
            refine hdo.mono ?_
            rintro e w3 ⟨u, rfl, hou, hq, hx⟩
            have hact := act_on ⟨c0, c1', c2', c3, c4⟩ (hx.block ab (by omega) (fun e => AP.low hbb (.inl e)))
            have ho3 := AP.two ho hx
            have hb3 := AP.below hb (chg_one (o := o) (tb2 := tb2) (nb2 := nb2) hx)
            have hT3 := hT.below hb3 (glob_lt hT)
            have hlf := hou.lf
            have hs3 := hx.size
            obtain ⟨Au, cu, rfl, _⟩ := hou.at
            clear hdo ho hx hb hou c0 c1' c2' c3 c4
            unfold tV
            go_upto_region 15 with fail
            have hW : TW wr.heap.size w3.heap.size (w3.heap.size + 1) q tb c1 nb o tb2 c2 nb2 Pn bn S S2 (baseN b1 a) (casN m S b1 k1 a) (doL Pn m a) b2 k2 m w ab ao k a (Told5 (doE Pn m a) (doT Pn m a) (.slice Au (doD m a).length cu)) (Told5 0 Timer.zero (.slice none 0 0)) (.slice Au (doD m a).length cu) (doD m a) ((w3.alloc (.cells #[.int .i64 (doE Pn m a), .int .u64 (doT Pn m a).at_, .int .u64 (doT Pn m a).seq, .int .i64 (doT Pn m a).place, .slice Au (doD m a).length cu] 39)).alloc (.cells #[.int .i64 0, .int .u64 0, .int .u64 0, .int .i64 0, .slice none 0 0] 39)) := by
              have r1 := alloc_kept' w3 (.cells #[.int .i64 (doE Pn m a), .int .u64 (doT Pn m a).at_, .int .u64 (doT Pn m a).seq, .int .i64 (doT Pn m a).place, .slice Au (doD m a).length cu] 39)
              have r2 := alloc_kept' (w3.alloc (.cells #[.int .i64 (doE Pn m a), .int .u64 (doT Pn m a).at_, .int .u64 (doT Pn m a).seq, .int .i64 (doT Pn m a).place, .slice Au (doD m a).length cu] 39)) (.cells #[.int .i64 0, .int .u64 0, .int .u64 0, .int .i64 0, .slice none 0 0] 39)
              have r := r1.trans (Below.mono r2 (by simp))
              exact ⟨hq.below r, ho3.below r, (Blk.new _ _ _).alloc _, alloc2_at _ _ _ _, hlf.chg (Chg.of_same r (fun _ => False)) (fun _ e => e.elim), act_on hact (r.block ab (by omega)), hb3.trans (Below.mono r (by omega)), hT3.below r (by have := glob_lt hT; omega)⟩
            have TAp : TA wr.heap.size w3.heap.size (w3.heap.size + 1) (.slice Au (doD m a).length cu) w q tb c1 nb o tb2 c2 nb2 w2.heap.size ab 0 := ⟨AP, ⟨l1, l2, l3, l4, m1, m2, m3, m4⟩, hs3, by omega, by omega, fun g hg => by have := hlf.at_.blk g hg; omega, hbb, glob_lt hT, hsz⟩
            generalize (w3.alloc (.cells #[.int .i64 (doE Pn m a), .int .u64 (doT Pn m a).at_, .int .u64 (doT Pn m a).seq, .int .i64 (doT Pn m a).place, .slice Au (doD m a).length cu] 39)).alloc (.cells #[.int .i64 0, .int .u64 0, .int .u64 0, .int .i64 0, .slice none 0 0] 39) = w5 at *
            have hx2 : wr.heap.size ≤ w3.heap.size + 1 := by omega
            clear hq ho3 hb3 hT3 hlf hact AP l1 l2 l3 l4 m1 m2 m3 m4 hsz hs3
            generalize w3.heap.size + 1 = x2 at *
            generalize w3.heap.size = x1 at *
            generalize wr.heap.size = B at *
            obtain ⟨ca, cb, cc, cd, ce⟩ := hW.act
            unfold Told5 at hW
            by_cases hk : a.kind = 0
            · skip
              have HEQ : Hid (baseN b2 a = b2) := Lib.hid (by simp [baseN, hk])
              have HEL : doL Pn m a = insL Pn m a.t := by simp [doL, hk]
              have EE : Hid (doE Pn m a = insC Pn m a.t) := Lib.hid (by simp [doE, hk])
              have ET : Hid (doT Pn m a = Timer.zero) := Lib.hid (by simp [doT, hk])
              have ED : Hid (doD m a = []) := Lib.hid (by simp [doD, hk])
              have hin := hq_ins o tb2 c2 nb2 Pn S2 b2 k2 m a.t w5 hW.o z2 u2 ua
              unfold Timer.val at hin
              rw [hk] at ca
              clear hk
              go_wp2_with fail
              refine hin.mono ?_
              rintro e w6 ⟨rfl, ho, hx⟩
              rw [← HEL] at ho
              have hW := hW.turn TAp hx ho
              have ey := hW.y2.cell
              have fy := hW.y2.frozen
              have ly := hW.y2.lt
              clear hin hx ho ca cb cc cd ce HEL
              go_upto_region 24 with fail
              have hW := hW.put TAp (chg_one5 x2 w6 0 (.int .i64 (insC Pn m a.t))) (put_e hW.y2 (.int .i64 (insC Pn m a.t)))
              have hu2 := LAt.nil (w6.setCell ⟨x2, 0, none⟩ (.int .i64 (insC Pn m a.t)))
              have hdl2 : ([] : List Timer).length ≤ 100000 := by simp
              clear ey fy ly
              generalize w6.setCell ⟨x2, 0, none⟩ (.int .i64 (insC Pn m a.t)) = w7 at *
              have hsm := rsame_any (doE Pn m a) (insC Pn m a.t) (doT Pn m a) Timer.zero (.slice Au (doD m a).length cu) (.slice none 0 0) (doD m a) [] w7 hW.lf.at_ hu2 hdl hdl2
              rw [decide_eq_true ⟨EE.out, ET.out, ED.out⟩] at hsm
              unfold tV at hsm
              have ey1 := hW.y1.cell
              have ey2 := hW.y2.cell
              have ly1 := hW.y1.lt
              have ly2 := hW.y2.lt
              clear hdl hdl2 hu2 EE ET ED
              go_wp2_with fail
              refine hsm.mono ?_
              rintro e w8 ⟨rfl, hx⟩
              have hW8 := hW.kept TAp hx
              clear hsm hW hx ey1 ey2 ly1 ly2
              go_wp2_with fail
              go_roundw
              case rel => exact ⟨k + 1, _, _, _, by omega, by go_num, by rw [HSx.out, HB1.out]; exact hW8.q, by rw [HSx.out, HB2.out, HEQ.out]; exact hW8.o, hW8.below, by rw [HSx.out, HB1.out]; exact HFN⟩
              case measure => simp [intOf]; omega
            · by_cases hk1 : a.kind = 1
              · have HEQ : Hid (baseN b2 a = b2) := Lib.hid (by simp [baseN, hk1])
                have HEL : doL Pn m a = canL Pn m a.t.place := by simp [doL, hk1]
                have EE : Hid (doE Pn m a = canC Pn m a.t.place) := Lib.hid (by simp [doE, hk1])
                have ET : Hid (doT Pn m a = canT Pn m a.t.place) := Lib.hid (by simp [doT, hk1])
                have ED : Hid (doD m a = []) := Lib.hid (by simp [doD, hk1])
                have hin := hq_can o tb2 c2 nb2 Pn S2 b2 k2 m a.t.place w5 hW.o z2
                unfold teV Timer.val at hin
                rw [hk1] at ca
                clear hk hk1
                generalize canT Pn m a.t.place = t2 at *
                generalize canC Pn m a.t.place = e2 at *
                go_wp2_with fail
                refine hin.mono ?_
                rintro e w6 ⟨rfl, ho, hx⟩
                rw [← HEL] at ho
                have hW := hW.turn TAp hx ho
                have ey := hW.y2.cell
                have fy := hW.y2.frozen
                have ly := hW.y2.lt
                clear hin hx ho ca cb cc cd ce HEL
                go_upto_region 24 with fail
                have hW := hW.put TAp (chg_four5 x2 w6 1 2 3 0 (.int .u64 t2.at_) (.int .u64 t2.seq) (.int .i64 t2.place) (.int .i64 e2)) (put_te hW.y2 (.int .i64 e2) (.int .u64 t2.at_) (.int .u64 t2.seq) (.int .i64 t2.place))
                have hu2 := LAt.nil ((((w6.setCell ⟨x2, 1, none⟩ (.int .u64 t2.at_)).setCell ⟨x2, 2, none⟩ (.int .u64 t2.seq)).setCell ⟨x2, 3, none⟩ (.int .i64 t2.place)).setCell ⟨x2, 0, none⟩ (.int .i64 e2))
                have hdl2 : ([] : List Timer).length ≤ 100000 := by simp
                clear ey fy ly
                generalize (((w6.setCell ⟨x2, 1, none⟩ (.int .u64 t2.at_)).setCell ⟨x2, 2, none⟩ (.int .u64 t2.seq)).setCell ⟨x2, 3, none⟩ (.int .i64 t2.place)).setCell ⟨x2, 0, none⟩ (.int .i64 e2) = w7 at *
                have hsm := rsame_any (doE Pn m a) e2 (doT Pn m a) t2 (.slice Au (doD m a).length cu) (.slice none 0 0) (doD m a) [] w7 hW.lf.at_ hu2 hdl hdl2
                rw [decide_eq_true ⟨EE.out, ET.out, ED.out⟩] at hsm
                unfold tV at hsm
                have ey1 := hW.y1.cell
                have ey2 := hW.y2.cell
                have ly1 := hW.y1.lt
                have ly2 := hW.y2.lt
                clear hdl hdl2 hu2 EE ET ED
                go_wp2_with fail
                refine hsm.mono ?_
                rintro e w8 ⟨rfl, hx⟩
                have hW8 := hW.kept TAp hx
                clear hsm hW hx ey1 ey2 ly1 ly2
                go_wp2_with fail
                go_roundw
                case rel => exact ⟨k + 1, _, _, _, by omega, by go_num, by rw [HSx.out, HB1.out]; exact hW8.q, by rw [HSx.out, HB2.out, HEQ.out]; exact hW8.o, hW8.below, by rw [HSx.out, HB1.out]; exact HFN⟩
                case measure => simp [intOf]; omega
              · by_cases hk2 : a.kind = 2
                · clear hk hk1
                  have hk := hk2
                  clear hk2
                  have HEQ : Hid (baseN b2 a = b2) := Lib.hid (by simp [baseN, hk])
                  have HEL : doL Pn m a = movL Pn m a.t := by simp [doL, hk]
                  have EE : Hid (doE Pn m a = movC Pn m a.t) := Lib.hid (by simp [doE, hk])
                  have ET : Hid (doT Pn m a = Timer.zero) := Lib.hid (by simp [doT, hk])
                  have ED : Hid (doD m a = []) := Lib.hid (by simp [doD, hk])
                  have hin := hq_mov o tb2 c2 nb2 Pn S2 b2 k2 m a.t w5 hW.o z2 u2 ua
                  unfold Timer.val at hin
                  rw [hk] at ca
                  clear hk
                  go_wp2_with fail
                  refine hin.mono ?_
                  rintro e w6 ⟨rfl, ho, hx⟩
                  rw [← HEL] at ho
                  have hW := hW.turn TAp hx ho
                  have ey := hW.y2.cell
                  have fy := hW.y2.frozen
                  have ly := hW.y2.lt
                  clear hin hx ho ca cb cc cd ce HEL
                  go_upto_region 24 with fail
                  have hW := hW.put TAp (chg_one5 x2 w6 0 (.int .i64 (movC Pn m a.t))) (put_e hW.y2 (.int .i64 (movC Pn m a.t)))
                  have hu2 := LAt.nil (w6.setCell ⟨x2, 0, none⟩ (.int .i64 (movC Pn m a.t)))
                  have hdl2 : ([] : List Timer).length ≤ 100000 := by simp
                  clear ey fy ly
                  generalize w6.setCell ⟨x2, 0, none⟩ (.int .i64 (movC Pn m a.t)) = w7 at *
                  have hsm := rsame_any (doE Pn m a) (movC Pn m a.t) (doT Pn m a) Timer.zero (.slice Au (doD m a).length cu) (.slice none 0 0) (doD m a) [] w7 hW.lf.at_ hu2 hdl hdl2
                  rw [decide_eq_true ⟨EE.out, ET.out, ED.out⟩] at hsm
                  unfold tV at hsm
                  have ey1 := hW.y1.cell
                  have ey2 := hW.y2.cell
                  have ly1 := hW.y1.lt
                  have ly2 := hW.y2.lt
                  clear hdl hdl2 hu2 EE ET ED
                  go_wp2_with fail
                  refine hsm.mono ?_
                  rintro e w8 ⟨rfl, hx⟩
                  have hW8 := hW.kept TAp hx
                  clear hsm hW hx ey1 ey2 ly1 ly2
                  go_wp2_with fail
                  go_roundw
                  case rel => exact ⟨k + 1, _, _, _, by omega, by go_num, by rw [HSx.out, HB1.out]; exact hW8.q, by rw [HSx.out, HB2.out, HEQ.out]; exact hW8.o, hW8.below, by rw [HSx.out, HB1.out]; exact HFN⟩
                  case measure => simp [intOf]; omega
                · by_cases hk3 : a.kind = 3
                  · have HEQ : Hid (baseN b2 a = max b2 a.now) := Lib.hid (by simp [baseN, hk3])
                    have HEL : doL Pn m a = dueL m a.now false := by simp [doL, hk3]
                    have EE : Hid (doE Pn m a = 0) := Lib.hid (by simp [doE, hk3])
                    have ET : Hid (doT Pn m a = Timer.zero) := Lib.hid (by simp [doT, hk3])
                    have ED : Hid (doD m a = dueL m a.now true) := Lib.hid (by simp [doD, hk3])
                    have hdl2 : (dueL m a.now true).length ≤ 100000 := by rw [← ED.out]; exact hdl
                    have hin := hq_due o tb2 c2 nb2 Pn S2 b2 k2 a.now m w5 hW.o z2 u2 un hW.tab
                    rw [hk3] at ca
                    clear hk hk1 hk2 hk3
                    go_wp2_with fail
                    refine hin.mono ?_
                    rintro e w6 ⟨v6, rfl, ho6, ho, hx⟩
                    rw [← HEL] at ho
                    have ly5 := hW.y2.lt
                    have hg6 : ∀ g, blkOf v6 = some g → g ≠ x2 := fun g hg => by have := ho6.lf.ge g hg; omega
                    have hW := hW.turn TAp hx ho
                    obtain ⟨A6, c6, rfl, _⟩ := ho6.at
                    have ey := hW.y2.cell
                    have fy := hW.y2.frozen
                    have ly := hW.y2.lt
                    clear hin hx ho ca cb cc cd ce HEL ly5
                    go_upto_region 24 with fail
                    have hW := hW.put TAp (chg_one5 x2 w6 4 (.slice A6 (dueL m a.now true).length c6)) (put_d hW.y2 (.slice A6 (dueL m a.now true).length c6))
                    have hu2 := ho6.lf.at_.setCell ⟨x2, 4, none⟩ (.slice A6 (dueL m a.now true).length c6) hg6
                    clear ey fy ly ho6 hg6
                    generalize w6.setCell ⟨x2, 4, none⟩ (.slice A6 (dueL m a.now true).length c6) = w7 at *
                    have hsm := rsame_any (doE Pn m a) 0 (doT Pn m a) Timer.zero (.slice Au (doD m a).length cu) (.slice A6 (dueL m a.now true).length c6) (doD m a) (dueL m a.now true) w7 hW.lf.at_ hu2 hdl hdl2
                    rw [decide_eq_true ⟨EE.out, ET.out, ED.out⟩] at hsm
                    unfold tV at hsm
                    have ey1 := hW.y1.cell
                    have ey2 := hW.y2.cell
                    have ly1 := hW.y1.lt
                    have ly2 := hW.y2.lt
                    clear hdl hdl2 hu2 EE ET ED
                    go_wp2_with fail
                    refine hsm.mono ?_
                    rintro e w8 ⟨rfl, hx⟩
                    have hW8 := hW.kept TAp hx
                    clear hsm hW hx ey1 ey2 ly1 ly2
                    go_wp2_with fail
                    go_roundw
                    case rel => exact ⟨k + 1, _, _, _, by omega, by go_num, by rw [HSx.out, HB1.out]; exact hW8.q, by rw [HSx.out, HB2.out, HEQ.out]; exact hW8.o, hW8.below, by rw [HSx.out, HB1.out]; exact HFN⟩
                    case measure => simp [intOf]; omega
                  · have HEQ : Hid (baseN b2 a = b2) := Lib.hid (by simp [baseN, hk3])
                    have HEL : doL Pn m a = m := by simp [doL, hk, hk1, hk2, hk3]
                    have EE : Hid (doE Pn m a = 0) := Lib.hid (by simp [doE, hk, hk1, hk2])
                    have ET : Hid (doT Pn m a = Timer.zero) := Lib.hid (by simp [doT, hk1])
                    have ED : Hid (doD m a = []) := Lib.hid (by simp [doD, hk3])
                    have g0 : (a.kind == 0) = false := by simp [hk]
                    have g1 : (a.kind == 1) = false := by simp [hk1]
                    have g2 : (a.kind == 2) = false := by simp [hk2]
                    have g3 : (a.kind == 3) = false := by simp [hk3]
                    have hW := hW.turn TAp (Chg.refl _ _) (b2' := b2) (k2' := k2) (m2' := doL Pn m a) (by rw [HEL]; exact hW.o)
                    clear HEL cb cc cd ce
                    go_upto_region 24 with fail
                    clear ca g0 g1 g2 g3 hk hk1 hk2 hk3
                    have hu2 := LAt.nil w5
                    have hdl2 : ([] : List Timer).length ≤ 100000 := by simp
                    generalize w5 = w7 at *
                    have hsm := rsame_any (doE Pn m a) 0 (doT Pn m a) Timer.zero (.slice Au (doD m a).length cu) (.slice none 0 0) (doD m a) [] w7 hW.lf.at_ hu2 hdl hdl2
                    rw [decide_eq_true ⟨EE.out, ET.out, ED.out⟩] at hsm
                    unfold tV at hsm
                    have ey1 := hW.y1.cell
                    have ey2 := hW.y2.cell
                    have ly1 := hW.y1.lt
                    have ly2 := hW.y2.lt
                    clear hdl hdl2 hu2 EE ET ED
                    go_wp2_with fail
                    refine hsm.mono ?_
                    rintro e w8 ⟨rfl, hx⟩
                    have hW8 := hW.kept TAp hx
                    clear hsm hW hx ey1 ey2 ly1 ly2
                    go_wp2_with fail
                    go_roundw
                    case rel => exact ⟨k + 1, _, _, _, by omega, by go_num, by rw [HSx.out, HB1.out]; exact hW8.q, by rw [HSx.out, HB2.out, HEQ.out]; exact hW8.o, hW8.below, by rw [HSx.out, HB1.out]; exact HFN⟩
                    case measure => simp [intOf]; omega
          · have ht : l.take k = l := List.take_of_length_le (by omega)
            rw [ht] at hq ho
            clear HFI
            generalize behindL Pn l = m at *
            generalize baseA base l = b1 at *
            generalize baseA start l = b2 at *
            have hmi := vq_min q tb c1 nb Pn bn S b1 k1 m wr hq z
            have hml := hq.len
            obtain ⟨l1, l2, l3, l4⟩ := hq.lts
            obtain ⟨m1, m2, m3, m4⟩ := ho.lts
            unfold pairT Timer.val at hmi
            generalize hx : m.head?.getD Timer.zero = x at *
            generalize hy : m.head?.isSome = y at *
            go_wp2_with fail
            refine hmi.mono ?_
            rintro e w5 ⟨rfl, hx5⟩
            have hq5 := hq.below hx5
            have ho5 := ho.below hx5
            have hb5 := hb.trans (Below.mono hx5 hb.size)
            have hmi2 := fun ob => hq_min o tb2 c2 nb2 Pn S2 b2 k2 m (w5.alloc ob) (ho5.below (alloc_kept' _ _)) z2
            unfold pairT Timer.val at hmi2
            rw [hx, hy] at hmi2
            clear hmi hq ho hb hx5 hx hy
            go_wp2_with fail
            refine (hmi2 _).mono ?_
            rintro e w7 ⟨rfl, hx7⟩
            have hby := hx7
            have b20 := (Blk.new w5 37 #[.int .u64 x.at_, .int .u64 x.seq, .int .i64 x.place]).below hx7 (by simp)
            have hq7 := (hq5.below (alloc_kept' w5 (.cells #[.int .u64 x.at_, .int .u64 x.seq, .int .i64 x.place] 37))).below hx7
            have ho7 := (ho5.below (alloc_kept' w5 (.cells #[.int .u64 x.at_, .int .u64 x.seq, .int .i64 x.place] 37))).below hx7
            have hb7 := (hb5.alloc hb5.size (.cells #[.int .u64 x.at_, .int .u64 x.seq, .int .i64 x.place] 37)).trans (Below.mono hx7 (by have := hb5.size; simp; omega))
            clear hmi2 hx7 hby hq5 ho5 hb5
            go_upto_region 29 with fail
            have hs0 : ST w7.heap.size q tb c1 nb o tb2 c2 nb2 Pn bn S S2 b1 k1 b2 k2 m w w5.heap.size w7.heap.size #[.int .u64 x.at_, .int .u64 x.seq, .int .i64 x.place] (fun _ => false) (w7.alloc (.cells #[.int .u64 x.at_, .int .u64 x.seq, .int .i64 x.place] 37)).drew :=
              ⟨(hq7.below (alloc_kept' _ _)).drew, (ho7.below (alloc_kept' _ _)).drew, by simp, (hb7.alloc hb7.size _).drew, (b20.alloc _).drew, (Blk.new _ _ _).drew⟩
            have hmP : m.length ≤ 1000000 := by have := z.hP; omega
            clear hq7 ho7 hb7 b20
            generalize w7.alloc (.cells #[.int .u64 x.at_, .int .u64 x.seq, .int .i64 x.place] 37) = w8 at *
            generalize w7.heap.size = x22 at *
            generalize w5.heap.size = x20 at *
            refine region_facts_set 6 (fun _ => false) (FT x22 q o 0 m) (ST x22 q tb c1 nb o tb2 c2 nb2 Pn bn S S2 b1 k1 b2 k2 m w x20 x22 #[.int .u64 x.at_, .int .u64 x.seq, .int .i64 x.place]) (fun _ x y => Below x.heap.size x y) (List.range' 143 6 ++ []) (by kernel_rfl) (by kernel_rfl) (by kernel_rfl) (by decide) (by kernel_rfl) (by kernel_rfl) FT.keep (fun _ _ _ h => h.size) hs0 ?_ ?_
            · intro fr hfr
              have f14 : fr.getD 14 undef = .pointer (some ⟨q, 0, none⟩) := by rw [hfr]; rfl
              have f16 : fr.getD 16 undef = .pointer (some ⟨o, 0, none⟩) := by rw [hfr]; rfl
              clear hfr
              iterate 6
                refine ⟨⟨trivial, ?_⟩, ?_⟩
                · intro ρ w' p hp hdq hρ hd hSt
                  simp only [DepF, Region.binds, dat, Nat.reduceLT, Nat.reduceAdd, FT, forall_const, and_true, true_and] at hd
                  have hcon := hρ.con
                  have e14 := (hρ.slot 14 (by kernel_rfl)).trans f14
                  have e16 := (hρ.slot 16 (by kernel_rfl)).trans f16
                  (try rw [execOp_call_fn _ _ _ _ _ _ _ _ _ (hρ.fn _)])
                  go_simp
                  (try simp only [GoodQ, FT])
                  first
                    | exact ⟨rfl, Below.refl _ _, fun h => absurd h (by decide), hSt.keep (Below.refl _ _)⟩
                    | exact ⟨trivial, Below.refl _ _, fun h => absurd h (by decide), hSt.keep (Below.refl _ _)⟩
                    | (refine (vq_all q tb c1 nb Pn bn S b1 k1 m w' hSt.q z).mono ?_; rintro e w'' ⟨v', rfl, hO, hk'⟩; exact ⟨v', rfl, hO.lf.mono hSt.size, hk', fun h => absurd h (by decide), hSt.keep hk'⟩)
                    | (refine (hq_all o tb2 c2 nb2 Pn S2 b2 k2 m w' hSt.o z2).mono ?_; rintro e w'' ⟨v', rfl, hO, hk'⟩; exact ⟨v', rfl, hO.lf.mono hSt.size, hk', fun h => absurd h (by decide), hSt.keep hk'⟩)
              trivial
            · intro vs w9 hSt hF _
              have h3 : LF x22 w9 (vs 1) m := hF 1 (by decide)
              have h7 : LF x22 w9 (vs 5) m := hF 5 (by decide)
              have hsm := same_refl (vs 1) (vs 5) _ w9 h3.at_ h7.at_ hmP
              clear hF h3 h7 hs0
              simp only [List.range'_succ, List.range'_zero, List.cons_append, List.nil_append, List.append_nil, setAll, List.setIfInBounds_toArray, List.set_cons_zero, List.set_cons_succ, Nat.reduceAdd]
              simp only [List.drop_succ_cons, List.drop_zero]
              go_wp2_with fail
              refine hsm.mono ?_
              rintro e w10 ⟨rfl, hx⟩
              have s10 := hSt.keep (p' := fun _ => true) hx
              have y20 := s10.b20.drew.cell
              have y22 := s10.b22.drew.cell
              have HK := Lib.hid s10.below.drew
              have hl1 := vq_len q tb c1 nb Pn bn S b1 k1 m w10.drew s10.q.drew
              have hl2 := hq_len o tb2 c2 nb2 Pn S2 b2 k2 m w10.drew s10.o.drew
              clear hsm hx hSt s10
              go_upto_region 30 with fail
              refine still_all (by kernel_rfl) (by kernel_rfl) ?_
              iterate 16 still_step
              still_call (flip hl1)
              iterate 3 still_step
              still_call (flip hl2)
              repeat still_step
              refine wpStill_nil ?_
              go_wp2_with fail
              go_ret
              exact ⟨rfl, HK.out⟩
      · have hn := vnew_ok P bits base w1 hok
        have hn2 := fun w2 => hnew_bad P other start w2 hok2
        clear hA hok hok2
        go_wp2_with fail
        refine hn.mono ?_
        rintro e w2 ⟨q, tb, c, nb, rfl, hq, hx, g1, g2, g3, g4⟩
        have HB := Lib.hid (hb.trans (Below.mono hx hb.size))
        clear hq hx g1 g2 g3 g4 hb hn
        go_wp2_with fail
        refine (hn2 _).mono ?_
        rintro e w3 ⟨rfl, rfl⟩
        unfold nilE
        clear hn2
        go_wp2_with fail
        go_ret
        exact ⟨rfl, HB.out⟩
    · by_cases hok2 : NewOk P other
      · have hn := vnew_bad P bits base w1 hok
        have hn2 := hnew_ok P other start w1 hok2
        clear hA hok hok2
        go_wp2_with fail
        refine hn.mono ?_
        rintro e w2 ⟨rfl, rfl⟩
        unfold nilE
        go_wp2_with fail
        refine hn2.mono ?_
        rintro e w2 ⟨q, tb, c, nb, rfl, hq, hx, g1, g2, g3, g4⟩
        have HB := Lib.hid (hb.trans (Below.mono hx hb.size))
        clear hq hx g1 g2 g3 g4 hb hn hn2
        go_wp2_with fail
        go_ret
        exact ⟨rfl, HB.out⟩
      · have hn := vnew_bad P bits base w1 hok
        have hn2 := hnew_bad P other start w1 hok2
        have HB := Lib.hid hb
        clear hA hok hok2 hb
        go_wp2_with fail
        refine hn.mono ?_
        rintro e w2 ⟨rfl, rfl⟩
        unfold nilE
        go_wp2_with fail
        refine hn2.mono ?_
        rintro e w2 ⟨rfl, rfl⟩
        unfold nilE
        go_wp2_with fail
        go_ret
        exact ⟨rfl, HB.out⟩
end Go.Proofs.YtckkfbepclogcaaGreatDoor
