/- The law: the texts LawHA, laid end to end by a program. -/
import Derived.Test.YtckkfbepclogcaaDoorPcLawHL
namespace Go.Proofs.YtckkfbepclogcaaDoor
open Go.RowKit
/-- Two wheels that lie apart, above all that was there. -/
structure Apart (w0 : World) (q tb c nb o tb2 c2 nb2 x : Nat) : Prop where
  lq : w0.heap.size ≤ q ∧ q < x
  lt : w0.heap.size ≤ tb ∧ tb < x
  lc : w0.heap.size ≤ c ∧ c < x
  ln : w0.heap.size ≤ nb ∧ nb < x
  mo : x ≤ o
  mt : x ≤ tb2
  mc : x ≤ c2
  mn : x ≤ nb2
/-- What calls upon either may change. -/
def HT (q tb nb o tb2 nb2 : Nat) : Nat → Prop := fun g => HS q tb nb g ∨ HS o tb2 nb2 g
section
variable {w0 : World} {q tb c nb o tb2 c2 nb2 x : Nat}
theorem Apart.one (h : Apart w0 q tb c nb o tb2 c2 nb2 x) {w w' : World} {P S : Nat} {b lk : Int} {m : List Timer} (hq : HQ w q tb c nb P S b lk m) (k : Chg (HS o tb2 nb2) w w') : HQ w' q tb c nb P S b lk m := by
  have := h.lq; have := h.lt; have := h.lc; have := h.ln; have := h.mo; have := h.mt; have := h.mn
  exact hq.chg k (by unfold HS; omega) (by unfold HS; omega) (by unfold HS; omega) (by unfold HS; omega)
theorem Apart.two (h : Apart w0 q tb c nb o tb2 c2 nb2 x) {w w' : World} {P S : Nat} {b lk : Int} {m : List Timer} (hq : HQ w o tb2 c2 nb2 P S b lk m) (k : Chg (HS q tb nb) w w') : HQ w' o tb2 c2 nb2 P S b lk m := by
  have := h.lq; have := h.lt; have := h.lc; have := h.ln; have := h.mo; have := h.mt; have := h.mn; have := h.mc
  exact hq.chg k (by unfold HS; omega) (by unfold HS; omega) (by unfold HS; omega) (by unfold HS; omega)
theorem Apart.low (h : Apart w0 q tb c nb o tb2 c2 nb2 x) {i : Nat} (hi : i < w0.heap.size) : ¬ HT q tb nb o tb2 nb2 i := by
  have := h.lq; have := h.lt; have := h.lc; have := h.ln; have := h.mo; have := h.mt; have := h.mn
  unfold HT HS
  omega
theorem Apart.below (h : Apart w0 q tb c nb o tb2 c2 nb2 x) {w w' : World} (hb : Below w0.heap.size w0 w) (k : Chg (HT q tb nb o tb2 nb2) w w') : Below w0.heap.size w0 w' :=
  below_chg hb (Nat.le_refl _) k fun i e => by
    rcases Nat.lt_or_ge i w0.heap.size with hlt | hge
    · exact absurd e (h.low hlt)
    · exact hge
end
theorem chg_one {q tb nb o tb2 nb2 : Nat} {w w' : World} (k : Chg (HS q tb nb) w w') : Chg (HT q tb nb o tb2 nb2) w w' := k.mono fun _ _ e => .inl e
theorem chg_two {q tb nb o tb2 nb2 : Nat} {w w' : World} (k : Chg (HS o tb2 nb2) w w') : Chg (HT q tb nb o tb2 nb2) w w' := k.mono fun _ _ e => .inr e
def ToldAt (B : Nat) (e : Int) (t : Timer) (l : List Timer) (v : Value) (w : World) : Prop := ∃ u, v = tV e t u ∧ LF B w u l
def FA (B q o : Nat) (sl : Value) (k : Nat) (p : Addr) (a : Act) (e : Int) (t : Timer) (l : List Timer) (j : Nat) (v : Value) (w : World) : Prop := match j with
  | 0 => v = .pointer (some ⟨q, 0, none⟩)
  | 1 => v = sl
  | 2 => v = .int .i64 k
  | 3 => v = .pointer (some p)
  | 4 => v = a.val
  | 5 => ToldAt B e t l v w
  | 6 => v = .pointer (some ⟨o, 0, none⟩)
  | 7 => v = sl
  | 8 => v = .int .i64 k
  | 9 => v = .pointer (some p)
  | 10 => v = a.val
  | _ => ToldAt B e t l v w
theorem ToldAt.chg {B : Nat} {e : Int} {t : Timer} {l : List Timer} {v : Value} {w w' : World} {T : Nat → Prop} (h : ToldAt B e t l v w) (k : Chg T w w') (hT : ∀ i, T i → i < B) : ToldAt B e t l v w' := by
  obtain ⟨u, rfl, h⟩ := h
  exact ⟨u, rfl, h.chg k hT⟩
theorem FA.keep {B q tb nb o tb2 nb2 : Nat} {sl : Value} {k : Nat} {p : Addr} {a : Act} {e : Int} {t : Timer} {l : List Timer} (hT : ∀ i, HT q tb nb o tb2 nb2 i → i < B) (i j : Nat) (v : Value) (w w' : World) (_ : j ≠ i) (h : FA B q o sl k p a e t l j v w) (r : Chg (HT q tb nb o tb2 nb2) w w') : FA B q o sl k p a e t l j v w' := by
  unfold FA at h ⊢
  split at h <;> first | exact h | exact h.chg r hT
/-- The two wheels in the round's region: ahead of an act, and behind it. -/
structure SA (B q tb c nb o tb2 c2 nb2 P S S2 : Nat) (b1 k1 b2 k2 : Int) (m : List Timer) (d1 j1 d2 j2 : Int) (m' : List Timer) (w0 : World) (ab ao k : Nat) (a : Act) (p : Nat → Bool) (w : World) : Prop where
  q0 : p 5 = false → HQ w q tb c nb P S b1 k1 m
  q1 : p 5 = true → HQ w q tb c nb P S d1 j1 m'
  o0 : p 11 = false → HQ w o tb2 c2 nb2 P S2 b2 k2 m
  o1 : p 11 = true → HQ w o tb2 c2 nb2 P S2 d2 j2 m'
  act : w.cell? ⟨ab, ao + k * 5, none⟩ = some (.int .i64 a.kind) ∧ w.cell? ⟨ab, ao + k * 5 + 1, none⟩ = some (.int .u64 a.t.at_) ∧ w.cell? ⟨ab, ao + k * 5 + 2, none⟩ = some (.int .u64 a.t.seq) ∧ w.cell? ⟨ab, ao + k * 5 + 3, none⟩ = some (.int .i64 a.t.place) ∧ w.cell? ⟨ab, ao + k * 5 + 4, none⟩ = some (.int .u64 a.now)
  size : B ≤ w.heap.size
  below : Below w0.heap.size w0 w
  tab : TabAt w
section
variable {B q tb c nb o tb2 c2 nb2 P S S2 x : Nat} {b1 k1 b2 k2 d1 j1 d2 j2 : Int} {m m' : List Timer} {w0 w w' : World} {ab ao k : Nat} {a : Act} {p : Nat → Bool}
theorem SA.quiet (i : Nat) (h : SA B q tb c nb o tb2 c2 nb2 P S S2 b1 k1 b2 k2 m d1 j1 d2 j2 m' w0 ab ao k a p w) (hab : ab < w0.heap.size) (r : Below w.heap.size w w') (h5 : i ≠ 5) (h11 : i ≠ 11) : SA B q tb c nb o tb2 c2 nb2 P S S2 b1 k1 b2 k2 m d1 j1 d2 j2 m' w0 ab ao k a (also p i) w' := by
  have e5 : also p i 5 = p 5 := also_ne p (fun e => h5 e.symm)
  have e11 : also p i 11 = p 11 := also_ne p (fun e => h11 e.symm)
  have hs := h.below.size
  exact ⟨fun y => (h.q0 (e5 ▸ y)).below r, fun y => (h.q1 (e5 ▸ y)).below r, fun y => (h.o0 (e11 ▸ y)).below r, fun y => (h.o1 (e11 ▸ y)).below r, act_on h.act (r.block ab (by omega)), Nat.le_trans h.size r.size, h.below.trans (Below.mono r h.below.size), h.tab.below r (glob_lt h.tab)⟩
theorem SA.do1 (h : SA B q tb c nb o tb2 c2 nb2 P S S2 b1 k1 b2 k2 m (baseN b1 a) (lookN m b1 S k1 a) d2 j2 (doL P m a) w0 ab ao k a p w) (A : Apart w0 q tb c nb o tb2 c2 nb2 x) (hab : ab < w0.heap.size) (hT : TabAt w0) (z : HSz P S) (hp : p 5 = false) (ub : U64 b1) (ua : U64 a.t.at_) (un : U64 a.now) :
    Calls Tryd.prog 17 #[.pointer (some ⟨q, 0, none⟩), a.val] w fun e w' => ∃ v, e = .returned v ∧ ToldAt B (doE P m a) (doT P m a) (doD m a) v w' ∧ Chg (HT q tb nb o tb2 nb2) w w' ∧ (false = true → Frsh v w w') ∧ SA B q tb c nb o tb2 c2 nb2 P S S2 b1 k1 b2 k2 m (baseN b1 a) (lookN m b1 S k1 a) d2 j2 (doL P m a) w0 ab ao k a (also p 5) w' := by
  refine (hdo_any q tb c nb P S b1 k1 m a w (h.q0 hp) z h.tab ub ua un).mono ?_
  rintro e w' ⟨u, rfl, ho, hq, hk⟩
  have hc := chg_one (o := o) (tb2 := tb2) (nb2 := nb2) hk
  have e11 : also p 5 11 = p 11 := also_ne p (by decide)
  refine ⟨_, rfl, ⟨u, rfl, ho.lf.mono h.size⟩, hc, (fun h => by cases h), fun y => ?_, fun _ => hq, fun y => A.two (h.o0 (e11 ▸ y)) hk, fun y => A.two (h.o1 (e11 ▸ y)) hk, act_on h.act (hc.block ab (by have := h.below.size; omega) (A.low hab)), Nat.le_trans h.size hk.size, A.below h.below hc, h.tab.chg hc (A.low (glob_lt hT))⟩
  rw [also_at] at y
  cases y
theorem SA.do2 (h : SA B q tb c nb o tb2 c2 nb2 P S S2 b1 k1 b2 k2 m d1 j1 (baseN b2 a) (lookN m b2 S2 k2 a) (doL P m a) w0 ab ao k a p w) (A : Apart w0 q tb c nb o tb2 c2 nb2 x) (hab : ab < w0.heap.size) (hT : TabAt w0) (z : HSz P S2) (hp : p 11 = false) (ub : U64 b2) (ua : U64 a.t.at_) (un : U64 a.now) :
    Calls Tryd.prog 17 #[.pointer (some ⟨o, 0, none⟩), a.val] w fun e w' => ∃ v, e = .returned v ∧ ToldAt B (doE P m a) (doT P m a) (doD m a) v w' ∧ Chg (HT q tb nb o tb2 nb2) w w' ∧ (false = true → Frsh v w w') ∧ SA B q tb c nb o tb2 c2 nb2 P S S2 b1 k1 b2 k2 m d1 j1 (baseN b2 a) (lookN m b2 S2 k2 a) (doL P m a) w0 ab ao k a (also p 11) w' := by
  refine (hdo_any o tb2 c2 nb2 P S2 b2 k2 m a w (h.o0 hp) z h.tab ub ua un).mono ?_
  rintro e w' ⟨u, rfl, ho, hq, hk⟩
  have hc := chg_two (q := q) (tb := tb) (nb := nb) hk
  have e5 : also p 11 5 = p 5 := also_ne p (by decide)
  refine ⟨_, rfl, ⟨u, rfl, ho.lf.mono h.size⟩, hc, (fun h => by cases h), fun y => A.one (h.q0 (e5 ▸ y)) hk, fun y => A.one (h.q1 (e5 ▸ y)) hk, fun y => ?_, fun _ => hq, act_on h.act (hc.block ab (by have := h.below.size; omega) (A.low hab)), Nat.le_trans h.size hk.size, A.below h.below hc, h.tab.chg hc (A.low (glob_lt hT))⟩
  rw [also_at] at y
  cases y
end
/-! Both wheels' lists, held against each other. -/
def FM (B q o : Nat) (m : List Timer) (j : Nat) (v : Value) (w : World) : Prop := match j with
  | 0 => v = .pointer (some ⟨q, 0, none⟩)
  | 1 => v = .pointer (some ⟨q, 0, none⟩)
  | 2 => v = .pointer (some ⟨q, 0, none⟩)
  | 3 => LF B w v m
  | 4 => v = .pointer (some ⟨o, 0, none⟩)
  | 5 => v = .pointer (some ⟨o, 0, none⟩)
  | 6 => v = .pointer (some ⟨o, 0, none⟩)
  | _ => LF B w v m
theorem FM.keep {B q o : Nat} {m : List Timer} (i j : Nat) (v : Value) (w w' : World) (_ : j ≠ i) (h : FM B q o m j v w) (r : Below w.heap.size w w') : FM B q o m j v w' := by
  unfold FM at h ⊢
  split at h <;> first | exact h | exact h.chg (Chg.of_same r (fun _ => False)) (fun _ e => e.elim)
structure SM (B q tb c nb o tb2 c2 nb2 P S S2 : Nat) (b1 k1 b2 k2 : Int) (m : List Timer) (w0 : World) (x20 x22 : Nat) (cs : Array Value) (_p : Nat → Bool) (w : World) : Prop where
  q : HQ w q tb c nb P S b1 k1 m
  o : HQ w o tb2 c2 nb2 P S2 b2 k2 m
  size : B ≤ w.heap.size
  below : Below w0.heap.size w0 w
  b20 : Blk w x20 37 cs
  b22 : Blk w x22 37 cs
theorem SM.keep {B q tb c nb o tb2 c2 nb2 P S S2 : Nat} {b1 k1 b2 k2 : Int} {m : List Timer} {w0 w w' : World} {x20 x22 : Nat} {cs : Array Value} {p p' : Nat → Bool} (h : SM B q tb c nb o tb2 c2 nb2 P S S2 b1 k1 b2 k2 m w0 x20 x22 cs p w) (r : Below w.heap.size w w') : SM B q tb c nb o tb2 c2 nb2 P S S2 b1 k1 b2 k2 m w0 x20 x22 cs p' w' :=
  ⟨h.q.below r, h.o.below r, Nat.le_trans h.size r.size, h.below.trans (Below.mono r h.below.size), h.b20.below r h.b20.lt, h.b22.below r h.b22.lt⟩
attribute [local irreducible] Calls
set_option linter.unusedSimpArgs false in
set_option maxRecDepth 100000 in
set_option maxHeartbeats 4000000 in
theorem hany (P bits base other start : Int) (A : Option Addr) (l : List Act) (c : Nat) (w : World) (hT : TabAt w) (hA : AcAt w w.heap.size A l) (ha : AcOk l) (hlen : l.length ≤ 2 ^ 63 - 1) (ub : U64 base) (us : U64 start) :
    Calls Tryd.prog 6 #[.int .i64 P, .int .i64 bits, .int .u64 base, .slice A l.length c, .int .i64 other, .int .u64 start] w fun e w' => e = .returned (.bool true) ∧ Below w.heap.size w w' := by
  have hw := hworks w hT
  go_enter Tryd.func6, Tryd.ntmps6
  go_wp2_with fail
  refine hw.mono ?_
  rintro e w1 ⟨rfl, hb⟩
  have hT1 := hT.below hb (glob_lt hT)
  clear hw
  by_cases hl : 60 < l.length
  · have hl2 : (60 : Int) < l.length := by omega
    have HB := Lib.hid hb
    clear hA hb
    go_wp2_with fail
    go_ret
    exact ⟨rfl, HB.out⟩
  · have hl2 : ¬ (60 : Int) < l.length := by omega
    by_cases hok : NewOk P bits
    · by_cases hok2 : NewOk P other
      · have hn := hnew_ok P bits base w1 hok
        have hn2 := fun w2 => hnew_ok P other start w2 hok2
        have z := slotsN_ok hok
        have z2 := slotsN_ok hok2
        obtain ⟨Pn, rfl⟩ := Int.eq_ofNat_of_zero_le (show 0 ≤ P by have := hok.1; omega)
        rw [Int.toNat_natCast] at hn z z2
        simp only [Int.toNat_natCast] at hn2
        clear hok hok2
        go_wp2_with fail
        refine hn.mono ?_
        rintro e w2 ⟨q, tb, c1, nb, rfl, hq, hx, g1, g2, g3, g4⟩
        have hb2 := hb.trans (Below.mono hx hb.size)
        obtain ⟨l1, l2, l3, l4⟩ := hq.lts
        have hs1 := hb.size
        clear hn hx hb
        go_wp2_with fail
        refine (hn2 _).mono ?_
        rintro e w3 ⟨o, tb2, c2, nb2, rfl, ho, hx, m1, m2, m3, m4⟩
        have hq3 := hq.below hx
        have hb3 := hb2.trans (Below.mono hx hb2.size)
        have AP : Apart w q tb c1 nb o tb2 c2 nb2 w2.heap.size := ⟨⟨by omega, l1⟩, ⟨by omega, l2⟩, ⟨by omega, l3⟩, ⟨by omega, l4⟩, m1, m2, m3, m4⟩
        clear hn2 hx hb2 hq hT1 g1 g2 g3 g4 m1 m2 m3 m4 l1 l2 l3 l4 hs1
        generalize slotsN bits = S at *
        generalize slotsN other = S2 at *
        go_wp2_with fail
        go_loopw [18] (fun i wr => ∃ (k : Nat) (k1 k2 : Int), k ≤ l.length ∧ i = .int .i64 k ∧ HQ wr q tb c1 nb Pn S (baseA base (l.take k)) k1 (behindL Pn (l.take k)) ∧ HQ wr o tb2 c2 nb2 Pn S2 (baseA start (l.take k)) k2 (behindL Pn (l.take k)) ∧ Below w.heap.size w wr) (fun i _ => l.length - (intOf i).toNat)
        case atStart => exact ⟨0, 0, 0, Nat.zero_le _, rfl, hq3, ho, hb3⟩
        case round =>
          clear hq3 ho hb3
          obtain ⟨k, k1, k2, hk, rfl, hq, ho, hb⟩ := hrel
          by_cases hlt : k < l.length
          · obtain ⟨ab, ao, rfl, hbb, c0, c1', c2', c3, c4⟩ := (hA.below hb (Nat.le_refl _)) k hlt
            have HSx := Lib.hid (show behindL Pn (l.take (k + 1)) = doL Pn (behindL Pn (l.take k)) l[k] from by rw [take_snoc l k hlt, behindL_snoc])
            have HB1 := Lib.hid (show baseA base (l.take (k + 1)) = baseN (baseA base (l.take k)) l[k] from by rw [take_snoc l k hlt, baseA_snoc])
            have HB2 := Lib.hid (show baseA start (l.take (k + 1)) = baseN (baseA start (l.take k)) l[k] from by rw [take_snoc l k hlt, baseA_snoc])
            have u1 := baseA_u64 ub _ (ha.take k)
            have u2 := baseA_u64 us _ (ha.take k)
            have ua := (ha _ (List.getElem_mem hlt)).1
            have un := (ha _ (List.getElem_mem hlt)).2
            have hT1 := hT.below hb (glob_lt hT)
            generalize l[k] = a at *
            generalize hm : behindL Pn (l.take k) = m at *
            generalize hb1 : baseA base (l.take k) = b1 at *
            generalize hb2 : baseA start (l.take k) = b2 at *
            have hml := hq.len
            obtain ⟨l1, l2, l3, l4⟩ := hq.lts
            obtain ⟨m1, m2, m3, m4⟩ := ho.lts
            have hTB : ∀ i, HT q tb nb o tb2 nb2 i → i < wr.heap.size := fun i e => by unfold HT HS at e; omega
            go_upto_region 13 with fail
            have hs0 : SA wr.heap.size q tb c1 nb o tb2 c2 nb2 Pn S S2 b1 k1 b2 k2 m (baseN b1 a) (lookN m b1 S k1 a) (baseN b2 a) (lookN m b2 S2 k2 a) (doL Pn m a) w ab ao k a (fun _ => false) wr.drew := ⟨fun _ => hq.drew, (fun h => by cases h), fun _ => ho.drew, (fun h => by cases h), ⟨c0, c1', c2', c3, c4⟩, Nat.le_refl _, hb.drew, hT1.below (Below.refl _ _).drew (glob_lt hT1)⟩
            clear hq ho c0 c1' c2' c3 c4 hb hT1
            generalize hB : wr.heap.size = B at *
            have HB := Lib.hid hB
            clear hB
            refine region_facts_set 12 (fun _ => false) (FA B q o (.slice (some ⟨ab, ao, none⟩) l.length c) k ⟨ab, ao + k * 5, none⟩ a (doE Pn m a) (doT Pn m a) (doD m a)) (SA B q tb c1 nb o tb2 c2 nb2 Pn S S2 b1 k1 b2 k2 m (baseN b1 a) (lookN m b1 S k1 a) (baseN b2 a) (lookN m b2 S2 k2 a) (doL Pn m a) w ab ao k a) (fun _ x y => Chg (HT q tb nb o tb2 nb2) x y) (List.range' 67 12 ++ []) (by kernel_rfl) (by kernel_rfl) (by kernel_rfl) (by decide) (by kernel_rfl) (by kernel_rfl) (FA.keep hTB) (fun _ _ _ h => h.size) hs0 ?_ ?_
            · intro fr hfr
              have f14 : fr.getD 14 undef = .pointer (some ⟨q, 0, none⟩) := by rw [hfr]; rfl
              have f16 : fr.getD 16 undef = .pointer (some ⟨o, 0, none⟩) := by rw [hfr]; rfl
              have f3 : fr.getD 3 undef = .slice (some ⟨ab, ao, none⟩) l.length c := by rw [hfr]; rfl
              have f18 : fr.getD 18 undef = .int .i64 k := by rw [hfr]; rfl
              clear hfr
              iterate 12
                refine ⟨⟨trivial, ?_⟩, ?_⟩
                · intro ρ w' p hp hdq hρ hd hSt
                  simp only [DepF, Region.binds, dat, Nat.reduceLT, Nat.reduceAdd, FA, Act.val, forall_const, and_true, true_and] at hd
                  have hcon := hρ.con
                  have e14 := (hρ.slot 14 (by kernel_rfl)).trans f14
                  have e16 := (hρ.slot 16 (by kernel_rfl)).trans f16
                  have e3 := (hρ.slot 3 (by kernel_rfl)).trans f3
                  have e18 := (hρ.slot 18 (by kernel_rfl)).trans f18
                  obtain ⟨ca, cb, cc, cd, ce⟩ := hSt.act
                  (try rw [execOp_call_fn _ _ _ _ _ _ _ _ _ (hρ.fn _)])
                  go_simp
                  (try simp only [GoodQ, FA])
                  first
                    | exact ⟨rfl, Chg.refl _ _, fun h => absurd h (by decide), hSt.quiet _ hbb (Below.refl _ _) (by decide) (by decide)⟩
                    | exact ⟨trivial, Chg.refl _ _, fun h => absurd h (by decide), hSt.quiet _ hbb (Below.refl _ _) (by decide) (by decide)⟩
                    | exact hSt.do1 AP hbb hT z hp u1 ua un
                    | exact hSt.do2 AP hbb hT z2 hp u2 ua un
              trivial
            · intro vs w5 hSt hF _
              obtain ⟨ut1, e5, hu1⟩ : ToldAt B (doE Pn m a) (doT Pn m a) (doD m a) (vs 5) w5 := hF 5 (by decide)
              obtain ⟨ut2, e11, hu2⟩ : ToldAt B (doE Pn m a) (doT Pn m a) (doD m a) (vs 11) w5 := hF 11 (by decide)
              have hq := hSt.q1 (by decide)
              have ho := hSt.o1 (by decide)
              have hb := hSt.below
              have hdl : (doD m a).length ≤ 100000 := by
                have := hq.len
                have := z.hP
                unfold doD
                split
                · have := due_lens m a.now; omega
                · simp
              have hsm := rsame_any (doE Pn m a) (doE Pn m a) (doT Pn m a) (doT Pn m a) ut1 ut2 (doD m a) (doD m a) w5 hu1.at_ hu2.at_ hdl hdl
              rw [decide_eq_true ⟨rfl, rfl, rfl⟩] at hsm
              unfold tV at hsm e5 e11
              clear hF hSt hs0 hu1 hu2 hdl
              simp only [List.range'_succ, List.range'_zero, List.cons_append, List.nil_append, List.append_nil, setAll, List.setIfInBounds_toArray, List.set_cons_zero, List.set_cons_succ, Nat.reduceAdd]
              rw [e5, e11]
              simp only [List.drop_succ_cons, List.drop_zero]
              clear e5 e11
              go_wp2_with fail
              refine hsm.mono ?_
              rintro e w6 ⟨rfl, hx⟩
              have hq6 := hq.below hx
              have ho6 := ho.below hx
              have hb6 := hb.trans (Below.mono hx hb.size)
              have hl1 := hq_len q tb c1 nb Pn S _ _ _ w6.drew hq6.drew
              have hl2 := hq_len o tb2 c2 nb2 Pn S2 _ _ _ w6.drew ho6.drew
              clear hsm hq ho hb hx
              go_wp2_with fail
              refine still_all (by kernel_rfl) (by kernel_rfl) ?_
              iterate 6 still_step
              still_call (flip hl1)
              iterate 3 still_step
              still_call (flip hl2)
              repeat still_step
              refine wpStill_nil ?_
              clear hl1 hl2
              go_wp2_with fail
              go_roundw
              case rel => exact ⟨k + 1, _, _, by omega, by go_num, by rw [HSx.out, HB1.out]; exact hq6.drew, by rw [HSx.out, HB2.out]; exact ho6.drew, hb6.drew⟩
              case measure => simp [intOf]; omega
          · have ht : l.take k = l := List.take_of_length_le (by omega)
            rw [ht] at hq ho
            generalize behindL Pn l = m at *
            generalize baseA base l = b1 at *
            generalize baseA start l = b2 at *
            have hmi := hq_min q tb c1 nb Pn S b1 k1 m wr hq z
            have hml := hq.len
            obtain ⟨l1, l2, l3, l4⟩ := hq.lts
            obtain ⟨m1, m2, m3, m4⟩ := ho.lts
            unfold pairT Timer.val at hmi
            generalize hx : m.head?.getD Timer.zero = x at *
            generalize hy : m.head?.isSome = y at *
            go_wp2_with fail
            refine hmi.mono ?_
            rintro e w5 ⟨rfl, hx5⟩
            have hq5 := hq.below hx5
            have ho5 := ho.below hx5
            have hb5 := hb.trans (Below.mono hx5 hb.size)
            have hmi2 := fun ob => hq_min o tb2 c2 nb2 Pn S2 b2 k2 m (w5.alloc ob) (ho5.below (alloc_kept' _ _)) z2
            unfold pairT Timer.val at hmi2
            rw [hx, hy] at hmi2
            clear hmi hq ho hb hx5 hx hy
            go_wp2_with fail
            refine (hmi2 _).mono ?_
            rintro e w7 ⟨rfl, hx7⟩
            have hby := hx7
            have b20 := (Blk.new w5 37 #[.int .u64 x.at_, .int .u64 x.seq, .int .i64 x.place]).below hx7 (by simp)
            have hq7 := (hq5.below (alloc_kept' w5 (.cells #[.int .u64 x.at_, .int .u64 x.seq, .int .i64 x.place] 37))).below hx7
            have ho7 := (ho5.below (alloc_kept' w5 (.cells #[.int .u64 x.at_, .int .u64 x.seq, .int .i64 x.place] 37))).below hx7
            have hb7 := (hb5.alloc hb5.size (.cells #[.int .u64 x.at_, .int .u64 x.seq, .int .i64 x.place] 37)).trans (Below.mono hx7 (by have := hb5.size; simp; omega))
            clear hmi2 hx7 hby hq5 ho5 hb5
            go_upto_region 18 with fail
            have hs0 : SM w7.heap.size q tb c1 nb o tb2 c2 nb2 Pn S S2 b1 k1 b2 k2 m w w5.heap.size w7.heap.size #[.int .u64 x.at_, .int .u64 x.seq, .int .i64 x.place] (fun _ => false) (w7.alloc (.cells #[.int .u64 x.at_, .int .u64 x.seq, .int .i64 x.place] 37)).drew :=
              ⟨(hq7.below (alloc_kept' _ _)).drew, (ho7.below (alloc_kept' _ _)).drew, by simp, (hb7.alloc hb7.size _).drew, (b20.alloc _).drew, (Blk.new _ _ _).drew⟩
            have hmP : m.length ≤ 1000000 := by have := z.hP; omega
            clear hq7 ho7 hb7 b20
            generalize w7.alloc (.cells #[.int .u64 x.at_, .int .u64 x.seq, .int .i64 x.place] 37) = w8 at *
            generalize w7.heap.size = x22 at *
            generalize w5.heap.size = x20 at *
            refine region_facts_set 8 (fun _ => false) (FM x22 q o m) (SM x22 q tb c1 nb o tb2 c2 nb2 Pn S S2 b1 k1 b2 k2 m w x20 x22 #[.int .u64 x.at_, .int .u64 x.seq, .int .i64 x.place]) (fun _ x y => Below x.heap.size x y) (List.range' 107 8 ++ []) (by kernel_rfl) (by kernel_rfl) (by kernel_rfl) (by decide) (by kernel_rfl) (by kernel_rfl) FM.keep (fun _ _ _ h => h.size) hs0 ?_ ?_
            · intro fr hfr
              have f14 : fr.getD 14 undef = .pointer (some ⟨q, 0, none⟩) := by rw [hfr]; rfl
              have f16 : fr.getD 16 undef = .pointer (some ⟨o, 0, none⟩) := by rw [hfr]; rfl
              clear hfr
              iterate 8
                refine ⟨⟨trivial, ?_⟩, ?_⟩
                · intro ρ w' p hp hdq hρ hd hSt
                  simp only [DepF, Region.binds, dat, Nat.reduceLT, Nat.reduceAdd, FM, forall_const, and_true, true_and] at hd
                  have hcon := hρ.con
                  have e14 := (hρ.slot 14 (by kernel_rfl)).trans f14
                  have e16 := (hρ.slot 16 (by kernel_rfl)).trans f16
                  (try rw [execOp_call_fn _ _ _ _ _ _ _ _ _ (hρ.fn _)])
                  go_simp
                  (try simp only [GoodQ, FM])
                  first
                    | exact ⟨rfl, Below.refl _ _, fun h => absurd h (by decide), hSt.keep (Below.refl _ _)⟩
                    | exact ⟨trivial, Below.refl _ _, fun h => absurd h (by decide), hSt.keep (Below.refl _ _)⟩
                    | (refine (hq_all q tb c1 nb Pn S b1 k1 m w' hSt.q z).mono ?_; rintro e w'' ⟨v', rfl, hO, hk'⟩; exact ⟨v', rfl, hO.lf.mono hSt.size, hk', fun h => absurd h (by decide), hSt.keep hk'⟩)
                    | (refine (hq_all o tb2 c2 nb2 Pn S2 b2 k2 m w' hSt.o z2).mono ?_; rintro e w'' ⟨v', rfl, hO, hk'⟩; exact ⟨v', rfl, hO.lf.mono hSt.size, hk', fun h => absurd h (by decide), hSt.keep hk'⟩)
              trivial
            · intro vs w9 hSt hF _
              have h3 : LF x22 w9 (vs 3) m := hF 3 (by decide)
              have h7 : LF x22 w9 (vs 7) m := hF 7 (by decide)
              have hsm := same_refl (vs 3) (vs 7) _ w9 h3.at_ h7.at_ hmP
              clear hF h3 h7 hs0
              simp only [List.range'_succ, List.range'_zero, List.cons_append, List.nil_append, List.append_nil, setAll, List.setIfInBounds_toArray, List.set_cons_zero, List.set_cons_succ, Nat.reduceAdd]
              simp only [List.drop_succ_cons, List.drop_zero]
              go_wp2_with fail
              refine hsm.mono ?_
              rintro e w10 ⟨rfl, hx⟩
              have s10 := hSt.keep (p' := fun _ => true) hx
              have y20 := s10.b20.cell
              have y22 := s10.b22.cell
              have HK := Lib.hid s10.below
              clear hsm hx hSt s10
              go_wp2_with fail
              go_ret
              exact ⟨rfl, HK.out⟩
      · have hn := hnew_ok P bits base w1 hok
        have hn2 := fun w2 => hnew_bad P other start w2 hok2
        clear hA hok hok2
        go_wp2_with fail
        refine hn.mono ?_
        rintro e w2 ⟨q, tb, c, nb, rfl, hq, hx, g1, g2, g3, g4⟩
        have HB := Lib.hid (hb.trans (Below.mono hx hb.size))
        clear hq hx g1 g2 g3 g4 hb hn
        go_wp2_with fail
        refine (hn2 _).mono ?_
        rintro e w3 ⟨rfl, rfl⟩
        unfold nilE
        clear hn2
        go_wp2_with fail
        go_ret
        exact ⟨rfl, HB.out⟩
    · by_cases hok2 : NewOk P other
      · have hn := hnew_bad P bits base w1 hok
        have hn2 := hnew_ok P other start w1 hok2
        clear hA hok hok2
        go_wp2_with fail
        refine hn.mono ?_
        rintro e w2 ⟨rfl, rfl⟩
        unfold nilE
        go_wp2_with fail
        refine hn2.mono ?_
        rintro e w2 ⟨q, tb, c, nb, rfl, hq, hx, g1, g2, g3, g4⟩
        have HB := Lib.hid (hb.trans (Below.mono hx hb.size))
        clear hq hx g1 g2 g3 g4 hb hn hn2
        go_wp2_with fail
        go_ret
        exact ⟨rfl, HB.out⟩
      · have hn := hnew_bad P bits base w1 hok
        have hn2 := hnew_bad P other start w1 hok2
        have HB := Lib.hid hb
        clear hA hok hok2 hb
        go_wp2_with fail
        refine hn.mono ?_
        rintro e w2 ⟨rfl, rfl⟩
        unfold nilE
        go_wp2_with fail
        refine hn2.mono ?_
        rintro e w2 ⟨rfl, rfl⟩
        unfold nilE
        go_wp2_with fail
        go_ret
        exact ⟨rfl, HB.out⟩
end Go.Proofs.YtckkfbepclogcaaDoor
