/- Part 24: the texts Rls Rlt Rlo Rdue Rdo Rpot Rwk LawRF, laid end to end by a program. -/
import Derived.Maps.AppendAt
import Derived.Test.YtckkfbepclogcaaGreatDoorPk19
import Derived.Test.YtckkfbepclogcaaGreatDoorPk22
import Derived.Test.YtckkfbepclogcaaGreatDoorPk23
import Derived.Test.YtckkfbepclogcaaGreatDoorPk21
namespace Go.Proofs.YtckkfbepclogcaaGreatDoor
open Go.RowKit
theorem dhorizon_u {P b B : Nat} (z : RSz P b B) {base : Int} (hb : U64 base) (w : World) :
    Calls Tryz.prog 82 #[.int .u64 base, .int .i64 b] w fun e w' => e = .returned (.int .u64 (horN (B : Int) base)) ∧ w = w' := by
  obtain ⟨x, rfl, hx⟩ := u64_nat hb
  exact dhorizon_any b B z.hB ⟨z.h1, z.h6⟩ x hx w
theorem RM.tabne {w : World} {q tb c nb P b B : Nat} {s : HSt} {rg : Nat → Bits} {n cas : Int} (h : RM w q tb c nb P b B s rg n cas) (hT : TabAt w) : 0 ≠ q ∧ 0 ≠ tb ∧ 0 ≠ nb := by
  have h0 := hT 0 (by decide)
  refine ⟨fun e => ?_, fun e => ?_, fun e => ?_⟩
  · have h1 := h.blk.cell 0
    rw [← e, h0] at h1
    cases h1
  · have h1 := h.tms.cell 0
    rw [← e, h0] at h1
    by_cases hP : 0 < P
    · have h2 := tmC_at P s.tm 0 hP
      rw [Nat.zero_mul] at h2
      rw [h2] at h1
      cases h1
    · rw [Array.getElem?_eq_none (by rw [tmC_size]; omega)] at h1
      cases h1
  · obtain ⟨nx, pv, h3, _⟩ := h.ch.st
    have h1 := h3.nod.cell 0
    rw [← e, h0] at h1
    have h2 := nodeC_nx (P + (4 * B + 2)) nx pv s.inn 0 (by omega)
    rw [Nat.zero_mul] at h2
    rw [h2] at h1
    cases h1
/-- The wheel at q, its pointer boxed at bx; the list l taken out, its row told in the box b6. -/
structure LS (w0 : World) (bx b6 q tb c nb P b B : Nat) (s : HSt) (n cas : Int) (l : List Timer) (W : World) : Prop where
  bx : Blk W bx 25 #[.pointer (some ⟨q, 0, none⟩)]
  m : ∃ rg, RM W q tb c nb P b B s rg n cas
  l6 : ∃ A k, Blk W b6 29 #[.slice A l.length k] ∧ OwnT W (b6 + 1) (.slice A l.length k) l
  chg : Chg (fun g => g = q ∨ g = nb) w0 W
  tab : TabAt W
/-- Where things lie. -/
structure LA (w0 : World) (bx b6 q tb c nb : Nat) : Prop where
  hq : q < w0.heap.size
  ht : tb < w0.heap.size
  hc : c < w0.heap.size
  hn : nb < w0.heap.size
  hg : 0 < w0.heap.size
  hx : w0.heap.size ≤ bx
  h6 : bx < b6
section
variable {w0 W W' : World} {bx b6 q tb c nb P b B : Nat} {s s' : HSt} {n cas : Int} {l : List Timer}
theorem LS.below (h : LS w0 bx b6 q tb c nb P b B s n cas l W) (r : Below W.heap.size W W') : LS w0 bx b6 q tb c nb P b B s n cas l W' := by
  obtain ⟨rg, h1⟩ := h.m
  obtain ⟨A, k, h2, h3⟩ := h.l6
  exact ⟨h.bx.below r h.bx.lt, ⟨rg, h1.below r⟩, ⟨A, k, h2.below r h2.lt, ownsRow_keep h3 fun g hg _ => r.block g hg⟩, h.chg.trans (Chg.of_same r (fun g => g = q ∨ g = nb)) (fun _ _ e => e), h.tab.below r (glob_lt h.tab)⟩
theorem LS.drop (h : LS w0 bx b6 q tb c nb P b B s n cas l W) (A : LA w0 bx b6 q tb c nb) {rg' : Nat → Bits} (hm : RM W' q tb c nb P b B s' rg' n cas) (r : Chg (fun g => g = q ∨ g = nb) W W') : LS w0 bx b6 q tb c nb P b B s' n cas l W' := by
  have a1 := A.hq; have a2 := A.hn; have a3 := A.hx; have a4 := A.h6
  obtain ⟨rg, h1⟩ := h.m
  obtain ⟨A1, k, h2, h3⟩ := h.l6
  have ht := h1.tabne h.tab
  refine ⟨h.bx.chg r (fun e => by omega), ⟨rg', hm⟩, ⟨A1, k, h2.chg r (fun e => by omega), h3.chg r fun g hg e => ?_⟩, h.chg.trans r (fun _ _ e => e), h.tab.chg r (fun e => ?_)⟩
  · have := own_base h3 g hg
    omega
  · rcases e with e | e
    · exact ht.1 e
    · exact ht.2.2 e
theorem LS.app (h : LS w0 bx b6 q tb c nb P b B s n cas l W) (A : LA w0 bx b6 q tb c nb) {u v : Value} {m : List Timer} {W1 : World} (hu : Blk W b6 29 #[u]) (ho : OwnT W (b6 + 1) u l) (ho1 : OwnT W1 (b6 + 1) v m) (hg : W.grownBy W1 u.ownBlock) :
    LS w0 bx b6 q tb c nb P b B s n cas m (W1.setCell ⟨b6, 0, none⟩ v) := by
  have a1 := A.hq; have a2 := A.hn; have a3 := A.hx; have a4 := A.h6; have a5 := A.ht; have a6 := A.hc
  have a7 := A.hg
  obtain ⟨rg, h1⟩ := h.m
  have k1 := grown_chg' hg
  have hb := own_base ho
  have hc : ∀ x, x ≤ b6 → ¬ u.ownBlock = some x := fun x hx e => by have := hb x e; omega
  have k2 : Chg (fun g => g = b6) W1 (W1.setCell ⟨b6, 0, none⟩ v) := (Chg.refl (fun g => g = b6) W1).setCell (fun _ => rfl) _
  have hu1 := hu.chg k1 (hc _ (Nat.le_refl _))
  have hvb := own_base ho1
  obtain ⟨A1, c1, rfl, _⟩ := ho1.at
  refine ⟨(h.bx.chg k1 (hc _ (by omega))).chg k2 (show ¬ bx = b6 by omega), ⟨rg, (h1.chg k1 (hc _ (by omega)) (hc _ (by omega)) (hc _ (by omega)) (hc _ (by omega))).chg k2 (show ¬ q = b6 by omega) (show ¬ tb = b6 by omega) (show ¬ c = b6 by omega) (show ¬ nb = b6 by omega)⟩, ⟨A1, c1, hu1.put 0 _, ho1.chg k2 fun g hg e => ?_⟩, (h.chg.trans k1 (fun g hg e => ?_)).trans k2 (fun g hg e => ?_), (h.tab.chg k1 (hc _ (by omega))).chg k2 (show ¬ 0 = b6 by omega)⟩
  · have := hvb g hg
    have e' : g = b6 := e
    omega
  · have := hb g e
    omega
  · have e' : g = b6 := e
    omega
end
/-- What the operations ahead of an append yield: fixed values, and in number 8 a list of one, just built. -/
def FL (l : List Value) (Bk : Nat) (y : Timer) (j : Nat) (v : Value) (w : World) : Prop := if j = 8 then LF Bk w v [y] else v = l.getD j undef
theorem FL.keep {l : List Value} {Bk : Nat} {y : Timer} (i j : Nat) (v : Value) (w w' : World) (_ : j ≠ i) (h : FL l Bk y j v w) (r : Below w.heap.size w w') : FL l Bk y j v w' := by
  unfold FL at h ⊢
  split at h
  · rename_i hj
    rw [if_pos hj]
    exact h.chg (Chg.of_same r (fun _ => False)) (fun _ e => e.elim)
  · rename_i hj
    rw [if_neg hj]
    exact h
/-- How long the row in the box is. -/
def lenW (b6 : Nat) (W : World) : Nat := match W.cell? ⟨b6, 0, none⟩ with
  | some (.slice _ n _) => n
  | _ => 0
theorem LS.len {w0 W : World} {bx b6 q tb c nb P b B : Nat} {s : HSt} {n cas : Int} {l : List Timer} (h : LS w0 bx b6 q tb c nb P b B s n cas l W) : lenW b6 W = l.length := by
  obtain ⟨A, k, h2, _⟩ := h.l6
  unfold lenW
  rw [h2.cell 0]
  rfl
end Go.Proofs.YtckkfbepclogcaaGreatDoor
namespace Go.Proofs.YtckkfbepclogcaaGreatDoor
open Go.RowKit Go.Shelf Go.Sort
/-- The types of the blocks that the taking out may turn. -/
def Four (t : TypeId) : Prop := t = 81 ∨ t = 114 ∨ t = 37 ∨ t = 29
instance (t : TypeId) : Decidable (Four t) := inferInstanceAs (Decidable (_ ∨ _ ∨ _ ∨ _))
structure KT (W W' : World) : Prop where
  size : W.heap.size ≤ W'.heap.size
  block : ∀ g, g < W.heap.size → (∀ t cs, Blk W g t cs → ¬ Four t) → W'.heap[g]? = W.heap[g]?
theorem KT.refl (W : World) : KT W W := ⟨Nat.le_refl _, fun _ _ _ => rfl⟩
theorem KT.trans {W W' W'' : World} (h : KT W W') (k : KT W' W'') : KT W W'' := ⟨Nat.le_trans h.size k.size, fun g hg hn => by
  have e := h.block g hg hn
  refine (k.block g (Nat.lt_of_lt_of_le hg h.size) fun t cs hb => hn t cs ?_).trans e
  unfold Blk at hb ⊢
  rwa [e] at hb⟩
theorem KT.below {W W' : World} (r : Below W.heap.size W W') : KT W W' := ⟨r.size, fun g hg _ => r.block g hg⟩
theorem KT.blk {W W' : World} {g : Nat} {t : TypeId} {cs : Array Value} (h : KT W W') (hb : Blk W g t cs) (ht : ¬ Four t) : Blk W' g t cs :=
  (h.block g hb.lt fun t' cs' h' => by rw [← (hb.same h').2]; exact ht).trans hb
theorem KT.keeps {W W' : World} (h : KT W W') (Bk : Nat) : KeepsFrom Bk W W' :=
  ⟨h.size, fun k o _ hk ho => (h.block k (Array.getElem?_eq_some_iff.1 hk).1 fun t cs hb => by
    unfold Blk at hb
    rw [hk] at hb
    injection hb with hb
    subst hb
    cases ho).trans hk⟩
theorem KT.nats {W W' : World} {A : Option Addr} {xs : List Nat} (h : KT W W') (k : NatsAt W A xs) : NatsAt W' A xs := k.keep fun g cur hb => h.block g hb.lt fun t cs h' => by rw [← (hb.same h').2]; decide
theorem KT.drop {W W' : World} {q tb c nb P b B : Nat} {s : HSt} {rg : Nat → Bits} {n cas : Int} (h : RM W q tb c nb P b B s rg n cas) (r : Chg (fun g => g = q ∨ g = nb) W W') : KT W W' :=
  ⟨r.size, fun g hg hn => r.block g hg fun e => by
    rcases e with rfl | rfl
    · exact hn _ _ h.blk (.inl rfl)
    · obtain ⟨nx, pv, h1, _⟩ := h.ch.st
      exact hn _ _ h1.nod (.inr (.inl rfl))⟩
theorem KT.app {W W1 : World} {b6 base : Nat} {u v : Value} {l : List Timer} (hu : Blk W b6 29 #[u]) (ho : OwnT W base u l) (hg : W.grownBy W1 u.ownBlock) : KT W (W1.setCell ⟨b6, 0, none⟩ v) := by
  have k1 := grown_chg' hg
  refine ⟨by simpa [World.setCell] using k1.size, fun g hgs hn => ?_⟩
  have h1 : g ≠ b6 := fun e => by
    subst e
    exact hn _ _ hu (.inr (.inr (.inr rfl)))
  have h2 : ¬ u.ownBlock = some g := fun e => by
    obtain ⟨cur, hc⟩ := own_blk ho g e
    exact hn _ _ hc (.inr (.inr (.inl rfl)))
  exact (Below.heap_setCell _ _ _ _ h1).trans (k1.block g hgs h2)
theorem RM.ck {w w' : World} {q tb c nb P b B : Nat} {s : HSt} {rg : Nat → Bits} {n cas : Int} (h : RM w q tb c nb P b B s rg n cas) (k : CK w w') : RM w' q tb c nb P b B s rg n cas := ⟨h.blk.ck k, h.tms.ck k, h.ch.ck k, h.busy, h.ok⟩
/-- What is due to be taken of the slots. -/
def SlD (B : Nat) (base now : Int) (x : Timer) : Prop := ∃ l : Nat, l < 4 ∧ lev B base x.at_ = l ∧ floorN B x.at_ l ≤ now
/-- Between two slots. -/
structure LI (bx b6 q tb c nb P b B bq bn : Nat) (sB : HSt) (n cas now : Int) (lB : List Timer) (w0 : World) (pre : List Nat) (W : World) : Prop where
  bq : Blk W bq 25 #[.pointer (some ⟨q, 0, none⟩)]
  bn : Blk W bn 22 #[.int .u64 now]
  st : ∃ s' lC, LS w0 bx b6 q tb c nb P b B s' n cas (lB ++ lC) W ∧ Took P (4 * B + 2) (hslot B) sB (SlD B sB.base now) lC s' ∧ (∀ o, nxo pre ≤ o → s'.L o = sB.L o) ∧ ∀ i, i < P → ∀ o, o < nxo pre → s'.inn i = some o → now < bgN B sB.base o
theorem LI.own {bx b6 q tb c nb P b B bq bn Bk : Nat} {sB : HSt} {n cas now : Int} {lB : List Timer} {w0 : World} (hB : w0.heap.size ≤ Bk) : OwnFrom Bk (LI bx b6 q tb c nb P b B bq bn sB n cas now lB w0) := fun pre X Y row hs hg hr => by
  have k := ck_of hg (fun r e => (hr r e).2)
  obtain ⟨s', lC, hS, h2, h3, h4⟩ := hs.st
  obtain ⟨rg, hm⟩ := hS.m
  obtain ⟨A, c1, g1, g2⟩ := hS.l6
  exact ⟨hs.bq.ck k, hs.bn.ck k, s', lC, ⟨hS.bx.ck k, ⟨rg, hm.ck k⟩, ⟨A, c1, g1.ck k, g2.ck k⟩, chg_ownFrom (β := List Nat) hB pre X Y row hS.chg hg hr, hS.tab.ck k⟩, h2, h3, h4⟩
theorem LI.view {bx b6 q tb c nb P b B bq bn : Nat} {sB : HSt} {n cas now : Int} {lB : List Timer} {w0 : World} {pre : List Nat} {W : World} (h : LI bx b6 q tb c nb P b B bq bn sB n cas now lB w0 pre W) : BegV q bq bn tb c P b B sB.base now (busyAt sB) pre W := by
  obtain ⟨s', lC, hS, h2, h3, h4⟩ := h.st
  obtain ⟨rg, hm⟩ := hS.m
  refine ⟨h.bq, h.bn, hS.tab, rg, busyAt s', n, cas, ?_, hm.busy, fun o ho => ?_⟩
  · rw [← h2.base]
    exact hm.blk
  · unfold busyAt
    rw [h3 o ho]
end Go.Proofs.YtckkfbepclogcaaGreatDoor
namespace Go.Proofs.YtckkfbepclogcaaGreatDoor
open Go.RowKit Go.Shelf Go.Sort
attribute [local go_sem] Oper.semAt_some

theorem headI_nil : headI [] = none := rfl
theorem headI_cons (i : Nat) (r : List Nat) : headI (i :: r) = some (i : Int) := rfl
theorem normal_only {F : Fence} {n : Nat} {P : Program} {c : Code} {Q : Exit → Go.Act → World → Prop} {a : Go.Act} {w : World} (h : c.wpIn F n P (Exit.then (fun a w => Q .normal a w) (fun _ _ _ => False)) a w) : c.wpIn F n P Q a w :=
  wpIn_mono h fun e a w hq => by cases e <;> first | exact hq | exact hq.elim
/-- The facts ahead of the loop over a slot's timers: fixed values; number 8 is the row of the list. -/
def FN (l : List Value) (xs : List Nat) (j : Nat) (v : Value) (w : World) : Prop := if j = 8 then ∃ A cap, v = .slice A xs.length cap ∧ NatsAt w A xs else v = l.getD j undef
theorem FN.keep {l : List Value} {xs : List Nat} (i j : Nat) (v : Value) (w w' : World) (_ : j ≠ i) (h : FN l xs j v w) (r : Below w.heap.size w w') : FN l xs j v w' := by
  unfold FN at h ⊢
  split at h
  · rename_i hj
    rw [if_pos hj]
    obtain ⟨A, cap, e, h⟩ := h
    exact ⟨A, cap, e, h.keep fun g cur hb => r.block g hb.lt⟩
  · rename_i hj
    rw [if_neg hj]
    exact h
set_option linter.unusedSimpArgs false in
set_option maxRecDepth 100000 in
set_option maxHeartbeats 4000000 in
theorem loose_in (q tb c nb P b B K : Nat) (s0 : HSt) (rg0 : Nat → Bits) (n cas now : Int) (w : World) (h : RM w q tb c nb P b B s0 rg0 n cas) (z : RSz P b B) (hK : Hid (4 * B + 1 = K)) (hb : U64 s0.base) (hw : U64 now) (hT : TabAt w) :
    CallsIn Fence.wide 3 Tryz.prog 57 #[.pointer (some ⟨q, 0, none⟩), .int .u64 now] w fun e w' => ∃ v lB lC sB s' rg', e = .returned (.tuple #[v, .int .i64 lB.length]) ∧ RM w' q tb c nb P b B s' rg' n cas ∧ OwnT w' w.heap.size v (lB ++ lC) ∧
      Took P (4 * B + 2) (hslot B) s0 (fun x => lev B s0.base x.at_ = 4 ∧ x.at_ ≤ horN B now) lB sB ∧ (∀ i, i < P → sB.inn i = some K → horN B now < (sB.tm i).at_) ∧
      Took P (4 * B + 2) (hslot B) sB (fun x => ∃ l : Nat, l < 4 ∧ lev B s0.base x.at_ = l ∧ floorN B x.at_ l ≤ now) lC s' ∧ HrOk P B s' ∧ (∀ i, i < P → ∀ o, o < 4 * B → s'.inn i = some o → now < bgN B s0.base o) ∧ Chg (fun g => g = q ∨ g = nb) w w' := by
  have hP := z.hP
  have hB64 := z.le
  obtain ⟨l0, l1, l2, l3⟩ := h.lts
  have hgt := glob_lt hT
  have hbx0 := two_new w (.cells #[.pointer (some ⟨q, 0, none⟩)] 25) (.cells #[.slice none 0 0] 29)
  have hB1 : Blk ((w.alloc (.cells #[.pointer (some ⟨q, 0, none⟩)] 25)).alloc (.cells #[.slice none 0 0] 29)) w.heap.size 25 #[.pointer (some ⟨q, 0, none⟩)] := (Blk.new _ _ _).alloc _
  have hB2 : Blk ((w.alloc (.cells #[.pointer (some ⟨q, 0, none⟩)] 25)).alloc (.cells #[.slice none 0 0] 29)) (w.heap.size + 1) 29 #[.slice none 0 0] := alloc2_at _ _ _ _
  have hS0 : LS w w.heap.size (w.heap.size + 1) q tb c nb P b B s0 n cas [] ((w.alloc (.cells #[.pointer (some ⟨q, 0, none⟩)] 25)).alloc (.cells #[.slice none 0 0] 29)) :=
    ⟨hB1, ⟨rg0, h.below hbx0⟩, ⟨none, 0, hB2, OwnT.nil _ _⟩, Chg.of_same hbx0 _, hT.below hbx0 hgt⟩
  have AL : LA w w.heap.size (w.heap.size + 1) q tb c nb := ⟨l0, l1, l2, l3, hgt, Nat.le_refl _, Nat.lt_succ_self _⟩
  have hT0 := Took.refl (P := P) (N := 4 * B + 2) (f := hslot B) h.ok.ok (fun x => lev B s0.base x.at_ = 4 ∧ x.at_ ≤ horN B now)
  have hok0 := h.ok
  clear hB1 hB2
  refine callsIn_of_wp_marks Tryz.func57 rfl trivial ?_ rfl
  simp only [Tryz.ntmps57, List.size_toArray, List.length_cons, List.length_nil, Nat.reduceAdd, Nat.reduceSub, Array.replicate_succ, Array.replicate_zero, List.push_toArray, List.append_toArray, List.nil_append, List.cons_append]
  have hl0 : ([] : List Timer).length = 0 := rfl
  gi_wp2_with fail
  generalize (w.alloc (.cells #[.pointer (some ⟨q, 0, none⟩)] 25)).alloc (.cells #[.slice none 0 0] 29) = W1 at *
  refine no_exit (wpIn_wide.2 ?_)
  clear h hbx0
  obtain ⟨rg, hm⟩ := hS0.m
  have hkp1 := fun w' (hx : Below W1.heap.size W1 w') => rkept_any q tb c P b B _ _ n cas w' (hm.blk.below hx hm.blk.lt) z
  have hfi1 := fun w' (hx : Below W1.heap.size W1 w') => cfirst_any c nb P (4 * B + 2) (4 * B + 1) _ _ w' (hm.ch.below hx) (by omega) (by omega)
  unfold pairV at hfi1
  rw [hK.out] at hkp1 hfi1
  have hbx := hS0.bx
  have hqb := hm.blk
  generalize hx0 : (headI (s0.L K)).getD 0 = x0 at *
  generalize hy0 : (headI (s0.L K)).isSome = y0 at *
  have hs0 : Below W1.heap.size W1 W1.drew := (Below.refl _ _).drew
  refine region_facts_set 12 (fun _ => false) (FV [.pointer (some ⟨q, 0, none⟩), .pointer (some ⟨q, 0, none⟩), .pointer (some ⟨q, 1, none⟩), .pointer (some ⟨c, 0, none⟩), .pointer (some ⟨q, 0, none⟩), .int .i64 K, .tuple #[.int .i64 x0, .bool y0], .tuple #[.int .i64 x0, .bool y0], .int .i64 x0, .bool y0, .int .i64 x0, .bool y0]) (fun _ x => Below W1.heap.size W1 x) (fun _ x y => x.heap.size ≤ y.heap.size) [15, 16, 17, 18, 19, 20, 21, 14, 22, 23, 7, 8] (by kernel_rfl) (by kernel_rfl) (by kernel_rfl) (by decide) (by kernel_rfl) (by kernel_rfl) (fun _ _ _ _ _ _ h _ => h) (fun _ _ _ h => h) hs0 ?_ ?_
  · intro fr hfr
    have f2 : fr.getD 2 undef = .pointer (some ⟨w.heap.size, 0, none⟩) := by rw [hfr]; rfl
    clear hfr
    iterate 12
      refine ⟨⟨by first | trivial | exact ⟨rfl, fun _ _ h => h⟩, ?_⟩, ?_⟩
      · intro ρ w' p hp hdq hρ hd hSt
        simp only [DepF, Region.binds, List.getD_cons_zero, List.getD_cons_succ, FV, forall_const, and_true, true_and] at hd
        have hcon := hρ.con
        have e2 := (hρ.slot 2 (by kernel_rfl)).trans f2
        (have eb := (hqb.below hSt hqb.lt).cell; unfold rCells at eb; have ex := (hbx.below hSt hbx.lt).cell)
        (try rw [execOp_call_fn _ _ _ _ _ _ _ _ _ (hρ.fn _)])
        go_simp
        (try simp only [GoodQ, FV, List.getD_cons_zero, List.getD_cons_succ])
        first
          | exact ⟨rfl, Nat.le_refl _, fun h => absurd h (by decide), hSt⟩
          | exact ⟨trivial, Nat.le_refl _, fun h => absurd h (by decide), hSt⟩
          | (refine (hkp1 w' hSt).mono ?_; rintro e w'' ⟨rfl, rfl⟩; exact ⟨_, rfl, rfl, Nat.le_refl _, fun h => absurd h (by decide), hSt⟩)
          | (refine (hfi1 w' hSt).mono ?_; rintro e w'' ⟨rfl, hx⟩; exact ⟨_, rfl, rfl, hx.size, fun h => absurd h (by decide), hSt.trans (Below.mono hx hSt.size)⟩)
    trivial
  · intro vs w2 hSt hF _
    have h10 : vs 10 = .int .i64 x0 := hF 10 (by decide)
    have h11 : vs 11 = .bool y0 := hF 11 (by decide)
    have hS1 := hS0.below hSt
    simp only [setAll, List.setIfInBounds_toArray, List.set_cons_zero, List.set_cons_succ, Nat.reduceAdd]
    rw [h10, h11]
    simp only [List.drop_succ_cons, List.drop_zero, List.drop_nil]
    clear h10 h11 hF hs0 hSt hkp1 hfi1 hbx hqb hm hS0
    go_wp2_with fail
    gi_wp2_with fail
    gi_loopw [7, 8] (fun x y wr => ∃ s l, LS w w.heap.size (w.heap.size + 1) q tb c nb P b B s n cas l wr ∧ Took P (4 * B + 2) (hslot B) s0 (fun x => lev B s0.base x.at_ = 4 ∧ x.at_ ≤ horN B now) l s ∧ x = .int .i64 ((headI (s.L K)).getD 0) ∧ y = .bool (headI (s.L K)).isSome) (fun _ _ wr => P + 1 - lenW (w.heap.size + 1) wr)
    case atStart => exact ⟨s0, [], hS1, hT0, by rw [hx0], by rw [hy0]⟩
    case round =>
      clear hS1
      obtain ⟨s, l, hS, hTk, rfl, rfl⟩ := hrel
      obtain ⟨rg2, hm⟩ := hS.m
      have hok := hm.ok
      have htm := hTk.tm
      have hbs := hTk.base
      have hll := hTk.len
      have hp0 : (s0.pend P).length ≤ P := pendL_le _ _ _
      cases hLK : s.L K with
      | nil =>
        have KB : Hid (∀ i, i < P → s.inn i = some K → horN B now < (s.tm i).at_) := Lib.hid (by
          have := kept_all (now := now) hok (.inl (by rw [hK.out]; exact hLK))
          rwa [hK.out] at this)
        simp only [headI_nil, Option.getD_none, Option.isSome_none]
        have hS2 := hS.below (Below.refl _ _).drew
        have hmix : Tryz.prog.follows .mixedOrders = true := by kernel_rfl
        clear hm hS hLK hx0 hy0
        gi_wp2_with fail
        refine wpIn_wide.2 ?_
        go_big_region_o
        clear hmix
        generalize wr.drew = wr2 at *
        have HBS := Lib.hid hbs
        have hln := Lib.hid hS2.len
        have hb6l : w.heap.size + 1 < wr2.heap.size := by
          obtain ⟨A, k, h2, _⟩ := hS2.l6
          exact h2.lt
        obtain ⟨A6, k6, hb6, _⟩ := hS2.l6
        have hcx := hS2.bx.cell
        have hcx6 := hb6.cell
        have hll3 : l.length ≤ P := by omega
        clear hb6 htm hbs
        go_wp2_with fail
        gi_wp2_with fail
        refine ⟨trivial, CallsIn.mono (callsIn_wide.2 (vbegun_any q now wr2)) ?_⟩
        rintro e w3 ⟨rfl, rfl⟩
        clear hcx hcx6
        have hb4 := two_new wr2 (.cells #[.pointer (some ⟨q, 0, none⟩)] 25) (.cells #[.int .u64 now] 22)
        have hC1 : Blk ((wr2.alloc (.cells #[.pointer (some ⟨q, 0, none⟩)] 25)).alloc (.cells #[.int .u64 now] 22)) wr2.heap.size 25 #[.pointer (some ⟨q, 0, none⟩)] := (Blk.new _ _ _).alloc _
        have hC2 : Blk ((wr2.alloc (.cells #[.pointer (some ⟨q, 0, none⟩)] 25)).alloc (.cells #[.int .u64 now] 22)) (wr2.heap.size + 1) 22 #[.int .u64 now] := alloc2_at _ _ _ _
        have hst : LI w.heap.size (w.heap.size + 1) q tb c nb P b B wr2.heap.size (wr2.heap.size + 1) s n cas now l w [] ((wr2.alloc (.cells #[.pointer (some ⟨q, 0, none⟩)] 25)).alloc (.cells #[.int .u64 now] 22)) :=
          ⟨hC1, hC2, s, [], by rw [List.append_nil]; exact hS2.below hb4, Took.refl hok.ok _, fun _ _ => rfl, fun _ _ _ h => by rw [nxo_nil] at h; omega⟩
        have hsw : w.heap.size ≤ ((wr2.alloc (.cells #[.pointer (some ⟨q, 0, none⟩)] 25)).alloc (.cells #[.int .u64 now] 22)).heap.size := by simp; omega
        clear hC1 hC2 hb4 hS2
        generalize hq1 : wr2.heap.size = bq at *
        generalize (wr2.alloc (.cells #[.pointer (some ⟨q, 0, none⟩)] 25)).alloc (.cells #[.int .u64 now] 22) = w5 at *
        gi_wp2_with fail
        refine range_I rfl (by omega) (gf := 103) (lb := #[.pointer (some ⟨bq, 0, none⟩), .pointer (some ⟨bq + 1, 0, none⟩)]) rfl trivial (enters_of Tryz.func103 (by kernel_rfl) rfl)
          (beg_seq 2 (by omega) q bq (bq + 1) tb c P b B s.base now (busyAt s) z (by rw [HBS.out]; exact hb) hw w5) (Nat.le_refl _) (fun _ => rfl)
          (LI w.heap.size (w.heap.size + 1) q tb c nb P b B bq (bq + 1) s n cas now l w) (fun _ _ _ => False) (LI.own hsw) (fun _ _ _ _ _ h _ _ => h) (fun pre W h => h.view) hst ?a1 ?assign1 ?body1 ?done1 ?stop1
        case assign1 =>
          intro l x W K hK
          gi_wp2
          exact hK
        case stop1 =>
          rintro D e pre W hD h hK
          exact h.elim
        case body1 =>
          rintro lb pre x W hI ⟨hG1, hG2, hG3, hG4, hG5⟩
          obtain ⟨s1, l1, hS1, hT1, hL1, hG6⟩ := hI.st
          obtain ⟨rg1, hm1⟩ := hS1.m
          have hB0 := z.pos
          have hxB : x / B < 4 := Nat.div_lt_of_lt_mul (by rw [Nat.mul_comm]; exact hG2)
          have hxk : x % B < B := Nat.mod_lt _ hB0
          have hxx : x / B * B + x % B = x := Nat.div_add_mod' x B
          have hli := fun w' (hx : Below W.heap.size W w') => rlist_at q tb c P b B (x / B) (x % B) _ _ n cas w' (hm1.blk.below hx hm1.blk.lt) z hxB hxk
          rw [hxx] at hli
          have hal := fun w' (hx : Below W.heap.size W w') => call_any c nb P (4 * B + 2) x _ _ w' (hm1.ch.below hx) (by omega) (by omega)
          have hbx := hS1.bx
          have hqb := hm1.blk
          have hxs := Lib.hid (hL1 x hG1)
          have hnd := hm1.ok.ok.nodup x (by omega)
          have hmem := fun i hi => (hm1.ok.ok.mem x (by omega) i hi).1
          have hsw0 := Swp.start (P := P) hm1.ok.ok (show x < 4 * B + 2 by omega) (fun _ => False)
          have hok1 := hm1.ok
          generalize hxe : s1.L x = xs at *
          have hxe := Lib.hid hxe
          have hs0 : Below W.heap.size W W.drew := (Below.refl _ _).drew
          gi_wp2_with fail
          refine no_exit ?_
          refine round_facts_deep 11 (fun _ => false) (FN [.pointer (some ⟨q, 0, none⟩), .pointer (some ⟨q, 0, none⟩), .pointer (some ⟨q, 1, none⟩), .pointer (some ⟨c, 0, none⟩), .pointer (some ⟨q, 0, none⟩), .int .i64 (x / B : Nat), .int .i64 (x % B : Nat), .int .i64 x, undef, .int .i64 xs.length, .int .i64 0] xs) (fun _ x => Below W.heap.size W x) (fun _ x y => Below x.heap.size x y) [72, 73, 74, 75, 76, 77, 78, 79, 80, 81, 82] (by kernel_rfl) (by kernel_rfl) (by kernel_rfl) (by kernel_rfl) (by decide) (by kernel_rfl) (by kernel_rfl) FN.keep (fun _ _ _ h => h.size) hs0 ?_ ?_
          · intro fr hfr
            have f2 : fr.getD 2 undef = .pointer (some ⟨w.heap.size, 0, none⟩) := by rw [hfr]; rfl
            have f10 : fr.getD 10 undef = .int .i64 (x / B : Nat) := by rw [hfr]; rfl
            have f11 : fr.getD 11 undef = .int .i64 (x % B : Nat) := by rw [hfr]; rfl
            clear hfr
            iterate 11
              refine ⟨⟨trivial, ?_⟩, ?_⟩
              · intro ρ w' p hp hdq hρ hd hSt
                simp only [DepF, Region.binds, List.getD_cons_zero, List.getD_cons_succ, FN, forall_const, and_true, true_and, Nat.reduceEqDiff, if_false, if_true, reduceIte, reduceCtorEq] at hd
                have hcon := hρ.con
                have e2 := (hρ.slot 2 (by kernel_rfl)).trans f2
                have e10 := (hρ.slot 10 (by kernel_rfl)).trans f10
                have e11 := (hρ.slot 11 (by kernel_rfl)).trans f11
                have eb := (hqb.below hSt hqb.lt).cell
                unfold rCells at eb
                have ex := (hbx.below hSt hbx.lt).cell
                (try obtain ⟨A9, c9, hd9, _⟩ : ∃ A9 c9, ρ (.tmp 80) = Value.slice A9 xs.length c9 ∧ NatsAt w' A9 xs := hd)
                (try rw [execOp_call_fn _ _ _ _ _ _ _ _ _ (hρ.fn _)])
                go_simp
                (try simp only [GoodQ])
                first
                  | exact ⟨rfl, Below.refl _ _, fun h => absurd h (by decide), hSt⟩
                  | exact ⟨trivial, Below.refl _ _, fun h => absurd h (by decide), hSt⟩
                  | (refine (hli w' hSt).mono ?_; rintro e w'' ⟨rfl, rfl⟩; exact ⟨_, rfl, rfl, Below.refl _ _, fun h => absurd h (by decide), hSt⟩)
                  | (refine (hal w' hSt).mono ?_; rintro e w'' ⟨v, rfl, hxo, hx⟩; obtain ⟨A9, c9, rfl, hxs⟩ := nats_own hxo; exact ⟨_, rfl, ⟨A9, c9, rfl, hxs⟩, hx, fun h => absurd h (by decide), hSt.trans (Below.mono hx hSt.size)⟩)
            trivial
          · intro vs1 w6 hSt hF _
            have h9 : vs1 9 = .int .i64 xs.length := hF 9 (by decide)
            have h10 : vs1 10 = .int .i64 0 := hF 10 (by decide)
            obtain ⟨A8, c8, h8, hnat⟩ : ∃ A cap, vs1 8 = .slice A xs.length cap ∧ NatsAt w6 A xs := hF 8 (by decide)
            simp only [setAll, List.setIfInBounds_toArray, List.set_cons_zero, List.set_cons_succ, Nat.reduceAdd]
            rw [h8, h9, h10]
            simp only [List.drop_succ_cons, List.drop_zero, List.drop_nil]
            have hS6 := hS1.below hSt
            have hkt : KT W w6 := KT.below hSt
            clear h8 h9 h10 hF hs0 hSt hli hal hbx hqb hm1 hS1
            have hxl : xs.length ≤ P := by
              have := nodup_le xs (List.range P) hnd fun x hx => List.mem_range.2 (hmem x hx)
              simpa using this
            have hT1' := Took.refl (P := P) (N := 4 * B + 2) (f := hslot B) hok1.ok (SlD B s.base now)
            go_wp2_with fail
            gi_wp2_with fail
            gi_loopw [82] (fun i wr => ∃ (k : Nat) (s2 : HSt) (l2 : List Timer), k ≤ xs.length ∧ i = .int .i64 k ∧ LS w w.heap.size (w.heap.size + 1) q tb c nb P b B s2 n cas (l ++ (l1 ++ l2)) wr ∧ Took P (4 * B + 2) (hslot B) s1 (SlD B s.base now) l2 s2 ∧ Swp P s1 (fun _ => False) x xs k s2 ∧ NatsAt wr A8 xs ∧ KT W wr) (fun i _ => xs.length - (intOf i).toNat)
            case atStart => exact ⟨0, s1, [], Nat.zero_le _, rfl, by rw [List.append_nil]; exact hS6, hT1', hsw0, hnat, hkt⟩
            case round =>
              clear hS6 hT1' hsw0 hnat hkt
              obtain ⟨k, s2, l2, hk, rfl, hS, hT2, hsw, hnat, hkt⟩ := hrel
              by_cases hlt : k < xs.length
              · have hxm : xs[k] ∈ xs.drop k := by
                  rw [List.drop_eq_getElem_cons hlt]
                  exact List.mem_cons_self
                have hin := hsw.rest _ hxm
                have hiP := hmem _ (List.getElem_mem hlt)
                obtain ⟨g, cur, rfl, hgb, hgc⟩ := hnat k hlt
                have cx := (hgb.cell k).trans hgc
                obtain ⟨rg2', hm2⟩ := hS.m
                have hdr := rdrop_ok q tb c nb P b B xs[k] x s2 rg2' n cas wr hm2 z hiP hin
                have hT1l := hT1.len
                have hT2l := hT2.len
                have hpl : (HSt.pend P s1).length ≤ P := pendL_le _ _ _
                have hpl2 : (HSt.pend P s).length ≤ P := pendL_le _ _ _
                have HT : Hid (Took P (4 * B + 2) (hslot B) s1 (SlD B s.base now) (l2 ++ [s2.tm xs[k]]) (s2.del xs[k] x)) := Lib.hid (by
                  have h1 := hm2.ok.ok.lies _ hiP x hin
                  rw [hT2.base, hT1.base, ← hxx] at h1
                  have h2 := hslot_inv hB0 hxB hxk h1
                  have h3 := begN_floor hB0 hxB hxk h1
                  have h4 := hT2.one hiP hin (show SlD B s.base now (s1.tm xs[k]) by
                    rw [← hT2.tm]
                    exact ⟨x / B, hxB, h2.1, by rw [← h3]; exact hG4⟩)
                  rwa [← hT2.tm] at h4)
                have HW := Lib.hid (hsw.take hnd hlt)
                have hlen : (l ++ (l1 ++ l2)).length + [s2.tm xs[k]].length ≤ 1000000 := by simp only [List.length_append, List.length_cons, List.length_nil]; omega
                have HL := Lib.hid (show (l ++ (l1 ++ l2)) ++ [s2.tm xs[k]] = l ++ (l1 ++ (l2 ++ [s2.tm xs[k]])) by simp)
                have hcx := hS.bx.cell
                clear hsw hxm hin hgb hgc hm2 hT1l hT2l hT2
                generalize xs[k] = i at *
                generalize hyv : s2.tm i = y at *
                generalize l ++ (l1 ++ l2) = lx at *
                gi_wp2_with fail
                refine ⟨trivial, CallsIn.mono (callsIn_wide.2 hdr) ?_⟩
                rintro e w7 ⟨rfl, ⟨rg7, hm7⟩, hk7⟩
                have hS7 := hS.drop AL hm7 hk7
                obtain ⟨rg3, hm3⟩ := hS.m
                have hkd := KT.drop hm3 hk7
                clear hdr hm3 hS hm7 hk7 hcx cx
                gi_wp2_with fail
                refine normal_only ?_
                obtain ⟨A1, k1, hb6, ho⟩ := hS7.l6
                obtain ⟨rgA, hmA⟩ := hS7.m
                have hbx := hS7.bx
                have hqb := hmA.blk
                have htbk : Blk w7 tb 37 (tmC P s2.tm) := hmA.tms
                have t0 := tmC_at P s2.tm i hiP
                have t1 := tmC_seq P s2.tm i hiP
                have t2 := tmC_place P s2.tm i hiP
                rw [hyv] at t0 t1 t2
                have hs0 : Below w7.heap.size w7 w7.drew := (Below.refl _ _).drew
                refine round_facts_deep 9 (fun _ => false) (FL [.slice A1 lx.length k1, .pointer (some ⟨q, 0, none⟩), .pointer (some ⟨q, 0, none⟩), .pointer (some ⟨q, 0, none⟩), .slice (some ⟨tb, 0, none⟩) P P, .int .i64 i, .pointer (some ⟨tb, i * 3, none⟩), y.val] 0 y) (fun _ x => Below w7.heap.size w7 x) (fun _ x y => Below x.heap.size x y) [89, 90, 91, 92, 93, 94, 95, 96, 97] (by kernel_rfl) (by kernel_rfl) (by kernel_rfl) (by kernel_rfl) (by decide) (by kernel_rfl) (by kernel_rfl) FL.keep (fun _ _ _ h => h.size) hs0 ?_ ?_
                · intro fr hfr
                  have f2 : fr.getD 2 undef = .pointer (some ⟨w.heap.size, 0, none⟩) := by rw [hfr]; rfl
                  have f6 : fr.getD 6 undef = .pointer (some ⟨w.heap.size + 1, 0, none⟩) := by rw [hfr]; rfl
                  have fi : fr.getD 13 undef = .int .i64 i := by rw [hfr]; rfl
                  clear hfr
                  iterate 9
                    refine ⟨⟨trivial, ?_⟩, ?_⟩
                    · intro ρ w' p hp hdq hρ hd hSt
                      simp only [DepF, Region.binds, List.getD_cons_zero, List.getD_cons_succ, FL, forall_const, and_true, true_and, Nat.reduceEqDiff, if_false, if_true, reduceIte, reduceCtorEq, Timer.val] at hd
                      have hcon := hρ.con
                      have e2 := (hρ.slot 2 (by kernel_rfl)).trans f2
                      have e6 := (hρ.slot 6 (by kernel_rfl)).trans f6
                      have ei := (hρ.slot 13 (by kernel_rfl)).trans fi
                      have eb := (hqb.below hSt hqb.lt).cell
                      unfold rCells at eb
                      have ex := (hbx.below hSt hbx.lt).cell
                      have e6c := (hb6.below hSt hb6.lt).cell
                      have u0 := ((htbk.below hSt htbk.lt).cell _).trans t0
                      have u1 := ((htbk.below hSt htbk.lt).cell _).trans t1
                      have u2 := ((htbk.below hSt htbk.lt).cell _).trans t2
                      go_simp
                      (try simp only [GoodQ])
                      first
                        | exact ⟨rfl, Below.refl _ _, fun h => absurd h (by decide), hSt⟩
                        | exact ⟨trivial, Below.refl _ _, fun h => absurd h (by decide), hSt⟩
                        | exact ⟨⟨LAt.one w' y, fun _ _ => Nat.zero_le _⟩, alloc_kept' _ _, fun h => absurd h (by decide), hSt.trans (Below.mono (alloc_kept' _ _) hSt.size)⟩
                  trivial
                · intro vs wA hSt hF _
                  have h0 : vs 0 = .slice A1 lx.length k1 := hF 0 (by decide)
                  have h8 : LF 0 wA (vs 8) [y] := hF 8 (by decide)
                  have hSA := hS7.below hSt
                  have hktA := KT.below hSt
                  have hoA : OwnT wA (w.heap.size + 1 + 1) (.slice A1 lx.length k1) lx := ownsRow_keep ho fun g hg _ => hSt.block g hg
                  have hb6A := hb6.below hSt hb6.lt
                  have hszA : w.heap.size + 1 + 1 ≤ wA.heap.size := Nat.le_trans (by have := hb6.lt; omega) hSt.size
                  have HOA := Lib.hid hoA
                  have H8 := Lib.hid h8.at_.lw
                  simp only [setAll, List.setIfInBounds_toArray, List.set_cons_zero, List.set_cons_succ, Nat.reduceAdd]
                  rw [h0]
                  simp only [List.drop_succ_cons, List.drop_zero, List.drop_nil]
                  clear h0 h8 hF hs0 hSt ho hb6 hmA hbx hqb htbk t0 t1 t2
                  go_wp2_with (at_builtin; refine wpList_app_T rfl _ _ rfl (w.heap.size + 1 + 1) _ _ rfl HOA.out _ _ rfl H8.out hlen hszA ?_)
                  intro v3 wB ho3 hg3
                  have hkB := grown_chg' hg3
                  have hb6B := hb6A.chg hkB (fun e => by have := own_base hoA _ e; omega)
                  obtain ⟨A3, c3, rfl, _⟩ := ho3.at
                  have hSB := hSA.app AL hb6A hoA ho3 hg3
                  have HKT := Lib.hid (hktA.trans (KT.app (v := .slice A3 (lx ++ [y]).length c3) hb6A hoA hg3))
                  rw [show (lx ++ [y]).length = lx.length + 1 by simp] at hSB HKT
                  have z1 := hb6B.cell
                  have z2 := hb6B.frozen
                  have z3 := hb6B.lt
                  clear hSA hktA hb6A hoA HOA H8 ho3 hg3 hkB hb6B hszA
                  go_wp2_with fail
                  generalize wB.setCell ⟨w.heap.size + 1, 0, none⟩ (.slice A3 (lx.length + 1) c3) = w8 at *
                  clear z1 z2 z3 hS7
                  gi_wp2_with fail
                  go_roundw
                  case rel => exact ⟨k + 1, s2.del i x, l2 ++ [y], by omega, by go_num, by rw [← HL.out]; exact hSB, HT.out, HW.out, (hkd.trans HKT.out).nats hnat, hkt.trans (hkd.trans HKT.out)⟩
                  case measure => simp [intOf]; omega
              · obtain rfl : k = xs.length := by omega
                have hd := hsw.done
                have HR : Hid (LI w.heap.size (w.heap.size + 1) q tb c nb P b B bq (bq + 1) s n cas now l w (pre ++ [x]) wr) := Lib.hid (by
                  refine ⟨hkt.blk hI.bq (by decide), hkt.blk hI.bn (by decide), s2, l1 ++ l2, hS, hT1.trans hT2, fun o ho => ?_, fun i hi o ho hin => ?_⟩
                  · rw [nxo_snoc] at ho
                    exact (hd.2 o (by omega)).trans (hL1 o (by omega))
                  · rw [nxo_snoc] at ho
                    by_cases h1 : o < nxo pre
                    · exact hG6 i hi o h1 (hT2.sub i hi o hin)
                    · by_cases h2 : o = x
                      · subst h2
                        exact (hd.1 i hi hin).elim
                      · have h3 := (hT2.ok.out i hi o hin).2
                        rw [hd.2 o h2, hL1 o (by omega)] at h3
                        refine hG5 o (by omega) (by omega) ?_
                        unfold busyAt
                        cases e : s.L o with
                        | nil => rw [e] at h3; cases h3
                        | cons _ _ => rfl)
                clear hsw hd hS hT2 hT1 hnat
                gi_wp2_with fail
                exact ⟨hkt.keeps _, HR.out⟩
        case done1 =>
          rintro D xs W hD hS' hI hKd
          obtain ⟨s2, lC, hS, hT2, hL2, hG2⟩ := hI.st
          obtain ⟨rg2, hm2⟩ := hS.m
          have hok2 := hm2.ok
          obtain ⟨A7, c7, hb7, ho7⟩ := hS.l6
          have hc7 := hb7.cell
          have HG : Hid (∀ i, i < P → ∀ o, o < 4 * B → s2.inn i = some o → now < bgN B s0.base o) := Lib.hid (fun i hi o ho hin => by
            rw [← HBS.out]
            by_cases h1 : o < nxo xs
            · exact hG2 i hi o h1 hin
            · have h3 := (hok2.ok.out i hi o hin).2
              rw [hL2 o (by omega)] at h3
              refine hS' o (by omega) ho ?_
              unfold busyAt
              cases e : s.L o with
              | nil => rw [e] at h3; cases h3
              | cons _ _ => rfl)
          clear hL2 hG2 hS' hst
          go_wp2_with fail
          gi_wp2_with fail
          have kk : CK W (W.putObj D (.deferred none)) := ck_of (grownBy_putObj' _ D (.deferred none)) (fun r e => by cases e; exact ⟨_, hKd, rfl⟩)
          have hch4 : Chg (fun g => g = q ∨ g = nb) w (W.putObj D (.deferred none)) := chg_ownFrom (β := Unit) (Nat.le_refl w.heap.size) () W _ (some D) hS.chg (grownBy_putObj' _ D (.deferred none)) (fun r e => by cases e; exact ⟨Nat.le_trans hsw hD, _, hKd, rfl⟩)
          have hT5 : Took P (4 * B + 2) (hslot B) s (fun x => ∃ l : Nat, l < 4 ∧ lev B s0.base x.at_ = l ∧ floorN B x.at_ l ≤ now) lC s2 := by
            have h := hT2
            rw [HBS.out] at h
            exact h
          refine ⟨by simp, .inl ⟨_, _, rfl, run_takeDeferred hKd, ?_⟩⟩
          exact ⟨.tuple #[.slice A7 (l.length + lC.length) c7, .int .i64 l.length], by simp [results, Tryz.results57, go_sem], _, l, lC, s, s2, rg2, rfl, hm2.ck kk, by rw [← List.length_append]; exact (ho7.mono (by omega)).ck kk, hTk, KB.out, hT5, hok2, HG.out, hch4⟩
      | cons i r =>
        obtain ⟨hiP, hin⟩ := hok.ok.mem K (by have := hK.out; omega) i (by rw [hLK]; exact List.mem_cons_self)
        have hho := fun w' => dhorizon_u z hw w'
        have t0 := tmC_at P s.tm i hiP
        simp only [headI_cons, Option.getD_some, Option.isSome_some]
        generalize hhv : horN (B : Int) now = hv at *
        generalize hyv : s.tm i = y at *
        have hbx := hS.bx
        have hqb := hm.blk
        have htbk := hm.tms
        have hlwr := Lib.hid hS.len
        clear hx0 hy0
        gi_wp2_with fail
        refine no_exit (wpIn_wide.2 ?_)
        have hs0 : Below wr.heap.size wr wr.drew := (Below.refl _ _).drew
        refine region_facts_set 18 (fun _ => false) (FV [.bool true, .bool true, .pointer (some ⟨q, 0, none⟩), .pointer (some ⟨q, 0, none⟩), .pointer (some ⟨q, 0, none⟩), .slice (some ⟨tb, 0, none⟩) P P, .int .i64 i, .pointer (some ⟨tb, i * 3, none⟩), .pointer (some ⟨tb, i * 3, none⟩), .int .u64 y.at_, .int .u64 now, .pointer (some ⟨q, 0, none⟩), .pointer (some ⟨q, 0, none⟩), .pointer (some ⟨q, 18, none⟩), .int .i64 b, .int .u64 hv, .bool (decide (y.at_ ≤ hv)), .bool (decide (y.at_ ≤ hv))]) (fun _ x => Below wr.heap.size wr x) (fun _ x y => x.heap.size ≤ y.heap.size) [24, 25, 26, 27, 28, 29, 30, 31, 32, 33, 34, 35, 36, 37, 38, 39, 40, 41] (by kernel_rfl) (by kernel_rfl) (by kernel_rfl) (by decide) (by kernel_rfl) (by kernel_rfl) (fun _ _ _ _ _ _ h _ => h) (fun _ _ _ h => h) hs0 ?_ ?_
        · intro fr hfr
          have f2 : fr.getD 2 undef = .pointer (some ⟨w.heap.size, 0, none⟩) := by rw [hfr]; rfl
          have f8 : fr.getD 8 undef = .bool true := by rw [hfr]; rfl
          have f7 : fr.getD 7 undef = .int .i64 i := by rw [hfr]; rfl
          have f1 : fr.getD 1 undef = .int .u64 now := by rw [hfr]; rfl
          clear hfr
          iterate 18
            refine ⟨⟨by first | trivial | exact ⟨rfl, fun _ _ h => h⟩, ?_⟩, ?_⟩
            · intro ρ w' p hp hdq hρ hd hSt
              simp only [DepF, Region.binds, List.getD_cons_zero, List.getD_cons_succ, FV, forall_const, and_true, true_and] at hd
              have hcon := hρ.con
              (have e2 := (hρ.slot 2 (by kernel_rfl)).trans f2; have e8 := (hρ.slot 8 (by kernel_rfl)).trans f8; have e7 := (hρ.slot 7 (by kernel_rfl)).trans f7; have e1 := (hρ.slot 1 (by kernel_rfl)).trans f1)
              (have eb := (hqb.below hSt hqb.lt).cell; unfold rCells at eb; have ex := (hbx.below hSt hbx.lt).cell; have u0 := ((htbk.below hSt htbk.lt).cell _).trans t0)
              (try rw [execOp_call_fn _ _ _ _ _ _ _ _ _ (hρ.fn _)])
              go_simp
              (try simp only [GoodQ, FV, List.getD_cons_zero, List.getD_cons_succ])
              first
                | exact ⟨rfl, Nat.le_refl _, fun h => absurd h (by decide), hSt⟩
                | exact ⟨trivial, Nat.le_refl _, fun h => absurd h (by decide), hSt⟩
                | (refine (hho w').mono ?_; rintro e w'' ⟨rfl, rfl⟩; exact ⟨_, rfl, rfl, Nat.le_refl _, fun h => absurd h (by decide), hSt⟩)
          trivial
        · intro vs w4 hSt hF _
          have h17 : vs 17 = .bool (decide (y.at_ ≤ hv)) := hF 17 (by decide)
          have hS4 := hS.below hSt
          simp only [setAll, List.setIfInBounds_toArray, List.set_cons_zero, List.set_cons_succ, Nat.reduceAdd]
          rw [h17]
          simp only [List.drop_succ_cons, List.drop_zero, List.drop_nil]
          clear h17 hF hs0 hSt hS hm hbx hqb htbk t0 hho
          by_cases hle : y.at_ ≤ hv
          · rw [decide_eq_true hle]
            obtain ⟨rg4, hm4⟩ := hS4.m
            have hdr := rdrop_ok q tb c nb P b B i K s rg4 n cas w4 hm4 z hiP hin
            have HT : Hid (Took P (4 * B + 2) (hslot B) s0 (fun x => lev B s0.base x.at_ = 4 ∧ x.at_ ≤ hv) (l ++ [y]) (s.del i K)) := Lib.hid (by
              have h1 := hok.ok.lies i hiP K hin
              rw [← hK.out, hyv, hbs] at h1
              have h2 := hTk.one hiP hin (show lev B s0.base (s0.tm i).at_ = 4 ∧ (s0.tm i).at_ ≤ hv by
                rw [← htm, hyv]
                exact ⟨hslot_inv_kept z.pos h1, hle⟩)
              rwa [← htm, hyv] at h2)
            have hlen : l.length + [y].length ≤ 1000000 := by simp only [List.length_cons, List.length_nil]; omega
            have hlw := Lib.hid hS4.len
            have hcx := hS4.bx.cell
            clear hle hLK
            go_wp2_with fail
            gi_wp2_with fail
            refine ⟨trivial, CallsIn.mono (callsIn_wide.2 hdr) ?_⟩
            rintro e w5 ⟨rfl, ⟨rg5, hm5⟩, hk5⟩
            clear hcx
            have hS5 := hS4.drop AL hm5 hk5
            clear hdr hm4 hS4 hm5 hk5
            gi_wp2_with fail
            refine wpIn_wide.2 ?_
            obtain ⟨A1, k1, hb6, ho⟩ := hS5.l6
            obtain ⟨rgA, hmA⟩ := hS5.m
            have hbx := hS5.bx
            have hqb := hmA.blk
            have htbk : Blk w5 tb 37 (tmC P s.tm) := hmA.tms
            have t0 := tmC_at P s.tm i hiP
            have t1 := tmC_seq P s.tm i hiP
            have t2 := tmC_place P s.tm i hiP
            rw [hyv] at t0 t1 t2
            have hs0 : Below w5.heap.size w5 w5.drew := (Below.refl _ _).drew
            refine region_facts_deep 9 (fun _ => false) (FL [.slice A1 l.length k1, .pointer (some ⟨q, 0, none⟩), .pointer (some ⟨q, 0, none⟩), .pointer (some ⟨q, 0, none⟩), .slice (some ⟨tb, 0, none⟩) P P, .int .i64 i, .pointer (some ⟨tb, i * 3, none⟩), y.val] 0 y) (fun _ x => Below w5.heap.size w5 x) (fun _ x y => Below x.heap.size x y) [55, 56, 57, 58, 59, 60, 61, 62, 63] (by kernel_rfl) (by kernel_rfl) (by kernel_rfl) (by decide) (by kernel_rfl) (by kernel_rfl) FL.keep (fun _ _ _ h => h.size) hs0 ?_ ?_
            · intro fr hfr
              have f2 : fr.getD 2 undef = .pointer (some ⟨w.heap.size, 0, none⟩) := by rw [hfr]; rfl
              have f6 : fr.getD 6 undef = .pointer (some ⟨w.heap.size + 1, 0, none⟩) := by rw [hfr]; rfl
              have fi : fr.getD 7 undef = .int .i64 i := by rw [hfr]; rfl
              clear hfr
              iterate 9
                refine ⟨⟨trivial, ?_⟩, ?_⟩
                · intro ρ w' p hp hdq hρ hd hSt
                  simp only [DepF, Region.binds, List.getD_cons_zero, List.getD_cons_succ, FL, forall_const, and_true, true_and, Nat.reduceEqDiff, if_false, if_true, reduceIte, reduceCtorEq, Timer.val] at hd
                  have hcon := hρ.con
                  have e2 := (hρ.slot 2 (by kernel_rfl)).trans f2
                  have e6 := (hρ.slot 6 (by kernel_rfl)).trans f6
                  have ei := (hρ.slot 7 (by kernel_rfl)).trans fi
                  have eb := (hqb.below hSt hqb.lt).cell
                  unfold rCells at eb
                  have ex := (hbx.below hSt hbx.lt).cell
                  have e6c := (hb6.below hSt hb6.lt).cell
                  have u0 := ((htbk.below hSt htbk.lt).cell _).trans t0
                  have u1 := ((htbk.below hSt htbk.lt).cell _).trans t1
                  have u2 := ((htbk.below hSt htbk.lt).cell _).trans t2
                  go_simp
                  (try simp only [GoodQ])
                  first
                    | exact ⟨rfl, Below.refl _ _, fun h => absurd h (by decide), hSt⟩
                    | exact ⟨trivial, Below.refl _ _, fun h => absurd h (by decide), hSt⟩
                    | exact ⟨⟨LAt.one w' y, fun _ _ => Nat.zero_le _⟩, alloc_kept' _ _, fun h => absurd h (by decide), hSt.trans (Below.mono (alloc_kept' _ _) hSt.size)⟩
              trivial
            · intro vs wA hSt hF _
              have h0 : vs 0 = .slice A1 l.length k1 := hF 0 (by decide)
              have h8 : LF 0 wA (vs 8) [y] := hF 8 (by decide)
              have hSA := hS5.below hSt
              have hktA := KT.below hSt
              have hoA : OwnT wA (w.heap.size + 1 + 1) (.slice A1 l.length k1) l := ownsRow_keep ho fun g hg _ => hSt.block g hg
              have hb6A := hb6.below hSt hb6.lt
              have hszA : w.heap.size + 1 + 1 ≤ wA.heap.size := Nat.le_trans (by have := hb6.lt; omega) hSt.size
              have HOA := Lib.hid hoA
              have H8 := Lib.hid h8.at_.lw
              simp only [setAll, List.setIfInBounds_toArray, List.set_cons_zero, List.set_cons_succ, Nat.reduceAdd]
              rw [h0]
              simp only [List.drop_succ_cons, List.drop_zero, List.drop_nil]
              clear h0 h8 hF hs0 hSt ho hb6 hmA hbx hqb htbk t0 t1 t2
              go_wp2_with (at_builtin; refine wpList_app_T rfl _ _ rfl (w.heap.size + 1 + 1) _ _ rfl HOA.out _ _ rfl H8.out hlen hszA ?_)
              intro v3 wB ho3 hg3
              have hkB := grown_chg' hg3
              have hb6B := hb6A.chg hkB (fun e => by have := own_base hoA _ e; omega)
              obtain ⟨A3, c3, rfl, _⟩ := ho3.at
              have hSB := hSA.app AL hb6A hoA ho3 hg3
              have HKT := Lib.hid (hktA.trans (KT.app (v := .slice A3 (l ++ [y]).length c3) hb6A hoA hg3))
              rw [show (l ++ [y]).length = l.length + 1 by simp] at hSB HKT
              have z1 := hb6B.cell
              have z2 := hb6B.frozen
              have z3 := hb6B.lt
              clear hSA hktA hb6A hoA HOA H8 ho3 hg3 hkB hb6B hszA
              go_wp2_with fail
              generalize wB.setCell ⟨w.heap.size + 1, 0, none⟩ (.slice A3 (l.length + 1) c3) = w6 at *
              clear z1 z2 z3 hS5
              obtain ⟨rg6, hm⟩ := hSB.m
              refine wpIn_wide.2 ?_
              have hkp1 := fun w' (hx : Below w6.heap.size w6 w') => rkept_any q tb c P b B _ _ n cas w' (hm.blk.below hx hm.blk.lt) z
              have hfi1 := fun w' (hx : Below w6.heap.size w6 w') => cfirst_any c nb P (4 * B + 2) (4 * B + 1) _ _ w' (hm.ch.below hx) (by omega) (by omega)
              unfold pairV at hfi1
              rw [hK.out] at hkp1 hfi1
              have hbx := hSB.bx
              have hqb := hm.blk
              generalize hx0 : (headI ((s.del i K).L K)).getD 0 = x0 at *
              generalize hy0 : (headI ((s.del i K).L K)).isSome = y0 at *
              have hs0 : Below w6.heap.size w6 w6.drew := (Below.refl _ _).drew
              refine region_facts_set 12 (fun _ => false) (FV [.pointer (some ⟨q, 0, none⟩), .pointer (some ⟨q, 0, none⟩), .pointer (some ⟨q, 1, none⟩), .pointer (some ⟨c, 0, none⟩), .pointer (some ⟨q, 0, none⟩), .int .i64 K, .tuple #[.int .i64 x0, .bool y0], .tuple #[.int .i64 x0, .bool y0], .int .i64 x0, .bool y0, .int .i64 x0, .bool y0]) (fun _ x => Below w6.heap.size w6 x) (fun _ x y => x.heap.size ≤ y.heap.size) [43, 44, 45, 46, 47, 48, 49, 42, 50, 51, 7, 8] (by kernel_rfl) (by kernel_rfl) (by kernel_rfl) (by decide) (by kernel_rfl) (by kernel_rfl) (fun _ _ _ _ _ _ h _ => h) (fun _ _ _ h => h) hs0 ?_ ?_
              · intro fr hfr
                have f2 : fr.getD 2 undef = .pointer (some ⟨w.heap.size, 0, none⟩) := by rw [hfr]; rfl
                clear hfr
                iterate 12
                  refine ⟨⟨by first | trivial | exact ⟨rfl, fun _ _ h => h⟩, ?_⟩, ?_⟩
                  · intro ρ w' p hp hdq hρ hd hSt
                    simp only [DepF, Region.binds, List.getD_cons_zero, List.getD_cons_succ, FV, forall_const, and_true, true_and] at hd
                    have hcon := hρ.con
                    have e2 := (hρ.slot 2 (by kernel_rfl)).trans f2
                    (have eb := (hqb.below hSt hqb.lt).cell; unfold rCells at eb; have ex := (hbx.below hSt hbx.lt).cell)
                    (try rw [execOp_call_fn _ _ _ _ _ _ _ _ _ (hρ.fn _)])
                    go_simp
                    (try simp only [GoodQ, FV, List.getD_cons_zero, List.getD_cons_succ])
                    first
                      | exact ⟨rfl, Nat.le_refl _, fun h => absurd h (by decide), hSt⟩
                      | exact ⟨trivial, Nat.le_refl _, fun h => absurd h (by decide), hSt⟩
                      | (refine (hkp1 w' hSt).mono ?_; rintro e w'' ⟨rfl, rfl⟩; exact ⟨_, rfl, rfl, Nat.le_refl _, fun h => absurd h (by decide), hSt⟩)
                                  | (refine (hfi1 w' hSt).mono ?_; rintro e w'' ⟨rfl, hx⟩; exact ⟨_, rfl, rfl, hx.size, fun h => absurd h (by decide), hSt.trans (Below.mono hx hSt.size)⟩)
                trivial
              · intro vs2 w7 hSt hF _
                have h10 : vs2 10 = .int .i64 x0 := hF 10 (by decide)
                have h11 : vs2 11 = .bool y0 := hF 11 (by decide)
                have hS7 := hSB.below hSt
                simp only [setAll, List.setIfInBounds_toArray, List.set_cons_zero, List.set_cons_succ, Nat.reduceAdd]
                rw [h10, h11]
                simp only [List.drop_succ_cons, List.drop_zero, List.drop_nil]
                clear h10 h11 hF hs0 hSt hkp1 hfi1 hbx hqb hm hSB
                have hl7 := HT.out.len
                go_wp2_with fail
                go_roundw
                case rel => exact ⟨s.del i K, l ++ [y], hS7, HT.out, by rw [hx0], by rw [hy0]⟩
                case measure =>
                  rw [hS7.len, hlwr.out]
                  simp only [List.length_append, List.length_cons, List.length_nil] at hl7 ⊢
                  omega
          · subst hhv
            have KB : Hid (∀ i, i < P → s.inn i = some K → horN (B : Int) now < (s.tm i).at_) := Lib.hid (by
              have := kept_all (now := now) hok (.inr ⟨i, r, by rw [hK.out]; exact hLK, by rw [hyv]; omega⟩)
              rwa [hK.out] at this)
            have HBS := Lib.hid hbs
            rw [decide_eq_false hle]
            clear hle hLK hlwr hyv hin hiP
            have hln := Lib.hid hS4.len
            have hb6l : w.heap.size + 1 < w4.heap.size := by
              obtain ⟨A, k, h2, _⟩ := hS4.l6
              exact h2.lt
            obtain ⟨A6, k6, hb6, _⟩ := hS4.l6
            have hcx := hS4.bx.cell
            have hcx6 := hb6.cell
            have hll3 : l.length ≤ P := by omega
            clear hb6 htm hbs
            go_wp2_with fail
            gi_wp2_with fail
            refine ⟨trivial, CallsIn.mono (callsIn_wide.2 (vbegun_any q now w4)) ?_⟩
            rintro e w3 ⟨rfl, rfl⟩
            clear hcx hcx6
            have hb4 := two_new w4 (.cells #[.pointer (some ⟨q, 0, none⟩)] 25) (.cells #[.int .u64 now] 22)
            have hC1 : Blk ((w4.alloc (.cells #[.pointer (some ⟨q, 0, none⟩)] 25)).alloc (.cells #[.int .u64 now] 22)) w4.heap.size 25 #[.pointer (some ⟨q, 0, none⟩)] := (Blk.new _ _ _).alloc _
            have hC2 : Blk ((w4.alloc (.cells #[.pointer (some ⟨q, 0, none⟩)] 25)).alloc (.cells #[.int .u64 now] 22)) (w4.heap.size + 1) 22 #[.int .u64 now] := alloc2_at _ _ _ _
            have hst : LI w.heap.size (w.heap.size + 1) q tb c nb P b B w4.heap.size (w4.heap.size + 1) s n cas now l w [] ((w4.alloc (.cells #[.pointer (some ⟨q, 0, none⟩)] 25)).alloc (.cells #[.int .u64 now] 22)) :=
              ⟨hC1, hC2, s, [], by rw [List.append_nil]; exact hS4.below hb4, Took.refl hok.ok _, fun _ _ => rfl, fun _ _ _ h => by rw [nxo_nil] at h; omega⟩
            have hsw : w.heap.size ≤ ((w4.alloc (.cells #[.pointer (some ⟨q, 0, none⟩)] 25)).alloc (.cells #[.int .u64 now] 22)).heap.size := by simp; omega
            clear hC1 hC2 hb4 hS4
            generalize hq1 : w4.heap.size = bq at *
            generalize (w4.alloc (.cells #[.pointer (some ⟨q, 0, none⟩)] 25)).alloc (.cells #[.int .u64 now] 22) = w5 at *
            gi_wp2_with fail
            refine range_I rfl (by omega) (gf := 103) (lb := #[.pointer (some ⟨bq, 0, none⟩), .pointer (some ⟨bq + 1, 0, none⟩)]) rfl trivial (enters_of Tryz.func103 (by kernel_rfl) rfl)
              (beg_seq 2 (by omega) q bq (bq + 1) tb c P b B s.base now (busyAt s) z (by rw [HBS.out]; exact hb) hw w5) (Nat.le_refl _) (fun _ => rfl)
              (LI w.heap.size (w.heap.size + 1) q tb c nb P b B bq (bq + 1) s n cas now l w) (fun _ _ _ => False) (LI.own hsw) (fun _ _ _ _ _ h _ _ => h) (fun pre W h => h.view) hst ?a2 ?assign2 ?body2 ?done2 ?stop2
            case assign2 =>
              intro l x W K hK
              gi_wp2
              exact hK
            case stop2 =>
              rintro D e pre W hD h hK
              exact h.elim
            case body2 =>
              rintro lb pre x W hI ⟨hG1, hG2, hG3, hG4, hG5⟩
              obtain ⟨s1, l1, hS1, hT1, hL1, hG6⟩ := hI.st
              obtain ⟨rg1, hm1⟩ := hS1.m
              have hB0 := z.pos
              have hxB : x / B < 4 := Nat.div_lt_of_lt_mul (by rw [Nat.mul_comm]; exact hG2)
              have hxk : x % B < B := Nat.mod_lt _ hB0
              have hxx : x / B * B + x % B = x := Nat.div_add_mod' x B
              have hli := fun w' (hx : Below W.heap.size W w') => rlist_at q tb c P b B (x / B) (x % B) _ _ n cas w' (hm1.blk.below hx hm1.blk.lt) z hxB hxk
              rw [hxx] at hli
              have hal := fun w' (hx : Below W.heap.size W w') => call_any c nb P (4 * B + 2) x _ _ w' (hm1.ch.below hx) (by omega) (by omega)
              have hbx := hS1.bx
              have hqb := hm1.blk
              have hxs := Lib.hid (hL1 x hG1)
              have hnd := hm1.ok.ok.nodup x (by omega)
              have hmem := fun i hi => (hm1.ok.ok.mem x (by omega) i hi).1
              have hsw0 := Swp.start (P := P) hm1.ok.ok (show x < 4 * B + 2 by omega) (fun _ => False)
              have hok1 := hm1.ok
              generalize hxe : s1.L x = xs at *
              have hxe := Lib.hid hxe
              have hs0 : Below W.heap.size W W.drew := (Below.refl _ _).drew
              gi_wp2_with fail
              refine no_exit ?_
              refine round_facts_deep 11 (fun _ => false) (FN [.pointer (some ⟨q, 0, none⟩), .pointer (some ⟨q, 0, none⟩), .pointer (some ⟨q, 1, none⟩), .pointer (some ⟨c, 0, none⟩), .pointer (some ⟨q, 0, none⟩), .int .i64 (x / B : Nat), .int .i64 (x % B : Nat), .int .i64 x, undef, .int .i64 xs.length, .int .i64 0] xs) (fun _ x => Below W.heap.size W x) (fun _ x y => Below x.heap.size x y) [72, 73, 74, 75, 76, 77, 78, 79, 80, 81, 82] (by kernel_rfl) (by kernel_rfl) (by kernel_rfl) (by kernel_rfl) (by decide) (by kernel_rfl) (by kernel_rfl) FN.keep (fun _ _ _ h => h.size) hs0 ?_ ?_
              · intro fr hfr
                have f2 : fr.getD 2 undef = .pointer (some ⟨w.heap.size, 0, none⟩) := by rw [hfr]; rfl
                have f10 : fr.getD 10 undef = .int .i64 (x / B : Nat) := by rw [hfr]; rfl
                have f11 : fr.getD 11 undef = .int .i64 (x % B : Nat) := by rw [hfr]; rfl
                clear hfr
                iterate 11
                  refine ⟨⟨trivial, ?_⟩, ?_⟩
                  · intro ρ w' p hp hdq hρ hd hSt
                    simp only [DepF, Region.binds, List.getD_cons_zero, List.getD_cons_succ, FN, forall_const, and_true, true_and, Nat.reduceEqDiff, if_false, if_true, reduceIte, reduceCtorEq] at hd
                    have hcon := hρ.con
                    have e2 := (hρ.slot 2 (by kernel_rfl)).trans f2
                    have e10 := (hρ.slot 10 (by kernel_rfl)).trans f10
                    have e11 := (hρ.slot 11 (by kernel_rfl)).trans f11
                    have eb := (hqb.below hSt hqb.lt).cell
                    unfold rCells at eb
                    have ex := (hbx.below hSt hbx.lt).cell
                    (try obtain ⟨A9, c9, hd9, _⟩ : ∃ A9 c9, ρ (.tmp 80) = Value.slice A9 xs.length c9 ∧ NatsAt w' A9 xs := hd)
                    (try rw [execOp_call_fn _ _ _ _ _ _ _ _ _ (hρ.fn _)])
                    go_simp
                    (try simp only [GoodQ])
                    first
                      | exact ⟨rfl, Below.refl _ _, fun h => absurd h (by decide), hSt⟩
                      | exact ⟨trivial, Below.refl _ _, fun h => absurd h (by decide), hSt⟩
                      | (refine (hli w' hSt).mono ?_; rintro e w'' ⟨rfl, rfl⟩; exact ⟨_, rfl, rfl, Below.refl _ _, fun h => absurd h (by decide), hSt⟩)
                      | (refine (hal w' hSt).mono ?_; rintro e w'' ⟨v, rfl, hxo, hx⟩; obtain ⟨A9, c9, rfl, hxs⟩ := nats_own hxo; exact ⟨_, rfl, ⟨A9, c9, rfl, hxs⟩, hx, fun h => absurd h (by decide), hSt.trans (Below.mono hx hSt.size)⟩)
                trivial
              · intro vs1 w6 hSt hF _
                have h9 : vs1 9 = .int .i64 xs.length := hF 9 (by decide)
                have h10 : vs1 10 = .int .i64 0 := hF 10 (by decide)
                obtain ⟨A8, c8, h8, hnat⟩ : ∃ A cap, vs1 8 = .slice A xs.length cap ∧ NatsAt w6 A xs := hF 8 (by decide)
                simp only [setAll, List.setIfInBounds_toArray, List.set_cons_zero, List.set_cons_succ, Nat.reduceAdd]
                rw [h8, h9, h10]
                simp only [List.drop_succ_cons, List.drop_zero, List.drop_nil]
                have hS6 := hS1.below hSt
                have hkt : KT W w6 := KT.below hSt
                clear h8 h9 h10 hF hs0 hSt hli hal hbx hqb hm1 hS1
                have hxl : xs.length ≤ P := by
                  have := nodup_le xs (List.range P) hnd fun x hx => List.mem_range.2 (hmem x hx)
                  simpa using this
                have hT1' := Took.refl (P := P) (N := 4 * B + 2) (f := hslot B) hok1.ok (SlD B s.base now)
                go_wp2_with fail
                gi_wp2_with fail
                gi_loopw [82] (fun i wr => ∃ (k : Nat) (s2 : HSt) (l2 : List Timer), k ≤ xs.length ∧ i = .int .i64 k ∧ LS w w.heap.size (w.heap.size + 1) q tb c nb P b B s2 n cas (l ++ (l1 ++ l2)) wr ∧ Took P (4 * B + 2) (hslot B) s1 (SlD B s.base now) l2 s2 ∧ Swp P s1 (fun _ => False) x xs k s2 ∧ NatsAt wr A8 xs ∧ KT W wr) (fun i _ => xs.length - (intOf i).toNat)
                case atStart => exact ⟨0, s1, [], Nat.zero_le _, rfl, by rw [List.append_nil]; exact hS6, hT1', hsw0, hnat, hkt⟩
                case round =>
                  clear hS6 hT1' hsw0 hnat hkt
                  obtain ⟨k, s2, l2, hk, rfl, hS, hT2, hsw, hnat, hkt⟩ := hrel
                  by_cases hlt : k < xs.length
                  · have hxm : xs[k] ∈ xs.drop k := by
                      rw [List.drop_eq_getElem_cons hlt]
                      exact List.mem_cons_self
                    have hin := hsw.rest _ hxm
                    have hiP := hmem _ (List.getElem_mem hlt)
                    obtain ⟨g, cur, rfl, hgb, hgc⟩ := hnat k hlt
                    have cx := (hgb.cell k).trans hgc
                    obtain ⟨rg2', hm2⟩ := hS.m
                    have hdr := rdrop_ok q tb c nb P b B xs[k] x s2 rg2' n cas wr hm2 z hiP hin
                    have hT1l := hT1.len
                    have hT2l := hT2.len
                    have hpl : (HSt.pend P s1).length ≤ P := pendL_le _ _ _
                    have hpl2 : (HSt.pend P s).length ≤ P := pendL_le _ _ _
                    have HT : Hid (Took P (4 * B + 2) (hslot B) s1 (SlD B s.base now) (l2 ++ [s2.tm xs[k]]) (s2.del xs[k] x)) := Lib.hid (by
                      have h1 := hm2.ok.ok.lies _ hiP x hin
                      rw [hT2.base, hT1.base, ← hxx] at h1
                      have h2 := hslot_inv hB0 hxB hxk h1
                      have h3 := begN_floor hB0 hxB hxk h1
                      have h4 := hT2.one hiP hin (show SlD B s.base now (s1.tm xs[k]) by
                        rw [← hT2.tm]
                        exact ⟨x / B, hxB, h2.1, by rw [← h3]; exact hG4⟩)
                      rwa [← hT2.tm] at h4)
                    have HW := Lib.hid (hsw.take hnd hlt)
                    have hlen : (l ++ (l1 ++ l2)).length + [s2.tm xs[k]].length ≤ 1000000 := by simp only [List.length_append, List.length_cons, List.length_nil]; omega
                    have HL := Lib.hid (show (l ++ (l1 ++ l2)) ++ [s2.tm xs[k]] = l ++ (l1 ++ (l2 ++ [s2.tm xs[k]])) by simp)
                    have hcx := hS.bx.cell
                    clear hsw hxm hin hgb hgc hm2 hT1l hT2l hT2
                    generalize xs[k] = i at *
                    generalize hyv : s2.tm i = y at *
                    generalize l ++ (l1 ++ l2) = lx at *
                    gi_wp2_with fail
                    refine ⟨trivial, CallsIn.mono (callsIn_wide.2 hdr) ?_⟩
                    rintro e w7 ⟨rfl, ⟨rg7, hm7⟩, hk7⟩
                    have hS7 := hS.drop AL hm7 hk7
                    obtain ⟨rg3, hm3⟩ := hS.m
                    have hkd := KT.drop hm3 hk7
                    clear hdr hm3 hS hm7 hk7 hcx cx
                    gi_wp2_with fail
                    refine normal_only ?_
                    obtain ⟨A1, k1, hb6, ho⟩ := hS7.l6
                    obtain ⟨rgA, hmA⟩ := hS7.m
                    have hbx := hS7.bx
                    have hqb := hmA.blk
                    have htbk : Blk w7 tb 37 (tmC P s2.tm) := hmA.tms
                    have t0 := tmC_at P s2.tm i hiP
                    have t1 := tmC_seq P s2.tm i hiP
                    have t2 := tmC_place P s2.tm i hiP
                    rw [hyv] at t0 t1 t2
                    have hs0 : Below w7.heap.size w7 w7.drew := (Below.refl _ _).drew
                    refine round_facts_deep 9 (fun _ => false) (FL [.slice A1 lx.length k1, .pointer (some ⟨q, 0, none⟩), .pointer (some ⟨q, 0, none⟩), .pointer (some ⟨q, 0, none⟩), .slice (some ⟨tb, 0, none⟩) P P, .int .i64 i, .pointer (some ⟨tb, i * 3, none⟩), y.val] 0 y) (fun _ x => Below w7.heap.size w7 x) (fun _ x y => Below x.heap.size x y) [89, 90, 91, 92, 93, 94, 95, 96, 97] (by kernel_rfl) (by kernel_rfl) (by kernel_rfl) (by kernel_rfl) (by decide) (by kernel_rfl) (by kernel_rfl) FL.keep (fun _ _ _ h => h.size) hs0 ?_ ?_
                    · intro fr hfr
                      have f2 : fr.getD 2 undef = .pointer (some ⟨w.heap.size, 0, none⟩) := by rw [hfr]; rfl
                      have f6 : fr.getD 6 undef = .pointer (some ⟨w.heap.size + 1, 0, none⟩) := by rw [hfr]; rfl
                      have fi : fr.getD 13 undef = .int .i64 i := by rw [hfr]; rfl
                      clear hfr
                      iterate 9
                        refine ⟨⟨trivial, ?_⟩, ?_⟩
                        · intro ρ w' p hp hdq hρ hd hSt
                          simp only [DepF, Region.binds, List.getD_cons_zero, List.getD_cons_succ, FL, forall_const, and_true, true_and, Nat.reduceEqDiff, if_false, if_true, reduceIte, reduceCtorEq, Timer.val] at hd
                          have hcon := hρ.con
                          have e2 := (hρ.slot 2 (by kernel_rfl)).trans f2
                          have e6 := (hρ.slot 6 (by kernel_rfl)).trans f6
                          have ei := (hρ.slot 13 (by kernel_rfl)).trans fi
                          have eb := (hqb.below hSt hqb.lt).cell
                          unfold rCells at eb
                          have ex := (hbx.below hSt hbx.lt).cell
                          have e6c := (hb6.below hSt hb6.lt).cell
                          have u0 := ((htbk.below hSt htbk.lt).cell _).trans t0
                          have u1 := ((htbk.below hSt htbk.lt).cell _).trans t1
                          have u2 := ((htbk.below hSt htbk.lt).cell _).trans t2
                          go_simp
                          (try simp only [GoodQ])
                          first
                            | exact ⟨rfl, Below.refl _ _, fun h => absurd h (by decide), hSt⟩
                            | exact ⟨trivial, Below.refl _ _, fun h => absurd h (by decide), hSt⟩
                            | exact ⟨⟨LAt.one w' y, fun _ _ => Nat.zero_le _⟩, alloc_kept' _ _, fun h => absurd h (by decide), hSt.trans (Below.mono (alloc_kept' _ _) hSt.size)⟩
                      trivial
                    · intro vs wA hSt hF _
                      have h0 : vs 0 = .slice A1 lx.length k1 := hF 0 (by decide)
                      have h8 : LF 0 wA (vs 8) [y] := hF 8 (by decide)
                      have hSA := hS7.below hSt
                      have hktA := KT.below hSt
                      have hoA : OwnT wA (w.heap.size + 1 + 1) (.slice A1 lx.length k1) lx := ownsRow_keep ho fun g hg _ => hSt.block g hg
                      have hb6A := hb6.below hSt hb6.lt
                      have hszA : w.heap.size + 1 + 1 ≤ wA.heap.size := Nat.le_trans (by have := hb6.lt; omega) hSt.size
                      have HOA := Lib.hid hoA
                      have H8 := Lib.hid h8.at_.lw
                      simp only [setAll, List.setIfInBounds_toArray, List.set_cons_zero, List.set_cons_succ, Nat.reduceAdd]
                      rw [h0]
                      simp only [List.drop_succ_cons, List.drop_zero, List.drop_nil]
                      clear h0 h8 hF hs0 hSt ho hb6 hmA hbx hqb htbk t0 t1 t2
                      go_wp2_with (at_builtin; refine wpList_app_T rfl _ _ rfl (w.heap.size + 1 + 1) _ _ rfl HOA.out _ _ rfl H8.out hlen hszA ?_)
                      intro v3 wB ho3 hg3
                      have hkB := grown_chg' hg3
                      have hb6B := hb6A.chg hkB (fun e => by have := own_base hoA _ e; omega)
                      obtain ⟨A3, c3, rfl, _⟩ := ho3.at
                      have hSB := hSA.app AL hb6A hoA ho3 hg3
                      have HKT := Lib.hid (hktA.trans (KT.app (v := .slice A3 (lx ++ [y]).length c3) hb6A hoA hg3))
                      rw [show (lx ++ [y]).length = lx.length + 1 by simp] at hSB HKT
                      have z1 := hb6B.cell
                      have z2 := hb6B.frozen
                      have z3 := hb6B.lt
                      clear hSA hktA hb6A hoA HOA H8 ho3 hg3 hkB hb6B hszA
                      go_wp2_with fail
                      generalize wB.setCell ⟨w.heap.size + 1, 0, none⟩ (.slice A3 (lx.length + 1) c3) = w8 at *
                      clear z1 z2 z3 hS7
                      gi_wp2_with fail
                      go_roundw
                      case rel => exact ⟨k + 1, s2.del i x, l2 ++ [y], by omega, by go_num, by rw [← HL.out]; exact hSB, HT.out, HW.out, (hkd.trans HKT.out).nats hnat, hkt.trans (hkd.trans HKT.out)⟩
                      case measure => simp [intOf]; omega
                  · obtain rfl : k = xs.length := by omega
                    have hd := hsw.done
                    have HR : Hid (LI w.heap.size (w.heap.size + 1) q tb c nb P b B bq (bq + 1) s n cas now l w (pre ++ [x]) wr) := Lib.hid (by
                      refine ⟨hkt.blk hI.bq (by decide), hkt.blk hI.bn (by decide), s2, l1 ++ l2, hS, hT1.trans hT2, fun o ho => ?_, fun i hi o ho hin => ?_⟩
                      · rw [nxo_snoc] at ho
                        exact (hd.2 o (by omega)).trans (hL1 o (by omega))
                      · rw [nxo_snoc] at ho
                        by_cases h1 : o < nxo pre
                        · exact hG6 i hi o h1 (hT2.sub i hi o hin)
                        · by_cases h2 : o = x
                          · subst h2
                            exact (hd.1 i hi hin).elim
                          · have h3 := (hT2.ok.out i hi o hin).2
                            rw [hd.2 o h2, hL1 o (by omega)] at h3
                            refine hG5 o (by omega) (by omega) ?_
                            unfold busyAt
                            cases e : s.L o with
                            | nil => rw [e] at h3; cases h3
                            | cons _ _ => rfl)
                    clear hsw hd hS hT2 hT1 hnat
                    gi_wp2_with fail
                    exact ⟨hkt.keeps _, HR.out⟩
            case done2 =>
              rintro D xs W hD hS' hI hKd
              obtain ⟨s2, lC, hS, hT2, hL2, hG2⟩ := hI.st
              obtain ⟨rg2, hm2⟩ := hS.m
              have hok2 := hm2.ok
              obtain ⟨A7, c7, hb7, ho7⟩ := hS.l6
              have hc7 := hb7.cell
              have HG : Hid (∀ i, i < P → ∀ o, o < 4 * B → s2.inn i = some o → now < bgN B s0.base o) := Lib.hid (fun i hi o ho hin => by
                rw [← HBS.out]
                by_cases h1 : o < nxo xs
                · exact hG2 i hi o h1 hin
                · have h3 := (hok2.ok.out i hi o hin).2
                  rw [hL2 o (by omega)] at h3
                  refine hS' o (by omega) ho ?_
                  unfold busyAt
                  cases e : s.L o with
                  | nil => rw [e] at h3; cases h3
                  | cons _ _ => rfl)
              clear hL2 hG2 hS' hst
              go_wp2_with fail
              gi_wp2_with fail
              have kk : CK W (W.putObj D (.deferred none)) := ck_of (grownBy_putObj' _ D (.deferred none)) (fun r e => by cases e; exact ⟨_, hKd, rfl⟩)
              have hch4 : Chg (fun g => g = q ∨ g = nb) w (W.putObj D (.deferred none)) := chg_ownFrom (β := Unit) (Nat.le_refl w.heap.size) () W _ (some D) hS.chg (grownBy_putObj' _ D (.deferred none)) (fun r e => by cases e; exact ⟨Nat.le_trans hsw hD, _, hKd, rfl⟩)
              have hT5 : Took P (4 * B + 2) (hslot B) s (fun x => ∃ l : Nat, l < 4 ∧ lev B s0.base x.at_ = l ∧ floorN B x.at_ l ≤ now) lC s2 := by
                have h := hT2
                rw [HBS.out] at h
                exact h
              refine ⟨by simp, .inl ⟨_, _, rfl, run_takeDeferred hKd, ?_⟩⟩
              exact ⟨.tuple #[.slice A7 (l.length + lC.length) c7, .int .i64 l.length], by simp [results, Tryz.results57, go_sem], _, l, lC, s, s2, rg2, rfl, hm2.ck kk, by rw [← List.length_append]; exact (ho7.mono (by omega)).ck kk, hTk, KB.out, hT5, hok2, HG.out, hch4⟩
end Go.Proofs.YtckkfbepclogcaaGreatDoor
namespace Go.Proofs.YtckkfbepclogcaaGreatDoor
open Go.RowKit

theorem wpList_app_one {ops : Array Oper} {rest : List Oper} {o : Oper} {a : Go.Act} {w : World} {Q : Exit → Go.Act → World → Prop} (hgd : o.guard = none) (s x : Operand)
    (ho : o.op = .call { callee := .builtin .append, args := #[s, x], argTypes := #[29, 29] }) (base : Nat) (v : Value) (m : List Timer) (hs : a.eval s = v) (hown : OwnT w base v m)
    (g : Nat) (y : Timer) (hx : a.eval x = .slice (some ⟨g, 0, none⟩) 1 1) (hl : LW w (.slice (some ⟨g, 0, none⟩) 1 1) [y]) (hlen : m.length ≤ 100000) (hbase : base ≤ w.heap.size)
    (h : ∀ v' w', OwnT w' base v' (m ++ [y]) → w.grownBy w' v.ownBlock → (v'.ownBlock = v.ownBlock ∨ v'.ownBlock = some w.heap.size) → wpList Tryz.prog ops Q rest (a.put o.dst v') w') : wpList Tryz.prog ops Q (o :: rest) a w := by
  obtain ⟨i0, hi, hz0, hz1, hz2⟩ := info_parts info_timer
  refine wpList_append_own_at (w := w) hgd s x 29 ho base 37 i0 (.agg #[.int .u64 0, .int .u64 0, .int .i64 0]) 3 24 Tryz.underlying29 hi hz0 hz1 hz2 rfl (by decide) v m.length _ hs hown ⟨g, 0, none⟩ 1 1 ([y].flatMap Timer.cells) hx (flat_len [y]) hl.src (one_cell [y]) (by unfold maxLen; omega) (by omega) hbase ?_
  intro v' w' h1 h2 _ h4
  refine h v' w' ?_ h2 h4
  unfold OwnT
  rw [List.length_append, List.flatMap_append]
  exact h1
/-- The facts ahead of the loop over those ready. -/
def FN6 (l : List Value) (xs : List Nat) (j : Nat) (v : Value) (w : World) : Prop := if j = 6 then ∃ A cap, v = .slice A xs.length cap ∧ NatsAt w A xs else v = l.getD j undef
theorem FN6.keep {l : List Value} {xs : List Nat} (i j : Nat) (v : Value) (w w' : World) (_ : j ≠ i) (h : FN6 l xs j v w) (r : Below w.heap.size w w') : FN6 l xs j v w' := by
  unfold FN6 at h ⊢
  split at h
  · rename_i hj
    rw [if_pos hj]
    obtain ⟨A, cap, e, h⟩ := h
    exact ⟨A, cap, e, h.keep fun g cur hb => r.block g hb.lt⟩
  · rename_i hj
    rw [if_neg hj]
    exact h
theorem rready_loose {P B : Nat} {s0 s : HSt} {now : Int} {l : List Timer} (_hB : 0 < B) (ht : Took P (4 * B + 2) (hslot B) s0 (fun x => x.at_ ≤ now) l s) (hr : ∀ i, i < P → s.inn i = some (4 * B) → now < (s.tm i).at_) (hb : now ≤ s0.base) : ∀ i, i < P → s.on i = true → now < (s.tm i).at_ := by
  intro i hi ho
  have h1 := ht.ok.at hi ho
  rw [ht.base] at h1
  by_cases hle : (s.tm i).at_ ≤ s0.base
  · rw [hslot_ready hle] at h1
    exact hr i hi h1
  · omega
theorem wrap_less (m l d : Nat) (h : l + d = m) (hm : m ≤ 100000) : wrap64 ((m : Int) - (l : Int)) = (d : Int) := by
  unfold wrap64
  omega
theorem wrap_one_more (a : Int) (c : Nat) (h : 0 ≤ a ∧ a ≤ 1000000000) (hc : c ≤ 100000) : wrap64 (a + (c : Int) + 1) = a + ((c + 1 : Nat) : Int) := by
  unfold wrap64
  omega
theorem dueL_split (m : List Timer) (now : Int) : (dueL m now true).length + (dueL m now false).length = m.length := by
  induction m with
  | nil => rfl
  | cons x m ih =>
    unfold dueL at ih ⊢
    simp at ih
    by_cases h : x.at_ ≤ now <;> simp [h] <;> omega
theorem due_early {P B : Nat} {s0 s : HSt} {now : Int} {l m : List Timer} (hB : 0 < B) (ht : Took P (4 * B + 2) (hslot B) s0 (fun x => x.at_ ≤ now) l s) (hr : ∀ i, i < P → s.inn i = some (4 * B) → now < (s.tm i).at_) (hb : now ≤ s0.base) (hp : PRel P s0.on s0.tm m) :
    PRel P s.on s.tm (dueL m now false) ∧ sortL l = dueL m now true ∧ s.base = max s0.base now ∧ casL m B s0.base now = 0 := by
  have hperm := ht.perm
  unfold HSt.pend at hperm
  rw [ht.tm] at hperm
  have hl := rready_loose hB ht hr hb
  have hd := hp.due (on' := s.on) (l := l) (now := now) (fun i hi ho => by
    cases e : s.inn i with
    | none => have : s.on i = true := ho; rw [HSt.on_none e] at this; cases this
    | some j => exact HSt.on_some (ht.sub i hi j e)) hperm ht.due (by rw [← ht.tm]; exact hl)
  refine ⟨by rw [ht.tm]; exact hd.1, hd.2, by rw [ht.base]; omega, ?_⟩
  unfold casL
  rw [if_pos hb]
theorem RM.setbase {w : World} {q tb c nb P b B : Nat} {s : HSt} {rg : Nat → Bits} {n cas now : Int} (h : RM w q tb c nb P b B s rg n cas) (ho : HrOk P B { s with base := now }) : RM (w.setCell ⟨q, 19, none⟩ (.int .u64 now)) q tb c nb P b B { s with base := now } rg n cas ∧ Chg (fun g => g = q) w (w.setCell ⟨q, 19, none⟩ (.int .u64 now)) := by
  have k : Chg (fun g => g = q) w (w.setCell ⟨q, 19, none⟩ (.int .u64 now)) := (Chg.refl (fun g => g = q) w).setCell (fun _ => rfl) _
  exact ⟨⟨h.blk.put 19 _, h.tms.chg k (fun e => h.qtb e.symm), h.ch.chg k (fun e => h.qc e.symm) (fun e => h.qnb e.symm), h.busy, ho⟩, k⟩
set_option linter.unusedSimpArgs false in
set_option maxRecDepth 100000 in
set_option maxHeartbeats 4000000 in
theorem vdueA_any (q tb c nb P b B R : Nat) (s : HSt) (rg : Nat → Bits) (cas now : Int) (m : List Timer) (w : World) (h : RM w q tb c nb P b B s rg m.length cas) (hp : PRel P s.on s.tm m) (z : RSz P b B) (hR : Hid (4 * B = R)) (hb : U64 s.base) (hw : U64 now) (hm : ∀ x ∈ m, U64 x.at_) (hca : 0 ≤ cas ∧ cas ≤ 1000000000) (hT : TabAt w) :
    Calls Tryz.prog 33 #[.pointer (some ⟨q, 0, none⟩), .int .u64 now] w fun e w' => ∃ v, e = .returned v ∧ OwnT w' w.heap.size v (dueL m now true) ∧ RQ w' q tb c nb P b B (max s.base now) (cas + casL m B s.base now) (dueL m now false) ∧ Chg (HS q tb nb) w w' := by
  obtain ⟨i0, hi, hz0, hz1, hz2⟩ := info_parts info_timer
  have hP := z.hP
  have hB64 := z.le
  have hB0 := z.pos
  obtain ⟨l0, l1, l2, l3⟩ := h.lts
  have hgt := glob_lt hT
  have hok := h.ok
  have hrd := fun w' (hx : Below w.heap.size w w') => rready_any q tb c P b B _ _ _ cas w' (h.blk.below hx l0) z
  rw [hR.out] at hrd
  have hal := fun w' (hx : Below w.heap.size w w') => call_any c nb P (4 * B + 2) R _ _ w' (h.ch.below hx) (by omega) (by have := hR.out; omega)
  have hqb := h.blk
  have hnd := hok.ok.nodup R (by have := hR.out; omega)
  have hmem := fun i hi => (hok.ok.mem R (by have := hR.out; omega) i hi).1
  have hsw0 := Swp.start (P := P) hok.ok (show R < 4 * B + 2 by have := hR.out; omega) (fun x => now < x.at_)
  have hTk0 := Took.refl (P := P) (N := 4 * B + 2) (f := hslot B) hok.ok (fun x => x.at_ ≤ now)
  generalize hxe : s.L R = xs at *
  have hs0 : Below w.heap.size w w.drew := (Below.refl _ _).drew
  go_enter Tryz.func33, Tryz.ntmps33
  go_upto_region 2 with fail
  refine region_facts_deep 9 (fun _ => false) (FN6 [.pointer (some ⟨q, 0, none⟩), .pointer (some ⟨q, 0, none⟩), .pointer (some ⟨q, 1, none⟩), .pointer (some ⟨c, 0, none⟩), .pointer (some ⟨q, 0, none⟩), .int .i64 R, undef, .int .i64 xs.length, .int .i64 0] xs) (fun _ x => Below w.heap.size w x) (fun _ x y => Below x.heap.size x y) [12, 13, 14, 15, 16, 17, 18, 19, 20] (by kernel_rfl) (by kernel_rfl) (by kernel_rfl) (by decide) (by kernel_rfl) (by kernel_rfl) FN6.keep (fun _ _ _ h => h.size) hs0 ?_ ?_
  · intro fr hfr
    have f0 : fr.getD 0 undef = .pointer (some ⟨q, 0, none⟩) := by rw [hfr]; rfl
    clear hfr
    iterate 9
      refine ⟨⟨trivial, ?_⟩, ?_⟩
      · intro ρ w' p hp hdq hρ hd hSt
        simp only [DepF, Region.binds, List.getD_cons_zero, List.getD_cons_succ, FN6, forall_const, and_true, true_and, Nat.reduceEqDiff, if_false, if_true, reduceIte, reduceCtorEq] at hd
        have hcon := hρ.con
        have e0 := (hρ.slot 0 (by kernel_rfl)).trans f0
        have eb := (hqb.below hSt hqb.lt).cell
        unfold rCells at eb
        (try obtain ⟨A9, c9, hd9, _⟩ : ∃ A9 c9, ρ (.tmp 18) = Value.slice A9 xs.length c9 ∧ NatsAt w' A9 xs := hd)
        (try rw [execOp_call_fn _ _ _ _ _ _ _ _ _ (hρ.fn _)])
        go_simp
        (try simp only [GoodQ])
        first
          | exact ⟨rfl, Below.refl _ _, fun h => absurd h (by decide), hSt⟩
          | exact ⟨trivial, Below.refl _ _, fun h => absurd h (by decide), hSt⟩
          | (refine (hrd w' hSt).mono ?_; rintro e w'' ⟨rfl, rfl⟩; exact ⟨_, rfl, rfl, Below.refl _ _, fun h => absurd h (by decide), hSt⟩)
          | (refine (hal w' hSt).mono ?_; rintro e w'' ⟨v, rfl, hxo, hx⟩; obtain ⟨A9, c9, rfl, hxs⟩ := nats_own hxo; exact ⟨_, rfl, ⟨A9, c9, rfl, hxs⟩, hx, fun h => absurd h (by decide), hSt.trans (Below.mono hx hSt.size)⟩)
    trivial
  · intro vs w2 hSt hF _
    have h7 : vs 7 = .int .i64 xs.length := hF 7 (by decide)
    have h8 : vs 8 = .int .i64 0 := hF 8 (by decide)
    obtain ⟨A1, c1, h6, hnat⟩ : ∃ A cap, vs 6 = .slice A xs.length cap ∧ NatsAt w2 A xs := hF 6 (by decide)
    simp only [setAll, List.setIfInBounds_toArray, List.set_cons_zero, List.set_cons_succ, Nat.reduceAdd]
    rw [h6, h7, h8]
    simp only [List.drop_succ_cons, List.drop_zero, List.drop_nil]
    have hm2 := h.below hSt
    have hch2 : Chg (HS q tb nb) w w2 := Chg.of_same hSt _
    have hT2 := hT.below hSt hgt
    have hxl : xs.length ≤ P := by
      have := nodup_le xs (List.range P) hnd fun x hx => List.mem_range.2 (hmem x hx)
      simpa using this
    have ho0 : OwnT w2 w.heap.size (.slice none 0 0) [] := OwnT.nil _ _
    clear h6 h7 h8 hF hs0 hSt hrd hal hqb h
    go_wp2_with fail
    go_loopw [5, 20] (fun u i wr => ∃ (k : Nat) (s' : HSt) (rg' : Nat → Bits) (l' : List Timer), k ≤ xs.length ∧ i = .int .i64 k ∧ RM wr q tb c nb P b B s' rg' m.length cas ∧ OwnT wr w.heap.size u l' ∧ Took P (4 * B + 2) (hslot B) s (fun x => x.at_ ≤ now) l' s' ∧ Swp P s (fun x => now < x.at_) R xs k s' ∧ NatsAt wr A1 xs ∧ Chg (HS q tb nb) w wr ∧ TabAt wr) (fun _ i _ => xs.length - (intOf i).toNat)
    case atStart => exact ⟨0, s, rg, [], Nat.zero_le _, rfl, hm2, ho0, hTk0, hsw0, hnat, hch2, hT2⟩
    case round =>
      clear hm2 ho0 hTk0 hsw0 hnat hch2 hT2
      obtain ⟨k, s1, rg1, la, hk, rfl, hm1, hown, htk, hsw, hxs, hch, hTr⟩ := hrel
      by_cases hlt : k < xs.length
      · have hxm : xs[k] ∈ xs.drop k := by
          rw [List.drop_eq_getElem_cons hlt]
          exact List.mem_cons_self
        have hin := hsw.rest _ hxm
        have hiP := hmem _ (List.getElem_mem hlt)
        obtain ⟨g, cur, rfl, hgb, hgc⟩ := hxs k hlt
        have cx := (hgb.cell k).trans hgc
        have htm := htk.tm
        have t0 := (hm1.tms.cell _).trans (tmC_at P s1.tm xs[k] hiP)
        have hmc := hm1.blk.cell
        unfold rCells at hmc
        have hqb := hm1.blk
        obtain ⟨nx, pv, hcn, _⟩ := hm1.ch.st
        have hnodb := hcn.nod
        have htl := htk.len
        have hpl0 : (s.pend P).length ≤ P := pendL_le _ _ _
        clear hgb hgc hcn
        by_cases hdu : (s1.tm xs[k]).at_ ≤ now
        · have hdr := rdrop_ok q tb c nb P b B xs[k] R s1 rg1 _ cas wr hm1 z hiP hin
          have HT := Lib.hid (htk.one hiP hin (show (s.tm xs[k]).at_ ≤ now by rw [← htm]; exact hdu))
          have HW := Lib.hid (hsw.take hnd hlt)
          rw [← htm] at HT
          clear hsw htk htm hmem hnd hxm
          generalize xs[k] = i at *
          generalize hyv : s1.tm i = y at *
          have hdl : la.length ≤ 100000 := by omega
          obtain ⟨A5, c5, rfl, _⟩ := hown.at
          go_wp2_with fail
          refine hdr.mono ?_
          rintro e w3 ⟨rfl, ⟨rg3, hm3⟩, hk3⟩
          have hown3 : OwnT w3 w.heap.size (.slice A5 la.length c5) la := ownsRow_keep (w' := w3) hown (fun g2 hg2 hgo => hk3.block g2 hg2 (by have := own_base hown g2 hgo; omega))
          have hxs3 : NatsAt w3 (some ⟨g, 0, none⟩) xs := hxs.keep fun g2 cur2 hb2 => hk3.block g2 hb2.lt (fun e => by
            rcases e with rfl | rfl
            · exact hb2.ne hqb (by decide) rfl
            · exact hb2.ne hnodb (by decide) rfl)
          have hch3 : Chg (HS q tb nb) w w3 := hch.trans hk3 (fun k _ e => by
            rcases e with rfl | rfl
            · exact .inl rfl
            · exact .inr (.inr rfl))
          have htne := hm1.tabne hTr
          have hT3 : TabAt w3 := hTr.chg hk3 (fun e => by
            rcases e with e | e
            · exact htne.1 e
            · exact htne.2.2 e)
          have hb3 : w.heap.size ≤ w3.heap.size := hch3.size
          have hmc3 := hm3.blk.cell
          unfold rCells at hmc3
          have t0 := (hm3.tms.cell _).trans (tmC_at P _ i hiP)
          have t1 := (hm3.tms.cell _).trans (tmC_seq P _ i hiP)
          have t2 := (hm3.tms.cell _).trans (tmC_place P _ i hiP)
          have hyv3 : (s1.del i R).tm i = y := hyv
          rw [hyv3] at t0 t1 t2
          clear hdr hown hxs hch hk3 hqb hnodb hm1 hmc hin hdu htne hTr hyv hyv3
          have H8 := Lib.hid (LAt.one w3 y).lw
          have HO := Lib.hid (hown3.alloc (.cells #[.int .u64 y.at_, .int .u64 y.seq, .int .i64 y.place] 37))
          have hsz3 : w.heap.size ≤ (w3.alloc (.cells #[.int .u64 y.at_, .int .u64 y.seq, .int .i64 y.place] 37)).heap.size := by simp; omega
          go_wp2_with (at_builtin; refine wpList_app_one rfl _ _ rfl w.heap.size _ _ rfl HO.out _ _ rfl H8.out hdl hsz3 ?_)
          intro v2 w4 hown4 hgr4 _
          have hk4 : Chg (fun g => (Value.slice A5 la.length c5).ownBlock = some g) w3 w4 := ((Chg.refl (fun g => (Value.slice A5 la.length c5).ownBlock = some g) w3).alloc _).trans (grown_chg' hgr4) (fun g _ e => e)
          have hbo := own_base hown3
          have hm4 := hm3.chg hk4 (fun e => by have := hbo _ e; omega) (fun e => by have := hbo _ e; omega) (fun e => by have := hbo _ e; omega) (fun e => by have := hbo _ e; omega)
          have hxs4 : NatsAt w4 (some ⟨g, 0, none⟩) xs := hxs3.keep fun g2 cur2 hb2 => hk4.block g2 hb2.lt (fun e => by
            obtain ⟨cur3, hc3⟩ := own_blk hown3 g2 e
            exact hc3.ne hb2 (by decide) rfl)
          have hch4 : Chg (HS q tb nb) w w4 := hch3.trans hk4 (fun k hk e => by have := hbo k e; omega)
          have hT4 : TabAt w4 := hT3.chg hk4 (fun e => by have := hbo _ e; omega)
          clear HO H8 hsz3 hgr4 hk4 hm3 hxs3 hch3 hT3 hmc3 t0 t1 t2 hown3 hbo cx hb3
          go_wp2_with fail
          go_roundw
          case rel => exact ⟨k + 1, s1.del i R, rg3, la ++ [y], by omega, by go_num, hm4, hown4, HT.out, HW.out, hxs4, hch4, hT4⟩
          case measure => simp [intOf]; omega
        · have HW := Lib.hid (hsw.leave hlt (show now < (s1.tm xs[k]).at_ by omega))
          have HT := Lib.hid htk
          clear hsw htk htm hmem hnd hxm hqb hnodb
          generalize xs[k] = x at *
          generalize s1.tm x = y at *
          go_wp2_with fail
          go_roundw
          case rel => exact ⟨k + 1, s1, rg1, la, by omega, by go_num, hm1, hown, HT.out, HW.out, hxs, hch, hTr⟩
          case measure => simp [intOf]; omega
      · obtain rfl : k = xs.length := by omega
        have hd := hsw.done
        have hmc := hm1.blk.cell
        unfold rCells at hmc
        rw [htk.base] at hmc
        have hmw : ∀ i, i < P → s1.inn i = some (4 * B) → now < (s1.tm i).at_ := fun i hi e => hd.1 i hi (by rw [← hR.out]; exact e)
        obtain ⟨A5, c5, rfl, _⟩ := hown.at
        by_cases hlt2 : s.base < now
        · have hloo := (callsIn_wide (n := 3)).1 (loose_in q tb c nb P b B (4 * B + 1) s1 rg1 m.length cas now wr hm1 z (Lib.hid rfl) (by rw [htk.base]; exact hb) hw hTr)
          go_wp2_with fail
          refine hloo.mono ?_
          rintro e w3 ⟨v3, lB, lC, sB, s3, rg3, rfl, hm3, ho3, tB, kB, tC, hok3, hgC, hk3⟩
          rw [htk.base] at tB tC hgC
          have hL : Loose P B s now la lB lC s3 := Loose.of hB0 hlt2 hok htk hmw tB kB tC hok3 (fun i hi l' c' hl hc _ hin => by
            have := hgC i hi _ (slot_lt hB0 hl hc) hin
            rwa [bgN_at hc] at this)
          obtain ⟨A7, c7, rfl, _⟩ := ho3.at
          have hsub3 : Chg (HS q tb nb) wr w3 := hk3.mono (fun g _ e => by
            rcases e with e | e
            · exact .inl e
            · exact .inr (.inr e))
          have hown3 : OwnT w3 w.heap.size (.slice A5 la.length c5) la := hown.chg hk3 (fun g e e2 => by have := own_base hown g e; omega)
          have hwr := hch.size
          have hdis : ∀ g, (Value.slice A5 la.length c5).ownBlock = some g → (Value.slice A7 (lB ++ lC).length c7).ownBlock ≠ some g := fun g e e2 => by
            have h1 := own_base ho3 g e2
            obtain ⟨cur, h2⟩ := own_blk hown g e
            have := h2.lt
            omega
          have hch3 : Chg (HS q tb nb) w w3 := hch.trans hsub3 (fun _ _ e => e)
          obtain ⟨hmB, hkB⟩ := RM.setbase hm3 (hL.onward hB0 (by omega))
          have hBk := hL.start hB0 (Int.le_of_lt hlt2)
          have hout := hL.outs hB0 hp.place (fun i hi ho => by
            have := hm _ (hp.mem.2 ⟨i, hi, ho, rfl⟩)
            exact this.1)
          have hownB := hown3.chg hkB (fun g e e2 => by have := own_base hown3 g e; omega)
          have hoB := ho3.chg hkB (fun g e e2 => by have := own_base ho3 g e; omega)
          have hchB := hch3.trans hkB (fun _ _ e => .inl e)
          have hqz := hm3.blk.frozen
          have hql := hm3.blk.lt
          have hqc := hm3.blk.cell
          unfold rCells at hqc
          have hLp := hL.perm.length_eq
          have hpl0 : (s.pend P).length ≤ P := pendL_le _ _ _
          have hol : (lB ++ lC).length ≤ P := by
            simp only [List.length_append] at hLp ⊢
            omega
          have HL := Lib.hid hL
          clear hL tB tC kB hgC hok3 hloo hmw hd hsw htk hown ho3 hk3 hsub3 hm1 hmc hxs hch hch3 hown3 hLp hpl0 hm3 hkB hTr
          generalize hoe : lB ++ lC = out at *
          go_wp2_with fail
          clear hqz hql hqc
          generalize w3.setCell ⟨q, 19, none⟩ (.int .u64 now) = w4 at *
          generalize hbo : wr.heap.size = bo at *
          go_loopw [5, 66] (fun u i W => ∃ (k : Nat) (s' : HSt) (rg' : Nat → Bits) (l' : List Timer) (cc : Nat), k ≤ out.length ∧ i = .int .i64 k ∧ RM W q tb c nb P b B s' rg' m.length (cas + cc) ∧ OwnT W w.heap.size u l' ∧ Back P B s now out lB.length k l' s' cc ∧ OwnT W bo (.slice A7 out.length c7) out ∧ (∀ g, u.ownBlock = some g → (Value.slice A7 out.length c7).ownBlock ≠ some g) ∧ Chg (HS q tb nb) w W) (fun _ i _ => out.length - (intOf i).toNat)
          case atStart => exact ⟨0, _, rg3, la, 0, Nat.zero_le _, rfl, by simpa using hmB, hownB, hBk, hoB, hdis, hchB⟩
          case round =>
            clear hmB hownB hBk hoB hdis hchB
            obtain ⟨k, s', rg', l', cc, hk', rfl, hm', hown, hBk, hoT, hdis, hch⟩ := hrel
            by_cases hlt3 : k < out.length
            · obtain ⟨A, cp, e9, hTm, _⟩ := hoT.at
              injection e9 with e9 _ e10
              subst e9 e10
              obtain ⟨b1, o1, rfl, hb1, c0, c1', c2⟩ := hTm k hlt3
              obtain ⟨⟨i, hiP, hon, htm, hpl, hge⟩, h4⟩ := hout _ (List.getElem_mem hlt3)
              have hlo := hBk.perm.length_eq
              have hpl0 : (s.pend P).length ≤ P := pendL_le _ _ _
              have hl' : l'.length ≤ P := by
                simp only [List.length_append] at hlo
                omega
              clear hlo hTm
              by_cases hdu : out[k].at_ ≤ now
              · have HB := Lib.hid (hBk.told hlt3 hdu)
                clear hBk
                generalize out[k] = y at *
                obtain ⟨A6, c6, rfl, _⟩ := hown.at
                clear hout htm hpl hge h4 hon
                have H8 := Lib.hid (LAt.one (wr.alloc (.cells #[.int .u64 y.at_, .int .u64 y.seq, .int .i64 y.place] 37)) y).lw
                have HO := Lib.hid ((hown.alloc (.cells #[.int .u64 y.at_, .int .u64 y.seq, .int .i64 y.place] 37)).alloc (.cells #[.int .u64 y.at_, .int .u64 y.seq, .int .i64 y.place] 37))
                rw [World.size_alloc] at H8
                have hsz3 : w.heap.size ≤ ((wr.alloc (.cells #[.int .u64 y.at_, .int .u64 y.seq, .int .i64 y.place] 37)).alloc (.cells #[.int .u64 y.at_, .int .u64 y.seq, .int .i64 y.place] 37)).heap.size := by
                  have := hch.size
                  simp; omega
                have hdl : l'.length ≤ 100000 := by omega
                go_wp2_with (at_builtin; refine wpList_app_one rfl _ _ rfl w.heap.size _ _ rfl HO.out _ _ rfl H8.out hdl hsz3 ?_)
                intro v2 w5 hown5 hgr5 hat
                have hk5 : Chg (fun g => (Value.slice A6 l'.length c6).ownBlock = some g) wr w5 := (((Chg.refl (fun g => (Value.slice A6 l'.length c6).ownBlock = some g) wr).alloc _).alloc _).trans (grown_chg' hgr5) (fun g _ e => e)
                have hba := own_base hown
                have hm5 := hm'.chg hk5 (fun e => by have := hba _ e; omega) (fun e => by have := hba _ e; omega) (fun e => by have := hba _ e; omega) (fun e => by have := hba _ e; omega)
                have hoT5 := hoT.chg hk5 (fun g e e2 => hdis g e2 e)
                have hdis5 : ∀ g, v2.ownBlock = some g → (Value.slice (some ⟨b1, o1, none⟩) out.length c7).ownBlock ≠ some g := fun g e e2 => by
                  rcases hat with e3 | e3
                  · exact hdis g (e3.symm.trans e) e2
                  · obtain ⟨cur, h2⟩ := own_blk hoT g e2
                    have h3 := h2.lt
                    rw [e3] at e
                    simp at e
                    omega
                have hch5 : Chg (HS q tb nb) w w5 := hch.trans hk5 (fun k hk e => by have := hba _ e; omega)
                clear HO H8 hsz3 hgr5 hk5 hm' hoT hdis hch hown hba hat c0 c1' c2
                go_wp2_with fail
                go_roundw
                case rel => exact ⟨k + 1, s', rg', l' ++ [y], cc, by omega, by go_num, hm5, hown5, HB.out, hoT5, hdis5, hch5⟩
                case measure => simp [intOf]; omega
              · have HB := Lib.hid (hBk.put hB0 hlt3 hp.place hiP hon htm (by omega) (h4 (by omega)) hge)
                have hfree := hBk.free hlt3 hp.place hiP htm
                have hu : U64 out[k].at_ := hm _ (hp.mem.2 ⟨i, hiP, hon, htm⟩)
                have hcl : cc ≤ 100000 := by
                  have h1 := hBk.count
                  have h2 : ((out.take k).drop lB.length).countP (fun x => decide (now < x.at_)) ≤ ((out.take k).drop lB.length).length := List.countP_le_length
                  simp only [List.length_drop, List.length_take] at h2
                  omega
                have hnk : hslot B now out[k] ≠ 4 * B + 1 := fun e => h4 (by omega) (hslot_inv_kept hB0 e)
                have hput := rput_ok q tb c nb P b B i s' rg' m.length (cas + cc) out[k] _ (hm'.below (alloc_kept' wr (.cells #[.int .u64 out[k].at_, .int .u64 out[k].seq, .int .i64 out[k].place] 37))) z (by rw [hBk.base]; exact hw) hu hiP hfree (Lib.hid hpl)
                rw [hBk.base] at hput
                have hbx : Blk (wr.alloc (.cells #[.int .u64 out[k].at_, .int .u64 out[k].seq, .int .i64 out[k].place] 37)) wr.heap.size 37 #[.int .u64 out[k].at_, .int .u64 out[k].seq, .int .i64 out[k].place] := Blk.new _ _ _
                have hownA := hown.alloc (.cells #[.int .u64 out[k].at_, .int .u64 out[k].seq, .int .i64 out[k].place] 37)
                have hoTA := hoT.alloc (.cells #[.int .u64 out[k].at_, .int .u64 out[k].seq, .int .i64 out[k].place] 37)
                have hchA : Chg (HS q tb nb) w (wr.alloc (.cells #[.int .u64 out[k].at_, .int .u64 out[k].seq, .int .i64 out[k].place] 37)) := hch.alloc _
                unfold Timer.val at hput
                clear hBk hout htm hpl hge h4 hon hu hfree
                generalize out[k] = y at *
                go_wp2_with fail
                refine hput.mono ?_
                rintro e w6 ⟨rfl, ⟨⟨l6, rg6, hm6, _, hl6⟩, hk6⟩⟩
                rw [hl6 hnk] at hm6
                have hown6 := hownA.chg hk6 (fun g e e2 => by have := own_base hownA g e; omega)
                have hoT6 := hoTA.chg hk6 (fun g e e2 => by have := own_base hoTA g e; omega)
                have hch6 : Chg (HS q tb nb) w w6 := hchA.trans hk6 (fun _ _ e => e)
                clear hput hl6 hownA hoTA hchA hk6 hbx hm' hown hoT hch c0 c1' c2
                by_cases hn : lB.length ≤ k
                · have hqz := hm6.blk.frozen
                  have hql := hm6.blk.lt
                  have hqc := hm6.blk.cell
                  unfold rCells at hqc
                  have HW := wrap_one_more cas cc hca hcl
                  rw [if_pos hn] at HB
                  obtain ⟨hm7, hk7⟩ := RM.setcas hm6 (cas + (cc : Int) + 1)
                  have hown7 := hown6.chg hk7 (fun g e e2 => by have := own_base hown6 g e; omega)
                  have hoT7 := hoT6.chg hk7 (fun g e e2 => by have := own_base hoT6 g e; omega)
                  have hch7 : Chg (HS q tb nb) w _ := hch6.trans hk7 (fun _ _ e => .inl e)
                  clear hm6 hown6 hoT6 hch6 hk7
                  go_wp2_with fail
                  go_roundw
                  case rel => exact ⟨k + 1, _, rg6, l', cc + 1, by omega, by go_num, by rw [show cas + ((cc + 1 : Nat) : Int) = cas + (cc : Int) + 1 by omega]; exact hm7, hown7, HB.out, hoT7, hdis, hch7⟩
                  case measure => simp [intOf]; omega
                · rw [if_neg hn] at HB
                  go_wp2_with fail
                  go_roundw
                  case rel => exact ⟨k + 1, _, rg6, l', cc, by omega, by go_num, hm6, hown6, HB.out, hoT6, hdis, hch6⟩
                  case measure => simp [intOf]; omega
            · obtain rfl : k = out.length := by omega
              obtain ⟨A6, c6, rfl, _⟩ := hown.at
              have hdn := hBk
              rw [← hoe] at hdn
              obtain ⟨e1, e2, e3⟩ := hdn.done HL.out hB0 hlt2 hp
              have e4 : s'.base = max s.base now := by rw [hBk.base]; omega
              rw [e3] at hm'
              have hml : m.length ≤ P := by
                have h1 := hp.perm.length_eq
                have h2 := pendL_le P s.on s.tm
                omega
              have hl1 : l'.length = (dueL m now true).length := by rw [← e2, sortL_length]
              have hl2 := dueL_split m now
              have HN := wrap_less m.length l'.length (dueL m now false).length (by omega) (by omega)
              obtain ⟨hmF, hkF⟩ := RM.setn hm' ((dueL m now false).length : Int)
              have hoF := hown.chg hkF (fun g e e2 => by have := own_base hown g e; omega)
              have hsF := osort_any _ l' _ hoF.lat (by omega)
              have hqz := hm'.blk.frozen
              have hql := hm'.blk.lt
              have hqc := hm'.blk.cell
              unfold rCells at hqc
              have hchF := hch.trans hkF (fun _ _ e => .inl e)
              clear hl1 hl2 hml
              rw [hBk.base] at hqc
              have hll := hown.at
              clear hBk hdn hown hoT hdis hout hm' hch
              go_wp2_with fail
              refine hsF.mono ?_
              rintro e wF ⟨vF, rfl, hoF2, hxF⟩
              go_wp2_with fail
              go_ret
              exact ⟨vF, rfl, by rw [← e2]; exact hoF2.mono hchF.size, ⟨s', rg', hmF.below hxF, e1, e4⟩, hchF.trans (Chg.of_same hxF (HS q tb nb)) (fun _ _ e => e)⟩
        · obtain ⟨e1, e2, e3, e4⟩ := due_early hB0 htk hmw (by omega) hp
          have hml : m.length ≤ P := by
            have h1 := hp.perm.length_eq
            have h2 := pendL_le P s.on s.tm
            omega
          have hl1 : la.length = (dueL m now true).length := by rw [← e2, sortL_length]
          have hl2 := dueL_split m now
          have HN := wrap_less m.length la.length (dueL m now false).length (by omega) (by omega)
          obtain ⟨hmF, hkF⟩ := RM.setn hm1 ((dueL m now false).length : Int)
          have hoF := hown.chg hkF (fun g e e2 => by have := own_base hown g e; omega)
          have hsF := osort_any _ la _ hoF.lat (by omega)
          have hqz := hm1.blk.frozen
          have hql := hm1.blk.lt
          have hqc := hm1.blk.cell
          unfold rCells at hqc
          have hchF := hch.trans hkF (fun _ _ e => .inl e)
          clear hl1 hl2 hml
          rw [htk.base] at hqc
          clear hmc htk hm1 hown hch hsw hd hmw hxs
          go_wp2_with fail
          refine hsF.mono ?_
          rintro e wF ⟨vF, rfl, hoF2, hxF⟩
          go_wp2_with fail
          go_ret
          exact ⟨vF, rfl, by rw [← e2]; exact hoF2.mono hchF.size, ⟨s1, rg1, by rw [e4]; simpa using hmF.below hxF, e1, e3⟩, hchF.trans (Chg.of_same hxF (HS q tb nb)) (fun _ _ e => e)⟩
theorem vq_due (q tb c nb P b B : Nat) (base cas now : Int) (m : List Timer) (w : World) (h : RQ w q tb c nb P b B base cas m) (z : RSz P b B) (hb : U64 base) (hw : U64 now) (hm : ∀ x ∈ m, U64 x.at_) (hca : 0 ≤ cas ∧ cas ≤ 1000000000) (hT : TabAt w) :
    Calls Tryz.prog 33 #[.pointer (some ⟨q, 0, none⟩), .int .u64 now] w fun e w' => ∃ v, e = .returned v ∧ OwnT w' w.heap.size v (dueL m now true) ∧ RQ w' q tb c nb P b B (max base now) (cas + casL m B base now) (dueL m now false) ∧ Chg (HS q tb nb) w w' := by
  obtain ⟨s, rg, hr, hp, rfl⟩ := h.ex
  exact vdueA_any q tb c nb P b B _ s rg cas now m w hr hp z (Lib.hid rfl) hb hw hm hca hT
end Go.Proofs.YtckkfbepclogcaaGreatDoor
namespace Go.Proofs.YtckkfbepclogcaaGreatDoor
open Go.RowKit
/-- How many have cascaded behind an act. -/
def casN (m : List Timer) (B : Nat) (base cas : Int) (a : Act) : Int := if a.kind = 3 then cas + casL m B base a.now else cas
/-- Behind the act: the told cells are written. -/
theorem vdo_fin {w w3 : World} {q tb c nb P b B g : Nat} {base cas : Int} {m : List Timer} {o0 o1 o2 o3 o4 : Value} (h : RQ w3 q tb c nb P b B base cas m) (k : Chg (HS q tb nb) w w3) (hq : q < w.heap.size) (ht : tb < w.heap.size) (hc : c < w.heap.size) (hn : nb < w.heap.size) (hg : w.heap.size ≤ g) (bl : Blk w3 g 39 #[o0, o1, o2, o3, o4]) (v0 v1 v2 v3 v4 : Value) :
    ∀ W, W = (((((w3.setCell ⟨g, 0, none⟩ v0).setCell ⟨g, 1, none⟩ v1).setCell ⟨g, 2, none⟩ v2).setCell ⟨g, 3, none⟩ v3).setCell ⟨g, 4, none⟩ v4) →
      RQ W q tb c nb P b B base cas m ∧ Chg (HS q tb nb) w W ∧ Blk W g 39 #[v0, v1, v2, v3, v4] := by
  rintro W rfl
  exact ⟨h.chg (T := fun x => x = g) (chg_put5 (Chg.refl (fun x => x = g) w3) (fun _ => rfl) v0 v1 v2 v3 v4) (by omega) (by omega) (by omega) (by omega), chg_put5 k (fun x => absurd x (by omega)) v0 v1 v2 v3 v4, bl.put5 v0 v1 v2 v3 v4⟩
set_option maxRecDepth 100000 in
set_option maxHeartbeats 2000000 in
theorem vdo_ins (q tb c nb P b B : Nat) (base cas : Int) (m : List Timer) (a : Act) (w : World) (h : RQ w q tb c nb P b B base cas m) (z : RSz P b B) (hb : U64 base) (ht : U64 a.t.at_) (hk : a.kind = 0) :
    Calls Tryz.prog 10 #[.pointer (some ⟨q, 0, none⟩), a.val] w fun e w' => e = .returned (tV (insC P m a.t) Timer.zero (.slice none 0 0)) ∧ RQ w' q tb c nb P b B base cas (insL P m a.t) ∧ Chg (HS q tb nb) w w' := by
  obtain ⟨l0, l1, l2, l3⟩ := h.lts
  have q0 : Blk ((w.alloc (.cells #[.int .i64 a.kind, .int .u64 a.t.at_, .int .u64 a.t.seq, .int .i64 a.t.place, .int .u64 a.now] 43)).alloc (.cells #[.int .i64 0, .int .u64 0, .int .u64 0, .int .i64 0, .slice none 0 0] 39)) (w.heap.size + 1) 39 #[.int .i64 0, .int .u64 0, .int .u64 0, .int .i64 0, .slice none 0 0] := alloc2_at _ _ _ _
  have hb0 : Below w.heap.size w ((w.alloc (.cells #[.int .i64 a.kind, .int .u64 a.t.at_, .int .u64 a.t.seq, .int .i64 a.t.place, .int .u64 a.now] 43)).alloc (.cells #[.int .i64 0, .int .u64 0, .int .u64 0, .int .i64 0, .slice none 0 0] 39)) := ((Below.refl _ _).alloc (Nat.le_refl _) _).alloc (by simp) _
  have h1 := h.below hb0
  have hout : ¬ HS q tb nb (w.heap.size + 1) := by unfold HS; omega
  have hin := vq_ins q tb c nb P b B base cas m a.t _ h1 z hb ht
  unfold Timer.val at hin
  unfold Act.val
  rw [hk] at q0 hb0 hin h1 ⊢
  clear h h1
  go_enter Tryz.func10, Tryz.ntmps10
  go_wp2_with fail
  refine hin.mono ?_
  rintro e w1 ⟨rfl, hq1, hk1⟩
  have q1 := q0.chg hk1 hout
  replace hk1 := (Chg.of_same hb0 _).trans hk1 (fun _ _ e => e)
  clear hin q0 hb0
  generalize hC : insC P m a.t = x at *
  generalize hL : insL P m a.t = y at *
  have HC := Lib.hid hC
  have HL := Lib.hid hL
  clear hC hL
  have hF := vdo_fin hq1 hk1 l0 l1 l2 l3 (g := w.heap.size + 1) (by omega) q1 (.int .i64 x) (.int .u64 0) (.int .u64 0) (.int .i64 0) (.slice none 0 0)
  have hr := hF _ rfl
  have hF := Lib.hid hF
  have hB := hr.2.2.cell
  have c1 := q1.cell
  have z1 := q1.frozen
  have lq := q1.lt
  clear hr
  go_wp2_with fail
  refine bodyPost_ret (v := tV x Timer.zero (.slice none 0 0)) ?_ rfl ⟨by rw [HC.out], by rw [HL.out]; exact (hF.out _ rfl).1, (hF.out _ rfl).2.1⟩
  simp [results, Tryz.results10, go_sem, tV, Timer.zero, hB]
theorem vdo_mov (q tb c nb P b B : Nat) (base cas : Int) (m : List Timer) (a : Act) (w : World) (h : RQ w q tb c nb P b B base cas m) (z : RSz P b B) (hb : U64 base) (ht : U64 a.t.at_) (hk : a.kind = 2) :
    Calls Tryz.prog 10 #[.pointer (some ⟨q, 0, none⟩), a.val] w fun e w' => e = .returned (tV (movC P m a.t) Timer.zero (.slice none 0 0)) ∧ RQ w' q tb c nb P b B base cas (movL P m a.t) ∧ Chg (HS q tb nb) w w' := by
  obtain ⟨l0, l1, l2, l3⟩ := h.lts
  have q0 : Blk ((w.alloc (.cells #[.int .i64 a.kind, .int .u64 a.t.at_, .int .u64 a.t.seq, .int .i64 a.t.place, .int .u64 a.now] 43)).alloc (.cells #[.int .i64 0, .int .u64 0, .int .u64 0, .int .i64 0, .slice none 0 0] 39)) (w.heap.size + 1) 39 #[.int .i64 0, .int .u64 0, .int .u64 0, .int .i64 0, .slice none 0 0] := alloc2_at _ _ _ _
  have hb0 : Below w.heap.size w ((w.alloc (.cells #[.int .i64 a.kind, .int .u64 a.t.at_, .int .u64 a.t.seq, .int .i64 a.t.place, .int .u64 a.now] 43)).alloc (.cells #[.int .i64 0, .int .u64 0, .int .u64 0, .int .i64 0, .slice none 0 0] 39)) := ((Below.refl _ _).alloc (Nat.le_refl _) _).alloc (by simp) _
  have h1 := h.below hb0
  have hout : ¬ HS q tb nb (w.heap.size + 1) := by unfold HS; omega
  have hin := vq_mov q tb c nb P b B base cas m a.t _ h1 z hb ht
  unfold Timer.val at hin
  unfold Act.val
  rw [hk] at q0 hb0 hin h1 ⊢
  clear h h1
  go_enter Tryz.func10, Tryz.ntmps10
  go_wp2_with fail
  refine hin.mono ?_
  rintro e w1 ⟨rfl, hq1, hk1⟩
  have q1 := q0.chg hk1 hout
  replace hk1 := (Chg.of_same hb0 _).trans hk1 (fun _ _ e => e)
  clear hin q0 hb0
  generalize hC : movC P m a.t = x at *
  generalize hL : movL P m a.t = y at *
  have HC := Lib.hid hC
  have HL := Lib.hid hL
  clear hC hL
  have hF := vdo_fin hq1 hk1 l0 l1 l2 l3 (g := w.heap.size + 1) (by omega) q1 (.int .i64 x) (.int .u64 0) (.int .u64 0) (.int .i64 0) (.slice none 0 0)
  have hr := hF _ rfl
  have hF := Lib.hid hF
  have hB := hr.2.2.cell
  have c1 := q1.cell
  have z1 := q1.frozen
  have lq := q1.lt
  clear hr
  go_wp2_with fail
  refine bodyPost_ret (v := tV x Timer.zero (.slice none 0 0)) ?_ rfl ⟨by rw [HC.out], by rw [HL.out]; exact (hF.out _ rfl).1, (hF.out _ rfl).2.1⟩
  simp [results, Tryz.results10, go_sem, tV, Timer.zero, hB]
set_option maxRecDepth 100000 in
set_option maxHeartbeats 2000000 in
theorem vdo_can (q tb c nb P b B : Nat) (base cas : Int) (m : List Timer) (a : Act) (w : World) (h : RQ w q tb c nb P b B base cas m) (z : RSz P b B) (hk : a.kind = 1) :
    Calls Tryz.prog 10 #[.pointer (some ⟨q, 0, none⟩), a.val] w fun e w' => e = .returned (tV (canC P m a.t.place) (canT P m a.t.place) (.slice none 0 0)) ∧ RQ w' q tb c nb P b B base cas (canL P m a.t.place) ∧ Chg (HS q tb nb) w w' := by
  obtain ⟨l0, l1, l2, l3⟩ := h.lts
  have q0 : Blk ((w.alloc (.cells #[.int .i64 a.kind, .int .u64 a.t.at_, .int .u64 a.t.seq, .int .i64 a.t.place, .int .u64 a.now] 43)).alloc (.cells #[.int .i64 0, .int .u64 0, .int .u64 0, .int .i64 0, .slice none 0 0] 39)) (w.heap.size + 1) 39 #[.int .i64 0, .int .u64 0, .int .u64 0, .int .i64 0, .slice none 0 0] := alloc2_at _ _ _ _
  have hb0 : Below w.heap.size w ((w.alloc (.cells #[.int .i64 a.kind, .int .u64 a.t.at_, .int .u64 a.t.seq, .int .i64 a.t.place, .int .u64 a.now] 43)).alloc (.cells #[.int .i64 0, .int .u64 0, .int .u64 0, .int .i64 0, .slice none 0 0] 39)) := ((Below.refl _ _).alloc (Nat.le_refl _) _).alloc (by simp) _
  have h1 := h.below hb0
  have hout : ¬ HS q tb nb (w.heap.size + 1) := by unfold HS; omega
  have hin := vq_can q tb c nb P b B base cas m a.t.place _ h1 z
  have e0 := (((Blk.new w 43 #[.int .i64 a.kind, .int .u64 a.t.at_, .int .u64 a.t.seq, .int .i64 a.t.place, .int .u64 a.now]).alloc (.cells #[.int .i64 0, .int .u64 0, .int .u64 0, .int .i64 0, .slice none 0 0] 39))).cell
  unfold Act.val
  rw [hk] at q0 hb0 hin h1 e0 ⊢
  clear h h1
  go_enter Tryz.func10, Tryz.ntmps10
  go_wp2_with fail
  refine hin.mono ?_
  rintro e w1 ⟨rfl, hq1, hk1⟩
  have q1 := q0.chg hk1 hout
  replace hk1 := (Chg.of_same hb0 _).trans hk1 (fun _ _ e => e)
  clear hin q0 hb0 e0
  unfold teV Timer.val
  generalize hC : canC P m a.t.place = x at *
  generalize hL : canL P m a.t.place = y at *
  generalize hT : canT P m a.t.place = t at *
  have HC := Lib.hid hC
  have HL := Lib.hid hL
  have HT := Lib.hid hT
  clear hC hL hT
  have hF := vdo_fin hq1 hk1 l0 l1 l2 l3 (g := w.heap.size + 1) (by omega) q1 (.int .i64 x) (.int .u64 t.at_) (.int .u64 t.seq) (.int .i64 t.place) (.slice none 0 0)
  have hr := hF _ rfl
  have hF := Lib.hid hF
  have hB := hr.2.2.cell
  have c1 := q1.cell
  have z1 := q1.frozen
  have lq := q1.lt
  clear hr
  go_wp2_with fail
  refine bodyPost_ret (v := tV x t (.slice none 0 0)) ?_ rfl ⟨by rw [HC.out, HT.out], by rw [HL.out]; exact (hF.out _ rfl).1.below (alloc_kept' _ _), (hF.out _ rfl).2.1.alloc _⟩
  simp [results, Tryz.results10, go_sem, tV, hB, lq]
set_option maxRecDepth 100000 in
set_option maxHeartbeats 2000000 in
theorem vdo_due (q tb c nb P b B : Nat) (base cas : Int) (m : List Timer) (a : Act) (w : World) (h : RQ w q tb c nb P b B base cas m) (z : RSz P b B) (hb : U64 base) (hw : U64 a.now) (hm : ∀ x ∈ m, U64 x.at_) (hca : 0 ≤ cas ∧ cas ≤ 1000000000) (hT : TabAt w) (hk : a.kind = 3) :
    Calls Tryz.prog 10 #[.pointer (some ⟨q, 0, none⟩), a.val] w fun e w' => ∃ u, e = .returned (tV 0 Timer.zero u) ∧ OwnT w' w.heap.size u (dueL m a.now true) ∧ RQ w' q tb c nb P b B (max base a.now) (cas + casL m B base a.now) (dueL m a.now false) ∧ Chg (HS q tb nb) w w' := by
  obtain ⟨l0, l1, l2, l3⟩ := h.lts
  have q0 : Blk ((w.alloc (.cells #[.int .i64 a.kind, .int .u64 a.t.at_, .int .u64 a.t.seq, .int .i64 a.t.place, .int .u64 a.now] 43)).alloc (.cells #[.int .i64 0, .int .u64 0, .int .u64 0, .int .i64 0, .slice none 0 0] 39)) (w.heap.size + 1) 39 #[.int .i64 0, .int .u64 0, .int .u64 0, .int .i64 0, .slice none 0 0] := alloc2_at _ _ _ _
  have hb0 : Below w.heap.size w ((w.alloc (.cells #[.int .i64 a.kind, .int .u64 a.t.at_, .int .u64 a.t.seq, .int .i64 a.t.place, .int .u64 a.now] 43)).alloc (.cells #[.int .i64 0, .int .u64 0, .int .u64 0, .int .i64 0, .slice none 0 0] 39)) := ((Below.refl _ _).alloc (Nat.le_refl _) _).alloc (by simp) _
  have h1 := h.below hb0
  have hout : ¬ HS q tb nb (w.heap.size + 1) := by unfold HS; omega
  have hT1 := hT.below hb0 (glob_lt hT)
  have hin := vq_due q tb c nb P b B base cas a.now m _ h1 z hb hw hm hca hT1
  unfold Act.val
  rw [hk] at q0 hb0 hin h1 ⊢
  clear h h1 hT hT1
  go_enter Tryz.func10, Tryz.ntmps10
  go_wp2_with fail
  refine hin.mono ?_
  rintro e w1 ⟨u, rfl, ho, hq1, hk1⟩
  have q1 := q0.chg hk1 hout
  replace hk1 := (Chg.of_same hb0 _).trans hk1 (fun _ _ e => e)
  clear hin q0 hb0
  obtain ⟨A0, c0, rfl, _⟩ := ho.at
  have hoF : ∀ v0 v1 v2 v3 v4, OwnT (((((w1.setCell ⟨w.heap.size + 1, 0, none⟩ v0).setCell ⟨w.heap.size + 1, 1, none⟩ v1).setCell ⟨w.heap.size + 1, 2, none⟩ v2).setCell ⟨w.heap.size + 1, 3, none⟩ v3).setCell ⟨w.heap.size + 1, 4, none⟩ v4) w.heap.size (.slice A0 (dueL m a.now true).length c0) (dueL m a.now true) := by
    intro v0 v1 v2 v3 v4
    refine (ho.mono (by simp; omega)).chg (T := fun x => x = w.heap.size + 1) (chg_put5 (Chg.refl (fun x => x = w.heap.size + 1) w1) (fun _ => rfl) v0 v1 v2 v3 v4) ?_
    intro g hg
    have := own_base ho g hg
    simp at this
    omega
  have HO := Lib.hid hoF
  clear ho hoF
  generalize (dueL m a.now true).length = n0 at *
  have hF := vdo_fin hq1 hk1 l0 l1 l2 l3 (g := w.heap.size + 1) (by omega) q1 (.int .i64 0) (.int .u64 0) (.int .u64 0) (.int .i64 0) (.slice A0 n0 c0)
  have hr := hF _ rfl
  have hF := Lib.hid hF
  have hB := hr.2.2.cell
  have c1 := q1.cell
  have z1 := q1.frozen
  have lq := q1.lt
  clear hr
  go_wp2_with fail
  refine bodyPost_ret (v := tV 0 Timer.zero (.slice A0 n0 c0)) ?_ rfl ⟨.slice A0 n0 c0, rfl, ?_, (hF.out _ rfl).1, (hF.out _ rfl).2.1⟩
  · simp [results, Tryz.results10, go_sem, tV, Timer.zero, hB]
  · exact HO.out _ _ _ _ _
set_option maxRecDepth 100000 in
set_option maxHeartbeats 2000000 in
theorem vdo_none (q tb c nb P b B : Nat) (base cas : Int) (m : List Timer) (a : Act) (w : World) (h : RQ w q tb c nb P b B base cas m) (g0 : (a.kind == 0) = false) (g1 : (a.kind == 1) = false) (g2 : (a.kind == 2) = false) (g3 : (a.kind == 3) = false) :
    Calls Tryz.prog 10 #[.pointer (some ⟨q, 0, none⟩), a.val] w fun e w' => e = .returned (tV 0 Timer.zero (.slice none 0 0)) ∧ RQ w' q tb c nb P b B base cas m ∧ Chg (HS q tb nb) w w' := by
  obtain ⟨l0, l1, l2, l3⟩ := h.lts
  have q0 : Blk ((w.alloc (.cells #[.int .i64 a.kind, .int .u64 a.t.at_, .int .u64 a.t.seq, .int .i64 a.t.place, .int .u64 a.now] 43)).alloc (.cells #[.int .i64 0, .int .u64 0, .int .u64 0, .int .i64 0, .slice none 0 0] 39)) (w.heap.size + 1) 39 #[.int .i64 0, .int .u64 0, .int .u64 0, .int .i64 0, .slice none 0 0] := alloc2_at _ _ _ _
  have hb0 : Below w.heap.size w ((w.alloc (.cells #[.int .i64 a.kind, .int .u64 a.t.at_, .int .u64 a.t.seq, .int .i64 a.t.place, .int .u64 a.now] 43)).alloc (.cells #[.int .i64 0, .int .u64 0, .int .u64 0, .int .i64 0, .slice none 0 0] 39)) := ((Below.refl _ _).alloc (Nat.le_refl _) _).alloc (by simp) _
  have h1 := h.below hb0
  have hout : ¬ HS q tb nb (w.heap.size + 1) := by unfold HS; omega
  have hq1 := h1
  have hk1 : Chg (HS q tb nb) w _ := Chg.of_same hb0 _
  have q1 := q0
  clear q0 hb0 h h1
  unfold Act.val
  generalize a.kind = kd at *
  have hB := q1.cell
  have HQ1 := Lib.hid hq1
  have HK1 := Lib.hid hk1
  clear hq1 hk1 q1
  go_enter Tryz.func10, Tryz.ntmps10
  go_wp2_with fail
  refine bodyPost_ret (v := tV 0 Timer.zero (.slice none 0 0)) ?_ rfl ⟨rfl, HQ1.out, HK1.out⟩
  simp [results, Tryz.results10, go_sem, tV, Timer.zero, hB]
/-- Whatever is done with the wheel. -/
theorem vdo_any (q tb c nb P b B : Nat) (base cas : Int) (m : List Timer) (a : Act) (w : World) (h : RQ w q tb c nb P b B base cas m) (z : RSz P b B) (hT : TabAt w) (hb : U64 base) (ht : U64 a.t.at_) (hw : U64 a.now) (hm : ∀ x ∈ m, U64 x.at_) (hca : 0 ≤ cas ∧ cas ≤ 1000000000) :
    Calls Tryz.prog 10 #[.pointer (some ⟨q, 0, none⟩), a.val] w fun e w' => ∃ u, e = .returned (tV (doE P m a) (doT P m a) u) ∧ OwnT w' w.heap.size u (doD m a) ∧ RQ w' q tb c nb P b B (baseN base a) (casN m B base cas a) (doL P m a) ∧ Chg (HS q tb nb) w w' := by
  by_cases h0 : a.kind = 0
  · have e1 : doE P m a = insC P m a.t := by simp [doE, h0]
    have e2 : doT P m a = Timer.zero := by simp [doT, h0]
    have e3 : doL P m a = insL P m a.t := by simp [doL, h0]
    have e4 : doD m a = [] := by simp [doD, h0]
    have e5 : baseN base a = base := by simp [baseN, h0]
    have e6 : casN m B base cas a = cas := by simp [casN, h0]
    rw [e1, e2, e3, e4, e5, e6]
    refine (vdo_ins q tb c nb P b B base cas m a w h z hb ht h0).mono ?_
    rintro e w' ⟨rfl, hq, hk⟩
    exact ⟨_, rfl, OwnT.nil _ _, hq, hk⟩
  by_cases h1 : a.kind = 1
  · have e1 : doE P m a = canC P m a.t.place := by simp [doE, h1]
    have e2 : doT P m a = canT P m a.t.place := by simp [doT, h1]
    have e3 : doL P m a = canL P m a.t.place := by simp [doL, h1]
    have e4 : doD m a = [] := by simp [doD, h1]
    have e5 : baseN base a = base := by simp [baseN, h1]
    have e6 : casN m B base cas a = cas := by simp [casN, h1]
    rw [e1, e2, e3, e4, e5, e6]
    refine (vdo_can q tb c nb P b B base cas m a w h z h1).mono ?_
    rintro e w' ⟨rfl, hq, hk⟩
    exact ⟨_, rfl, OwnT.nil _ _, hq, hk⟩
  by_cases h2 : a.kind = 2
  · have e1 : doE P m a = movC P m a.t := by simp [doE, h2]
    have e2 : doT P m a = Timer.zero := by simp [doT, h2]
    have e3 : doL P m a = movL P m a.t := by simp [doL, h2]
    have e4 : doD m a = [] := by simp [doD, h2]
    have e5 : baseN base a = base := by simp [baseN, h2]
    have e6 : casN m B base cas a = cas := by simp [casN, h2]
    rw [e1, e2, e3, e4, e5, e6]
    refine (vdo_mov q tb c nb P b B base cas m a w h z hb ht h2).mono ?_
    rintro e w' ⟨rfl, hq, hk⟩
    exact ⟨_, rfl, OwnT.nil _ _, hq, hk⟩
  by_cases h3 : a.kind = 3
  · have e1 : doE P m a = 0 := by simp [doE, h3]
    have e2 : doT P m a = Timer.zero := by simp [doT, h3]
    have e3 : doL P m a = dueL m a.now false := by simp [doL, h3]
    have e4 : doD m a = dueL m a.now true := by simp [doD, h3]
    have e5 : baseN base a = max base a.now := by simp [baseN, h3]
    have e6 : casN m B base cas a = cas + (casL m B base a.now : Nat) := by simp [casN, h3]
    rw [e1, e2, e3, e4, e5, e6]
    exact vdo_due q tb c nb P b B base cas m a w h z hb hw hm hca hT h3
  · have e1 : doE P m a = 0 := by simp [doE, h0, h1, h2]
    have e2 : doT P m a = Timer.zero := by simp [doT, h1]
    have e3 : doL P m a = m := by simp [doL, h0, h1, h2, h3]
    have e4 : doD m a = [] := by simp [doD, h3]
    have e5 : baseN base a = base := by simp [baseN, h3]
    have e6 : casN m B base cas a = cas := by simp [casN, h3]
    rw [e1, e2, e3, e4, e5, e6]
    refine (vdo_none q tb c nb P b B base cas m a w h (by simp [h0]) (by simp [h1]) (by simp [h2]) (by simp [h3])).mono ?_
    rintro e w' ⟨rfl, hq, hk⟩
    exact ⟨_, rfl, OwnT.nil _ _, hq, hk⟩
end Go.Proofs.YtckkfbepclogcaaGreatDoor
namespace Go.Proofs.YtckkfbepclogcaaGreatDoor
/-- How often a timer may still cascade. -/
def pot (B : Nat) (base : Int) (x : Timer) : Nat := min 3 (lev B base x.at_).toNat
def potS (B : Nat) (base : Int) (m : List Timer) : Nat := (m.map (pot B base)).sum
theorem pot_le (B : Nat) (base : Int) (x : Timer) : pot B base x ≤ 3 := Nat.min_le_left _ _
theorem potS_perm {B : Nat} {base : Int} {m m' : List Timer} (h : m.Perm m') : potS B base m = potS B base m' := (h.map _).sum_nat
theorem potS_filter (B : Nat) (base : Int) (p : Timer → Bool) : ∀ m : List Timer, potS B base (m.filter p) ≤ potS B base m
  | [] => Nat.le_refl _
  | x :: m => by
    have ih := potS_filter B base p m
    unfold potS at *
    rw [List.filter_cons]
    split <;> simp <;> omega
theorem pot_due {B : Nat} (hB : 0 < B) {base now : Int} (hb : base < now) {x : Timer} (hx : now < x.at_) : pot B now x + (if cascB B base now x = true then 1 else 0) ≤ pot B base x := by
  have h1 := lev_mono (B := (B : Int)) (by omega) (Int.le_of_lt hb) hx
  have h2 : lev (B : Int) now x.at_ ≠ -1 := fun e => by have := lev_neg.1 e; omega
  have h3 := lev_in (B : Int) now x.at_
  unfold pot cascB
  by_cases hc : 0 ≤ lev (B : Int) base x.at_ ∧ lev (B : Int) base x.at_ ≤ 3 ∧ lev (B : Int) now x.at_ < lev (B : Int) base x.at_
  · rw [if_pos (by simpa using hc)]
    omega
  · rw [if_neg (by simpa using hc)]
    omega
theorem potS_due {B : Nat} (hB : 0 < B) {base now : Int} (hb : base < now) : ∀ m : List Timer, potS B now (dueL m now false) + (dueL m now false).countP (cascB B base now) ≤ potS B base m
  | [] => Nat.le_refl _
  | x :: m => by
    have ih := potS_due hB hb m
    by_cases hx : x.at_ ≤ now
    · have e : dueL (x :: m) now false = dueL m now false := by simp [dueL, hx]
      rw [e]
      unfold potS at *
      simp only [List.map_cons, List.sum_cons]
      omega
    · have e : dueL (x :: m) now false = x :: dueL m now false := by simp [dueL, hx]
      have h1 := pot_due hB hb (x := x) (by omega)
      rw [e, List.countP_cons]
      unfold potS at *
      simp only [List.map_cons, List.sum_cons]
      omega
theorem potS_turn {B : Nat} (hB : 0 < B) (base now : Int) (m : List Timer) : casL m B base now + potS B (max base now) (dueL m now false) ≤ potS B base m := by
  unfold casL
  by_cases hb : now ≤ base
  · rw [if_pos hb, show max base now = base by omega]
    have := potS_filter B base (fun x => decide (x.at_ ≤ now) == false) m
    unfold dueL
    omega
  · rw [if_neg hb, show max base now = now by omega]
    have := potS_due hB (show base < now by omega) m
    omega
theorem potS_ins (P : Int) (B : Nat) (base : Int) (m : List Timer) (t : Timer) : potS B base (insL P m t) ≤ potS B base m + if insC P m t = 0 then 3 else 0 := by
  unfold insL
  split
  · rw [potS_perm (putL_perm m t)]
    have := pot_le B base t
    unfold potS
    simp only [List.map_cons, List.sum_cons]
    omega
  · omega
theorem potS_can (P : Int) (B : Nat) (base : Int) (m : List Timer) (p : Int) : potS B base (canL P m p) ≤ potS B base m := by
  unfold canL
  split
  · exact potS_filter B base _ m
  · exact Nat.le_refl _
theorem potS_mov (P : Int) (B : Nat) (base : Int) (m : List Timer) (t : Timer) : potS B base (movL P m t) ≤ potS B base m + if movC P m t = 0 then 3 else 0 := by
  unfold movL movC
  by_cases h : canC P m t.place = 0
  · rw [if_pos h, if_pos h]
    have h1 := potS_ins P B base (withoutL m t.place) t
    have h2 := potS_filter B base (fun x => decide (x.place ≠ t.place)) m
    unfold withoutL at *
    omega
  · rw [if_neg h, if_neg h]
    omega
/-- Behind an act: what has cascaded, and what still may. -/
def inN (P : Int) (m : List Timer) (a : Act) : Nat := if doE P m a = 0 ∧ (a.kind = 0 ∨ a.kind = 2) then 1 else 0
theorem few_step {B : Nat} (hB : 0 < B) (P : Int) (m : List Timer) (base cas : Int) (a : Act) : casN m B base cas a + (potS B (baseN base a) (doL P m a) : Nat) ≤ cas + (potS B base m : Nat) + 3 * (inN P m a : Nat) := by
  unfold casN baseN inN doL doE
  by_cases h0 : a.kind = 0
  · have := potS_ins P B base m a.t
    simp only [h0]
    simp
    split at this <;> simp_all <;> omega
  · by_cases h1 : a.kind = 1
    · have := potS_can P B base m a.t.place
      simp only [h1]
      simp
      omega
    · by_cases h2 : a.kind = 2
      · have := potS_mov P B base m a.t
        simp only [h2]
        simp
        split at this <;> simp_all <;> omega
      · by_cases h3 : a.kind = 3
        · have := potS_turn hB base a.now m
          simp only [h3]
          simp
          omega
        · simp [h0, h1, h2, h3]
theorem casN_ge {m : List Timer} {B : Nat} {base cas : Int} {a : Act} : cas ≤ casN m B base cas a := by
  unfold casN
  split <;> omega
theorem u64_do {P : Int} {m : List Timer} {a : Act} (hm : ∀ x ∈ m, U64 x.at_) (ha : U64 a.t.at_) : ∀ x ∈ doL P m a, U64 x.at_ := by
  have hi : ∀ l : List Timer, (∀ x ∈ l, U64 x.at_) → ∀ x ∈ insL P l a.t, U64 x.at_ := fun l hl x hx => by
    unfold insL at hx
    split at hx
    · rcases List.mem_cons.1 ((putL_perm l a.t).mem_iff.1 hx) with rfl | hx
      · exact ha
      · exact hl x hx
    · exact hl x hx
  intro x hx
  unfold doL at hx
  split at hx
  · exact hi m hm x hx
  split at hx
  · unfold canL at hx
    split at hx
    · exact hm x (List.mem_filter.1 hx).1
    · exact hm x hx
  split at hx
  · unfold movL at hx
    split at hx
    · exact hi _ (fun y hy => hm y (List.mem_filter.1 hy).1) x hx
    · exact hm x hx
  split at hx
  · exact hm x (List.mem_filter.1 hx).1
  · exact hm x hx
end Go.Proofs.YtckkfbepclogcaaGreatDoor
namespace Go.Proofs.YtckkfbepclogcaaGreatDoor
open Go.RowKit
def vkA : Timer := ⟨4165, 0, 0⟩
def vkB : Timer := ⟨16777216, 0, 1⟩
def vkD : Timer := ⟨16777215, 0, 1⟩
/-- The example's timers, and all that was there. -/
structure VK (g q tb c nb : Nat) (w w' : World) : Prop where
  a : Blk w' g 37 #[.int .u64 4165, .int .u64 0, .int .i64 0]
  b : Blk w' (g + 1) 37 #[.int .u64 16777216, .int .u64 0, .int .i64 1]
  lq : w.heap.size ≤ q ∧ q < g
  lt : w.heap.size ≤ tb ∧ tb < g
  lc : w.heap.size ≤ c ∧ c < g
  ln : w.heap.size ≤ nb ∧ nb < g
  below : Below w.heap.size w w'
theorem VK.chg {g q tb c nb : Nat} {w x y : World} (h : VK g q tb c nb w x) (k : Chg (HS q tb nb) x y) : VK g q tb c nb w y := by
  obtain ⟨a1, a2⟩ := h.lq
  obtain ⟨b1, b2⟩ := h.lt
  obtain ⟨c1, c2⟩ := h.ln
  have hn : ∀ i, g ≤ i → ¬ HS q tb nb i := fun i hi e => by unfold HS at e; omega
  exact ⟨h.a.chg k (hn _ (Nat.le_refl _)), h.b.chg k (hn _ (by omega)), h.lq, h.lt, h.lc, h.ln, below_chg h.below (Nat.le_refl _) k (fun i e => by unfold HS at e; omega)⟩
theorem VK.kept {g q tb c nb : Nat} {w x y : World} (h : VK g q tb c nb w x) (k : Below x.heap.size x y) : VK g q tb c nb w y := h.chg (Chg.of_same k _)
theorem VK.new {q tb c nb : Nat} {w w1 : World} (hb : Below w.heap.size w w1) (h1 : w.heap.size ≤ q ∧ q < w1.heap.size) (h2 : w.heap.size ≤ tb ∧ tb < w1.heap.size) (h3 : w.heap.size ≤ c ∧ c < w1.heap.size) (h4 : w.heap.size ≤ nb ∧ nb < w1.heap.size) :
    VK w1.heap.size q tb c nb w ((w1.alloc (.cells #[.int .u64 4165, .int .u64 0, .int .i64 0] 37)).alloc (.cells #[.int .u64 16777216, .int .u64 0, .int .i64 1] 37)) :=
  ⟨(Blk.new _ _ _).alloc _, alloc2_at _ _ _ _, h1, h2, h3, h4, (hb.alloc hb.size _).alloc (by have := hb.size; simp; omega) _⟩
/-! The two that are put in. -/
def V5 (g q tb c nb : Nat) (w0 : World) (p : Nat → Bool) (w : World) : Prop :=
  VK g q tb c nb w0 w ∧ (p 5 = true → p 2 = true) ∧
    (p 2 = false → RQ w q tb c nb 2 6 64 0 0 []) ∧ (p 2 = true → p 5 = false → RQ w q tb c nb 2 6 64 0 0 [vkA]) ∧ (p 5 = true → RQ w q tb c nb 2 6 64 0 0 [vkA, vkB])
def G5 (q : Nat) (j : Nat) (v : Value) (_ : World) : Prop := match j with
  | 0 => v = .pointer (some ⟨q, 0, none⟩)
  | 1 => v = tv vkA
  | 2 => v = .int .i64 0
  | 3 => v = .pointer (some ⟨q, 0, none⟩)
  | 4 => v = tv vkB
  | _ => v = .int .i64 0
theorem V5.quiet {g q tb c nb : Nat} {w0 w w' : World} {p : Nat → Bool} (i : Nat) (h : V5 g q tb c nb w0 p w) (k : Below w.heap.size w w') (h2 : i ≠ 2) (h5 : i ≠ 5) : V5 g q tb c nb w0 (also p i) w' := by
  have e2 : also p i 2 = p 2 := also_ne p (fun e => h2 e.symm)
  have e5 : also p i 5 = p 5 := also_ne p (fun e => h5 e.symm)
  unfold V5
  rw [e2, e5]
  obtain ⟨a, b, d1, d2, d3⟩ := h
  exact ⟨a.kept k, b, fun x => (d1 x).below k, fun x y => (d2 x y).below k, fun x => (d3 x).below k⟩
theorem vk_i1 : insC (2 : Nat) [] vkA = 0 ∧ insL (2 : Nat) [] vkA = [vkA] := by decide
theorem vk_i2 : insC (2 : Nat) [vkA] vkB = 0 ∧ insL (2 : Nat) [vkA] vkB = [vkA, vkB] := by decide
theorem vk_mov : movC (2 : Nat) [vkA, vkB] vkD = 0 ∧ movL (2 : Nat) [vkA, vkB] vkD = [vkA, vkD] := by decide
theorem vk_can : canC (2 : Nat) [vkA, vkD] 1 = 0 ∧ canL (2 : Nat) [vkA, vkD] 1 = [vkA] ∧ canT (2 : Nat) [vkA, vkD] 1 = vkD := by decide
theorem vk_get : getL [vkA] 0 = some vkA := by decide
theorem vk_u : ∀ x ∈ [vkA], U64 x.at_ := by
  intro x hx
  rw [List.mem_singleton.1 hx]
  unfold U64
  decide
theorem u64_vk : U64 0 ∧ U64 vkA.at_ ∧ U64 vkB.at_ ∧ U64 vkD.at_ := by unfold U64; decide
theorem vk_w (base : Int) (L S : Int) (h1 : lev ((64 : Nat) : Int) base 4165 = L) (h2 : slotI ((64 : Nat) : Int) base 4165 = S) : whV 64 base (getL [vkA] 0) = .tuple #[.int .i64 L, .int .i64 S, .bool true] := by
  rw [vk_get]
  show Value.tuple #[.int .i64 (lev ((64 : Nat) : Int) base vkA.at_), .int .i64 (slotI ((64 : Nat) : Int) base vkA.at_), .bool true] = _
  rw [show vkA.at_ = 4165 from rfl, h1, h2]
theorem vk_w0 : whV 64 0 (getL [vkA] 0) = .tuple #[.int .i64 2, .int .i64 1, .bool true] := vk_w _ _ _ (by decide) (by decide)
theorem vk_w1 : whV 64 4096 (getL [vkA] 0) = .tuple #[.int .i64 1, .int .i64 1, .bool true] := vk_w _ _ _ (by decide) (by decide)
theorem vk_w2 : whV 64 4160 (getL [vkA] 0) = .tuple #[.int .i64 0, .int .i64 5, .bool true] := vk_w _ _ _ (by decide) (by decide)
theorem vk_d1 : dueL [vkA] 4096 true = [] ∧ dueL [vkA] 4096 false = [vkA] ∧ casL [vkA] 64 0 4096 = 1 := by decide
theorem vk_d2 : dueL [vkA] 4160 true = [] ∧ dueL [vkA] 4160 false = [vkA] ∧ casL [vkA] 64 4096 4160 = 1 := by decide
theorem vk_d3 : dueL [vkA] 4164 true = [] ∧ dueL [vkA] 4164 false = [vkA] ∧ casL [vkA] 64 4160 4164 = 0 := by decide
theorem vk_d4 : dueL [vkA] 4165 true = [vkA] ∧ dueL [vkA] 4165 false = [] ∧ casL [vkA] 64 4164 4165 = 0 := by decide
theorem V5.call2 {g q tb c nb : Nat} {w0 w : World} {p : Nat → Bool} (z : RSz 2 6 64) (h : V5 g q tb c nb w0 p w) (hp : p 2 = false) :
    Calls Tryz.prog 30 #[.pointer (some ⟨q, 0, none⟩), tv vkA] w fun e w' => ∃ v, e = .returned v ∧ v = .int .i64 0 ∧ w.heap.size ≤ w'.heap.size ∧ (false = true → Frsh v w w') ∧ V5 g q tb c nb w0 (also p 2) w' := by
  obtain ⟨a, h5, d1, d2, d3⟩ := h
  have p5 : p 5 = false := by cases h : p 5 with | false => rfl | true => rw [h5 h] at hp; cases hp
  refine (vq_ins q tb c nb 2 6 64 0 0 [] vkA w (d1 hp) z u64_vk.1 u64_vk.2.1).mono ?_
  rintro e w' ⟨rfl, hq, hk⟩
  rw [vk_i1.1, vk_i1.2] at *
  refine ⟨_, rfl, rfl, hk.size, (fun h => by cases h), a.chg hk, ?_⟩
  rw [also_at, also_ne p (show 5 ≠ 2 by decide), p5]
  exact ⟨by simp, by simp, fun _ _ => hq, by simp⟩
theorem V5.call5 {g q tb c nb : Nat} {w0 w : World} {p : Nat → Bool} (z : RSz 2 6 64) (h : V5 g q tb c nb w0 p w) (hp : p 5 = false) (p2 : p 2 = true) :
    Calls Tryz.prog 30 #[.pointer (some ⟨q, 0, none⟩), tv vkB] w fun e w' => ∃ v, e = .returned v ∧ v = .int .i64 0 ∧ w.heap.size ≤ w'.heap.size ∧ (false = true → Frsh v w w') ∧ V5 g q tb c nb w0 (also p 5) w' := by
  obtain ⟨a, h5, d1, d2, d3⟩ := h
  refine (vq_ins q tb c nb 2 6 64 0 0 [vkA] vkB w (d2 p2 hp) z u64_vk.1 u64_vk.2.2.1).mono ?_
  rintro e w' ⟨rfl, hq, hk⟩
  rw [vk_i2.1, vk_i2.2] at *
  refine ⟨_, rfl, rfl, hk.size, (fun h => by cases h), a.chg hk, ?_⟩
  rw [also_at, also_ne p (show 2 ≠ 5 by decide), p2]
  exact ⟨by simp, by simp, by simp, fun _ => hq⟩
def G7 (g q : Nat) (j : Nat) (v : Value) (w : World) : Prop := match j with
  | 0 => v = .pointer (some ⟨q, 0, none⟩)
  | 1 => LF g w v [vkA, vkD]
  | 2 => v = tv vkA
  | 3 => v = tv vkD
  | _ => LF g w v [vkA, vkD]
theorem G7.keep {g q : Nat} (i j : Nat) (v : Value) (w w' : World) (_ : j ≠ i) (h : G7 g q j v w) (r : Below w.heap.size w w') : G7 g q j v w' := by
  unfold G7 at h ⊢
  split at h
  · exact h
  · exact h.chg (Chg.of_same r (fun _ => False)) (fun _ e => e.elim)
  · exact h
  · exact h
  · exact h.chg (Chg.of_same r (fun _ => False)) (fun _ e => e.elim)
structure V7 (g q tb c nb : Nat) (w0 : World) (_p : Nat → Bool) (w : World) : Prop where
  k : VK g q tb c nb w0 w
  q : RQ w q tb c nb 2 6 64 0 0 [vkA, vkD]
  size : g ≤ w.heap.size
theorem V7.keep {g q tb c nb : Nat} {w0 w w' : World} {p p' : Nat → Bool} (h : V7 g q tb c nb w0 p w) (r : Below w.heap.size w w') : V7 g q tb c nb w0 p' w' := ⟨h.k.kept r, h.q.below r, Nat.le_trans h.size r.size⟩
structure VE (g q tb c nb : Nat) (w0 : World) (b0 l0 : Int) (m0 : List Timer) (b1 l1 : Int) (m1 : List Timer) (bx : World → Prop) (p : Nat → Bool) (w : World) : Prop where
  k : VK g q tb c nb w0 w
  q0 : p 1 = false → RQ w q tb c nb 2 6 64 b0 l0 m0
  q1 : p 1 = true → RQ w q tb c nb 2 6 64 b1 l1 m1
  size : g ≤ w.heap.size
  bx : bx w
  tab : TabAt w
theorem vglob_hs {g q tb c nb : Nat} {w0 w : World} (k : VK g q tb c nb w0 w) (hT : TabAt w0) : ¬ HS q tb nb 0 := fun e => by
  have := glob_lt hT
  obtain ⟨a1, a2⟩ := k.lq
  obtain ⟨b1, b2⟩ := k.lt
  obtain ⟨c1, c2⟩ := k.ln
  unfold HS at e
  omega
theorem VE.quiet {g q tb c nb : Nat} {w0 w w' : World} {b0 l0 : Int} {m0 : List Timer} {b1 l1 : Int} {m1 : List Timer} {bx : World → Prop} {p : Nat → Bool} (hbx : ∀ x y, bx x → Chg (HS q tb nb) x y → bx y) (i : Nat) (h : VE g q tb c nb w0 b0 l0 m0 b1 l1 m1 bx p w) (r : Below w.heap.size w w') (hi : i ≠ 1) : VE g q tb c nb w0 b0 l0 m0 b1 l1 m1 bx (also p i) w' := by
  have e : also p i 1 = p 1 := also_ne p (fun x => hi x.symm)
  exact ⟨h.k.kept r, fun x => (h.q0 (e ▸ x)).below r, fun x => (h.q1 (e ▸ x)).below r, Nat.le_trans h.size r.size, hbx _ _ h.bx (Chg.of_same r _), h.tab.below r (glob_lt h.tab)⟩
theorem VE.due {g q tb c nb : Nat} {w0 w : World} {b0 l0 : Int} {m0 : List Timer} {b1 l1 : Int} {m1 : List Timer} {bx : World → Prop} {p : Nat → Bool} {now : Int} {t : Timer} (hT : TabAt w0) (hbx : ∀ x y, bx x → Chg (HS q tb nb) x y → bx y) (z : RSz 2 6 64) (h : VE g q tb c nb w0 b0 l0 m0 b1 l1 m1 bx p w) (hp : p 1 = false) (ub : U64 b0) (un : U64 now) (um : ∀ x ∈ m0, U64 x.at_) (ul : 0 ≤ l0 ∧ l0 ≤ 1000000000)
    (e1 : dueL m0 now true = [t]) (e2 : dueL m0 now false = m1) (e3 : max b0 now = b1) (e4 : l0 + ((casL m0 64 b0 now : Nat) : Int) = l1) :
    Calls Tryz.prog 33 #[.pointer (some ⟨q, 0, none⟩), .int .u64 now] w fun e w' => ∃ v, e = .returned v ∧ LF g w' v [t] ∧ Chg (HS q tb nb) w w' ∧ (false = true → Frsh v w w') ∧ VE g q tb c nb w0 b0 l0 m0 b1 l1 m1 bx (also p 1) w' := by
  refine (vq_due q tb c nb 2 6 64 b0 l0 now m0 w (h.q0 hp) z ub un um ul h.tab).mono ?_
  rintro e w' ⟨v, rfl, ho, hq, hk⟩
  rw [e1] at ho
  rw [e2, e3, e4] at hq
  refine ⟨v, rfl, ho.lf.mono h.size, hk, (fun h => by cases h), h.k.chg hk, fun x => ?_, fun _ => hq, Nat.le_trans h.size hk.size, hbx _ _ h.bx hk, h.tab.chg hk (vglob_hs h.k hT)⟩
  rw [also_at] at x
  cases x
attribute [local irreducible] Calls
set_option maxRecDepth 100000 in
set_option maxHeartbeats 4000000 in
theorem vworks (w : World) (hT : TabAt w) : Calls Tryz.prog 5 #[] w fun e w' => e = .returned (.bool true) ∧ Below w.heap.size w w' := by
  have z : RSz 2 6 64 := ⟨by omega, by decide, by decide, by decide⟩
  have hn : Calls Tryz.prog 6 #[.int .i64 2, .int .i64 6, .int .u64 0] w _ := vnew_6 2 0 w (by decide)
  go_enter Tryz.func5, Tryz.ntmps5
  go_wp2_with fail
  refine hn.mono ?_
  rintro e w1 ⟨q, tb, c, nb, rfl, hq, hb, g1, g2, g3, g4⟩
  obtain ⟨l1, l2, l3, l4⟩ := hq.lts
  have hT1 := hT.below hb (glob_lt hT)
  clear hn
  go_upto_region 5 with fail
  have k0 := VK.new hb ⟨g1, l1⟩ ⟨g2, l2⟩ ⟨g3, l3⟩ ⟨g4, l4⟩
  obtain ⟨ga, hga⟩ : ∃ g, g = w1.heap.size + 1 := ⟨_, rfl⟩
  have hq0 : RQ ((w1.alloc (.cells #[.int .u64 4165, .int .u64 0, .int .i64 0] 37)).alloc (.cells #[.int .u64 16777216, .int .u64 0, .int .i64 1] 37)) q tb c nb 2 6 64 0 0 [] := (hq.below (alloc_kept' _ _)).below (alloc_kept' _ _)
  generalize (w1.alloc (.cells #[.int .u64 4165, .int .u64 0, .int .i64 0] 37)).alloc (.cells #[.int .u64 16777216, .int .u64 0, .int .i64 1] 37) = w2 at *
  have hs0 : V5 w1.heap.size q tb c nb w (fun _ => false) w2.drew := ⟨k0.kept (Below.refl _ _).drew, by simp, fun _ => hq0.drew, by simp, by simp⟩
  generalize w1.heap.size = g at *
  rw [← hga]
  have HGA := Lib.hid hga
  clear hga
  refine region_facts_set 8 (fun _ => false) (G5 q) (V5 g q tb c nb w) (fun _ x y => x.heap.size ≤ y.heap.size) (List.range' 34 6 ++ [5, 6]) (by kernel_rfl) (by kernel_rfl) (by kernel_rfl) (by decide) (by kernel_rfl) (by kernel_rfl) (fun _ _ _ _ _ _ h _ => h) (fun _ _ _ h => h) hs0 ?_ ?_
  · intro fr hfr
    have f1 : fr.getD 1 undef = .pointer (some ⟨q, 0, none⟩) := by rw [hfr]; rfl
    have f3 : fr.getD 3 undef = .pointer (some ⟨g, 0, none⟩) := by rw [hfr]; rfl
    have f4 : fr.getD 4 undef = .pointer (some ⟨ga, 0, none⟩) := by rw [hfr]; rfl
    clear hfr
    iterate 8
      refine ⟨⟨trivial, ?_⟩, ?_⟩
      · intro ρ w' p hp hdq hρ hd hS
        simp only [DepQ, Region.binds, forall_const, and_true] at hdq
        simp only [DepF, Region.binds, dat, Nat.reduceLT, Nat.reduceAdd, G5, forall_const, and_true] at hd
        have hcon := hρ.con
        have e1 := (hρ.slot 1 (by kernel_rfl)).trans f1
        have e3 := (hρ.slot 3 (by kernel_rfl)).trans f3
        have e4 := (hρ.slot 4 (by kernel_rfl)).trans f4
        have hk := hS.1
        have hc1 := hk.a.cell
        have hc2 := hk.b.cell
        rw [← HGA.out] at hc2
        clear hk
        (try rw [execOp_call_fn _ _ _ _ _ _ _ _ _ (hρ.fn _)])
        go_simp
        (try simp only [GoodQ, G5])
        first
          | exact ⟨rfl, Nat.le_refl _, fun h => absurd h (by decide), hS.quiet _ (Below.refl _ _) (by decide) (by decide)⟩
          | exact ⟨trivial, Nat.le_refl _, fun h => absurd h (by decide), hS.quiet _ (Below.refl _ _) (by decide) (by decide)⟩
          | exact hS.call2 z hp
          | exact hS.call5 z hp hdq.2.2
    trivial
  · intro vs w3 hs hF _
    obtain ⟨hk, _, _, _, hq3⟩ := hs
    replace hq3 := hq3 (by decide)
    clear hq0 k0 hs0
    simp only [List.range'_succ, List.range'_zero, List.cons_append, List.nil_append, setAll, List.setIfInBounds_toArray, List.set_cons_zero, List.set_cons_succ, Nat.reduceAdd]
    simp only [List.drop_succ_cons, List.drop_zero]
    have v6 : vs 6 = .int .i64 0 := hF 6 (by decide)
    have v7 : vs 7 = .int .i64 0 := hF 7 (by decide)
    rw [v6, v7]
    clear hF v6 v7
    have hmv := vq_mov q tb c nb 2 6 64 0 0 [vkA, vkB] vkD w3 hq3 z u64_vk.1 u64_vk.2.2.2
    rw [vk_mov.1, vk_mov.2] at hmv
    clear hq hT1 hb g1 g2 g3 g4 hq3
    go_wp2_with fail
    refine hmv.mono ?_
    rintro e w4 ⟨rfl, hq4, hk4⟩
    have k4 := hk.chg hk4
    clear hmv hk hk4
    go_upto_region 7 with fail
    have hs7 : V7 g q tb c nb w (fun _ => false) w4.drew := ⟨k4.kept (Below.refl _ _).drew, hq4.drew, Nat.le_of_lt k4.a.lt⟩
    clear k4 hq4
    refine region_facts_set 5 (fun _ => false) (G7 g q) (V7 g q tb c nb w) (fun _ x y => Below x.heap.size x y) (List.range' 43 5 ++ []) (by kernel_rfl) (by kernel_rfl) (by kernel_rfl) (by decide) (by kernel_rfl) (by kernel_rfl) G7.keep (fun _ _ _ h => h.size) hs7 ?_ ?_
    · intro fr hfr
      have f1 : fr.getD 1 undef = .pointer (some ⟨q, 0, none⟩) := by rw [hfr]; rfl
      have f3 : fr.getD 3 undef = .pointer (some ⟨g, 0, none⟩) := by rw [hfr]; rfl
      clear hfr
      iterate 5
        refine ⟨⟨trivial, ?_⟩, ?_⟩
        · intro ρ w' p hp hdq hρ hd hS
          simp only [DepF, Region.binds, dat, Nat.reduceLT, Nat.reduceAdd, G7, tv, vkA, vkD, forall_const, and_true] at hd
          have hcon := hρ.con
          have e1 := (hρ.slot 1 (by kernel_rfl)).trans f1
          have e3 := (hρ.slot 3 (by kernel_rfl)).trans f3
          have hc1 := hS.k.a.cell
          (try rw [execOp_call_fn _ _ _ _ _ _ _ _ _ (hρ.fn _)])
          go_simp
          (try simp only [GoodQ, G7])
          first
            | exact ⟨rfl, Below.refl _ _, fun h => absurd h (by decide), hS.keep (Below.refl _ _)⟩
            | exact ⟨trivial, Below.refl _ _, fun h => absurd h (by decide), hS.keep (Below.refl _ _)⟩
            | exact ⟨LF.built g w' [vkA, vkD] (by decide) (by decide) hS.size, alloc_kept' _ _, fun h => absurd h (by decide), hS.keep (alloc_kept' _ _)⟩
            | (refine (vq_all q tb c nb 2 6 64 0 0 [vkA, vkD] w' hS.q z).mono ?_; rintro e w'' ⟨v', rfl, ho, hk⟩; exact ⟨v', rfl, ho.lf.mono hS.size, hk, fun h => absurd h (by decide), hS.keep hk⟩)
      trivial
    · intro vs7 w5 hs5 hF7 _
      have h1 : LF g w5 (vs7 1) [vkA, vkD] := hF7 1 (by decide)
      have h4 : LF g w5 (vs7 4) [vkA, vkD] := hF7 4 (by decide)
      have hsm := same_refl (vs7 1) (vs7 4) _ w5 h1.at_ h4.at_ (by decide)
      clear hF7 h1 h4 hs7
      simp only [List.range'_succ, List.range'_zero, List.append_nil, setAll, List.setIfInBounds_toArray, List.set_cons_zero, List.set_cons_succ, Nat.reduceAdd]
      simp only [List.drop_succ_cons, List.drop_zero]
      go_wp2_with fail
      refine hsm.mono ?_
      rintro e w8 ⟨rfl, hx8⟩
      have s8 := hs5.keep (p' := fun _ => true) hx8
      clear hsm hx8 hs5
      have hcan := vq_can q tb c nb 2 6 64 0 0 [vkA, vkD] 1 w8 s8.q z
      rw [vk_can.1, vk_can.2.1, vk_can.2.2] at hcan
      have hcan : Calls Tryz.prog 32 #[.pointer (some ⟨q, 0, none⟩), .int .i64 1] w8 (fun e w' => e = .returned (.tuple #[.agg #[.int .u64 16777215, .int .u64 0, .int .i64 1], .int .i64 0]) ∧ RQ w' q tb c nb 2 6 64 0 0 [vkA] ∧ Chg (HS q tb nb) w8 w') := hcan
      go_wp2_with fail
      refine hcan.mono ?_
      rintro e w9 ⟨rfl, hq9, hk9⟩
      have k9 := s8.k.chg hk9
      clear hcan hk9 s8
      go_upto_region 9 with fail
      have g9 : g ≤ w9.heap.size := Nat.le_of_lt k9.a.lt
      have T9 := hT.below k9.below (glob_lt hT)
      have k10 := k9.kept (alloc_kept' w9 (.cells #[.int .u64 16777215, .int .u64 0, .int .i64 1] 37))
      have b10 : Blk (w9.alloc (.cells #[.int .u64 16777215, .int .u64 0, .int .i64 1] 37)) w9.heap.size 37 #[.int .u64 16777215, .int .u64 0, .int .i64 1] := Blk.new _ _ _
      have q10 := hq9.below (alloc_kept' w9 (.cells #[.int .u64 16777215, .int .u64 0, .int .i64 1] 37))
      have hbx := bx_one (q := q) (tb := tb) (nb := nb) (cs := #[.int .u64 16777215, .int .u64 0, .int .i64 1]) l1 l2 l4 g9
      clear k9 hq9
      generalize w9.alloc (.cells #[.int .u64 16777215, .int .u64 0, .int .i64 1] 37) = w10 at *
      generalize w9.heap.size = x9 at *
      clear T9
      have hwh := vq_where q tb c nb 2 6 64 0 0 [vkA] 0 _ q10 z (by unfold U64; decide) vk_u
      rw [vk_w0] at hwh
      go_wp2_with fail
      refine hwh.mono ?_
      rintro e w11 ⟨rfl, hx⟩
      have k11 := k10.kept hx
      have b11 := b10.below hx b10.lt
      have q11 := q10.below hx
      have T11 := hT.below k11.below (glob_lt hT)
      clear hwh hx k10 b10 q10
      have hdu := vq_due q tb c nb 2 6 64 0 0 4096 [vkA] w11 q11 z (by unfold U64; decide) (by unfold U64; decide) vk_u (by decide) T11
      rw [vk_d1.1, vk_d1.2.1, vk_d1.2.2, show max (0 : Int) 4096 = 4096 from rfl, show (0 : Int) + ((1 : Nat) : Int) = 1 from rfl] at hdu
      go_wp2_with fail
      refine hdu.mono ?_
      rintro e w12 ⟨v12, rfl, ho12, q12, hk12⟩
      have k12 := k11.chg hk12
      have b12 := hbx _ _ b11 hk12
      have T12 := hT.below k12.below (glob_lt hT)
      obtain ⟨A12, c12, rfl, _⟩ := ho12.at
      have hcs := vq_cas q tb c nb 2 6 64 4096 1 [vkA] w12 q12
      clear hdu hk12 k11 b11 q11 T11 ho12
      go_wp2_with fail
      refine hcs.mono ?_
      rintro e wx ⟨rfl, rfl⟩
      clear hcs
      have hwh := vq_where q tb c nb 2 6 64 4096 1 [vkA] 0 _ q12 z (by unfold U64; decide) vk_u
      rw [vk_w1] at hwh
      go_wp2_with fail
      refine hwh.mono ?_
      rintro e w13 ⟨rfl, hx⟩
      have k13 := k12.kept hx
      have b13 := b12.below hx b12.lt
      have q13 := q12.below hx
      have T13 := hT.below k13.below (glob_lt hT)
      clear hwh hx k12 b12 q12
      have hdu := vq_due q tb c nb 2 6 64 4096 1 4160 [vkA] w13 q13 z (by unfold U64; decide) (by unfold U64; decide) vk_u (by decide) T13
      rw [vk_d2.1, vk_d2.2.1, vk_d2.2.2, show max (4096 : Int) 4160 = 4160 from rfl, show (1 : Int) + ((1 : Nat) : Int) = 2 from rfl] at hdu
      go_wp2_with fail
      refine hdu.mono ?_
      rintro e w14 ⟨v14, rfl, ho14, q14, hk14⟩
      have k14 := k13.chg hk14
      have b14 := hbx _ _ b13 hk14
      have T14 := hT.below k14.below (glob_lt hT)
      obtain ⟨A14, c14, rfl, _⟩ := ho14.at
      have hcs := vq_cas q tb c nb 2 6 64 4160 2 [vkA] w14 q14
      clear hdu hk14 k13 b13 q13 T13 ho14
      go_wp2_with fail
      refine hcs.mono ?_
      rintro e wx ⟨rfl, rfl⟩
      clear hcs
      have hwh := vq_where q tb c nb 2 6 64 4160 2 [vkA] 0 _ q14 z (by unfold U64; decide) vk_u
      rw [vk_w2] at hwh
      go_wp2_with fail
      refine hwh.mono ?_
      rintro e w15 ⟨rfl, hx⟩
      have k15 := k14.kept hx
      have b15 := b14.below hx b14.lt
      have q15 := q14.below hx
      have T15 := hT.below k15.below (glob_lt hT)
      clear hwh hx k14 b14 q14
      have hdu := vq_due q tb c nb 2 6 64 4160 2 4164 [vkA] w15 q15 z (by unfold U64; decide) (by unfold U64; decide) vk_u (by decide) T15
      rw [vk_d3.1, vk_d3.2.1, vk_d3.2.2, show max (4160 : Int) 4164 = 4164 from rfl, show (2 : Int) + ((0 : Nat) : Int) = 2 from rfl] at hdu
      go_wp2_with fail
      refine hdu.mono ?_
      rintro e w16 ⟨v16, rfl, ho16, q16, hk16⟩
      have k16 := k15.chg hk16
      have b16 := hbx _ _ b15 hk16
      have T16 := hT.below k16.below (glob_lt hT)
      obtain ⟨A16, c16, rfl, _⟩ := ho16.at
      have hcs := vq_cas q tb c nb 2 6 64 4164 2 [vkA] w16 q16
      clear hdu hk16 k15 b15 q15 T15 ho16
      go_wp2_with fail
      refine hcs.mono ?_
      rintro e wx ⟨rfl, rfl⟩
      clear hcs
      have hba := vq_base q tb c nb 2 6 64 4164 2 [vkA] w16 q16
      go_wp2_with fail
      refine hba.mono ?_
      rintro e wx ⟨rfl, rfl⟩
      have hmi : Calls Tryz.prog 18 #[.pointer (some ⟨q, 0, none⟩)] w16 (fun e w' => e = .returned (.tuple #[.agg #[.int .u64 4165, .int .u64 0, .int .i64 0], .bool true]) ∧ Below w16.heap.size w16 w') := vq_min q tb c nb 2 6 64 4164 2 [vkA] w16 q16 z
      clear hba
      go_wp2_with fail
      refine hmi.mono ?_
      rintro e w17 ⟨rfl, hx⟩
      have k17 := (k16.kept hx).kept (alloc_kept' w17 (.cells #[.int .u64 4165, .int .u64 0, .int .i64 0] 37))
      have q17 := (q16.below hx).below (alloc_kept' w17 (.cells #[.int .u64 4165, .int .u64 0, .int .i64 0] 37))
      have b17 := And.intro ((b16.below hx b16.lt).alloc (.cells #[.int .u64 4165, .int .u64 0, .int .i64 0] 37)) (Blk.new w17 37 #[.int .u64 4165, .int .u64 0, .int .i64 0])
      have g17 : g ≤ w17.heap.size := Nat.le_of_lt (k16.kept hx).a.lt
      have hbx2 := bx_and hbx (bx_one (q := q) (tb := tb) (nb := nb) (cs := #[.int .u64 4165, .int .u64 0, .int .i64 0]) l1 l2 l4 g17)
      have hget : Calls Tryz.prog 16 #[.pointer (some ⟨q, 0, none⟩), .int .i64 0] (w17.alloc (.cells #[.int .u64 4165, .int .u64 0, .int .i64 0] 37)) (fun e w' => e = .returned (.tuple #[.agg #[.int .u64 4165, .int .u64 0, .int .i64 0], .bool true]) ∧ Below (w17.alloc (.cells #[.int .u64 4165, .int .u64 0, .int .i64 0] 37)).heap.size (w17.alloc (.cells #[.int .u64 4165, .int .u64 0, .int .i64 0] 37)) w') := by
        have := vq_get q tb c nb 2 6 64 4164 2 [vkA] 0 _ q17 z
        rw [vk_get] at this
        exact this
      clear hmi hx k16 q16 b16 T16 hbx
      go_wp2_with fail
      refine hget.mono ?_
      rintro e w18 ⟨rfl, hx⟩
      have k18 := k17.kept hx
      have q18 := q17.below hx
      have b18 := hbx2 _ _ b17 (Chg.of_same hx _)
      clear hget hx k17 q17 b17
      go_upto_region 17 with fail
      have g18 : g ≤ w18.heap.size := Nat.le_of_lt k18.a.lt
      have b19 : Blk (w18.alloc (.cells #[.int .u64 4165, .int .u64 0, .int .i64 0] 37)) w18.heap.size 37 #[.int .u64 4165, .int .u64 0, .int .i64 0] := Blk.new _ _ _
      have kd := k18.kept (alloc_kept' w18 (.cells #[.int .u64 4165, .int .u64 0, .int .i64 0] 37))
      have hqd := q18.below (alloc_kept' w18 (.cells #[.int .u64 4165, .int .u64 0, .int .i64 0] 37))
      have bd := And.intro (hbx2 _ _ b18 (Chg.of_same (alloc_kept' w18 (.cells #[.int .u64 4165, .int .u64 0, .int .i64 0] 37)) _)) b19
      have hbx3 := bx_and hbx2 (bx_one (q := q) (tb := tb) (nb := nb) (cs := #[.int .u64 4165, .int .u64 0, .int .i64 0]) l1 l2 l4 g18)
      clear k18 q18 b18 b19 hbx2
      generalize w18.alloc (.cells #[.int .u64 4165, .int .u64 0, .int .i64 0] 37) = wd at *
      generalize w18.heap.size = x19 at *
      generalize w17.heap.size = x17 at *
      have TE := hT.below kd.below (glob_lt hT)
      have hsE : VE g q tb c nb w 4164 2 [vkA] 4165 2 [] (fun x => (Blk x x9 37 #[.int .u64 16777215, .int .u64 0, .int .i64 1] ∧ Blk x x17 37 #[.int .u64 4165, .int .u64 0, .int .i64 0]) ∧ Blk x x19 37 #[.int .u64 4165, .int .u64 0, .int .i64 0]) (fun _ => false) wd.drew := ⟨kd.kept (Below.refl _ _).drew, fun _ => hqd.drew, (fun h => by cases h), Nat.le_of_lt kd.a.lt, hbx3 _ _ bd (Chg.of_same (Below.refl _ _).drew _), TE.below (Below.refl _ _).drew (glob_lt TE)⟩
      clear kd hqd bd TE
      refine region_facts_set 4 (fun _ => false) (FE g q vkA) (VE g q tb c nb w 4164 2 [vkA] 4165 2 [] (fun x => (Blk x x9 37 #[.int .u64 16777215, .int .u64 0, .int .i64 1] ∧ Blk x x17 37 #[.int .u64 4165, .int .u64 0, .int .i64 0]) ∧ Blk x x19 37 #[.int .u64 4165, .int .u64 0, .int .i64 0])) (fun _ x y => Chg (HS q tb nb) x y) (List.range' 147 4 ++ []) (by kernel_rfl) (by kernel_rfl) (by kernel_rfl) (by decide) (by kernel_rfl) (by kernel_rfl) (FE.keep l1 l2 l4) (fun _ _ _ h => h.size) hsE ?_ ?_
      · intro fr hfr
        have f1 : fr.getD 1 undef = .pointer (some ⟨q, 0, none⟩) := by rw [hfr]; rfl
        have f3 : fr.getD 3 undef = .pointer (some ⟨g, 0, none⟩) := by rw [hfr]; rfl
        clear hfr
        iterate 4
          refine ⟨⟨trivial, ?_⟩, ?_⟩
          · intro ρ w' p hp hdq hρ hd hS
            simp only [DepF, Region.binds, dat, Nat.reduceLT, Nat.reduceAdd, FE, tv, vkA, forall_const, and_true] at hd
            have hcon := hρ.con
            have e1 := (hρ.slot 1 (by kernel_rfl)).trans f1
            have e3 := (hρ.slot 3 (by kernel_rfl)).trans f3
            have hc1 := hS.k.a.cell
            (try rw [execOp_call_fn _ _ _ _ _ _ _ _ _ (hρ.fn _)])
            go_simp
            (try simp only [GoodQ, FE])
            first
              | exact ⟨rfl, Chg.refl _ _, fun h => absurd h (by decide), hS.quiet hbx3 _ (Below.refl _ _) (by decide)⟩
              | exact ⟨trivial, Chg.refl _ _, fun h => absurd h (by decide), hS.quiet hbx3 _ (Below.refl _ _) (by decide)⟩
              | exact ⟨LF.built g w' [vkA] (by decide) (by decide) hS.size, (Chg.refl _ _).alloc _, fun h => absurd h (by decide), hS.quiet hbx3 _ (alloc_kept' _ _) (by decide)⟩
              | exact hS.due hT hbx3 z hp (by unfold U64; decide) (by unfold U64; decide) vk_u (by decide) vk_d4.1 vk_d4.2.1 rfl (by rw [vk_d4.2.2]; rfl)
        trivial
      · intro vsE wa hs hF _
        have h1 : LF g wa (vsE 1) [vkA] := hF 1 (by decide)
        have h3 : LF g wa (vsE 3) [vkA] := hF 3 (by decide)
        have hsm := same_refl (vsE 1) (vsE 3) _ wa h1.at_ h3.at_ (by decide)
        have hqa := hs.q1 (by decide)
        have hka := hs.k
        have hba := hs.bx
        clear hF h1 h3 hsE hs
        simp only [List.range'_succ, List.range'_zero, List.append_nil, setAll, List.setIfInBounds_toArray, List.set_cons_zero, List.set_cons_succ, Nat.reduceAdd]
        simp only [List.drop_succ_cons, List.drop_zero]
        go_wp2_with fail
        refine hsm.mono ?_
        rintro e wb ⟨rfl, hx⟩
        have hqb := hqa.below hx
        have hkb := hka.kept hx
        have hbb := hbx3 _ _ hba (Chg.of_same hx _)
        have hln : Calls Tryz.prog 15 #[.pointer (some ⟨q, 0, none⟩)] wb (fun e w' => e = .returned (.int .i64 0) ∧ wb = w') := vq_len q tb c nb 2 6 64 4165 2 [] wb hqb
        have y9 := hbb.1.1.cell
        have y17 := hbb.1.2.cell
        have y19 := hbb.2.cell
        have ya := hkb.a.cell
        have HK := Lib.hid hkb.below
        clear hsm hx hqa hka hba hbx3 hqb hkb hbb
        go_wp2_with fail
        refine hln.mono ?_
        rintro e wx ⟨rfl, rfl⟩
        go_wp2_with fail
        go_ret
        exact ⟨rfl, HK.out⟩
end Go.Proofs.YtckkfbepclogcaaGreatDoor
namespace Go.Proofs.YtckkfbepclogcaaGreatDoor
open Go.RowKit
theorem wrap_three (n : Nat) (N M : Int) (hN : N = (n : Int)) (hM : M = 3 * N) (h : n ≤ 100000) : wrap64 (3 * N) = M := by
  subst hN hM
  unfold wrap64
  omega
theorem wrap_inc (n : Nat) (N : Int) (hN : N = ((n + 1 : Nat) : Int)) (h : n ≤ 100000) : wrap64 ((n : Int) + 1) = N := by
  subst hN
  unfold wrap64
  omega
/-- The counts behind k acts. -/
structure FewI (B : Nat) (base cas : Int) (m : List Timer) (inn k : Nat) : Prop where
  ge : 0 ≤ cas
  le : cas + (potS B base m : Nat) ≤ 3 * (inn : Nat)
  in_ : inn ≤ k
  u : ∀ x ∈ m, U64 x.at_
theorem FewI.step {B : Nat} {base cas : Int} {m : List Timer} {inn k : Nat} (h : FewI B base cas m inn k) (hB : 0 < B) (P : Int) (a : Act) (ha : U64 a.t.at_) : FewI B (baseN base a) (casN m B base cas a) (doL P m a) (inn + inN P m a) (k + 1) := by
  have h1 := few_step hB P m base cas a
  have h2 := casN_ge (m := m) (B := B) (base := base) (cas := cas) (a := a)
  have h3 : inN P m a ≤ 1 := by unfold inN; split <;> omega
  have := h.ge
  have := h.le
  have := h.in_
  exact ⟨by omega, by omega, by omega, u64_do h.u ha⟩
end Go.Proofs.YtckkfbepclogcaaGreatDoor
