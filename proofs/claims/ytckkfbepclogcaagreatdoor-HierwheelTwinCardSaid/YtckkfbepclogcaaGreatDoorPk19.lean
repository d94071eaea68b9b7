/- Part 19: the texts HBet HDueA HNew Ref10 RefW HDo HWk HBlt LawHL LawHA Rnew Rbeg, laid end to end by a program. -/
import Derived.WalkMore
import Derived.Lib.QuietBelow
import Derived.BigRegion
import Derived.Test.YtckkfbepclogcaaGreatDoorPk17
import Derived.Test.YtckkfbepclogcaaGreatDoorPk18
import Derived.Test.YtckkfbepclogcaaGreatDoorPk1
import Derived.Test.YtckkfbepclogcaaGreatDoorPk5
import Derived.Test.YtckkfbepclogcaaGreatDoorPk3
import Derived.Test.YtckkfbepclogcaaGreatDoorPk21
namespace Go.Proofs.YtckkfbepclogcaaGreatDoor
open Go.RowKit Go.Shelf Go.Sort
attribute [local go_sem] Oper.semAt_some
theorem hbetween_any (q : Nat) (now : Int) (w : World) : Calls Tryz.prog 51 #[.pointer (some ⟨q, 0, none⟩), .int .u64 now] w fun e w' =>
    e = .returned (.func (.func 75) #[] #[.pointer (some ⟨w.heap.size + 1, 0, none⟩), .pointer (some ⟨w.heap.size, 0, none⟩)]) ∧ w' = (w.alloc (.cells #[.pointer (some ⟨q, 0, none⟩)] 59)).alloc (.cells #[.int .u64 now] 22) := by
  go_enter Tryz.func51, Tryz.ntmps51
  go_wp2
  go_ret
  exact ⟨by simp, rfl⟩
/-- Behind the last one. -/
def nxo (pre : List Nat) : Nat := (pre.getLast?.map fun o => o + 1).getD 0
theorem nxo_nil : nxo [] = 0 := rfl
theorem nxo_snoc (pre : List Nat) (o : Nat) : nxo (pre ++ [o]) = o + 1 := by simp [nxo]
/-- What the iterator sees of the wheel: which slots ahead have something is as it was. -/
structure BetV (q bq bn tb c P S : Nat) (base now : Int) (p0 : Nat → Bool) (pre : List Nat) (W : World) : Prop where
  bq : Blk W bq 59 #[.pointer (some ⟨q, 0, none⟩)]
  bn : Blk W bn 22 #[.int .u64 now]
  tab : TabAt W
  st : ∃ (b : Bits) (p : Nat → Bool) (n lk : Int), Blk W q 72 #[.slice (some ⟨tb, 0, none⟩) P P, .pointer (some ⟨c, 0, none⟩), .int .i64 n, .int .i64 S, .int .i64 lk, .int .u64 b.w0, .int .u64 b.w1, .int .u64 b.w2, .int .u64 b.w3, .int .u64 base] ∧
    Busy S b p ∧ ∀ o, nxo pre ≤ o → o < S → p (slotN S base o) = p0 (slotN S base o)
def BetG (S : Nat) (base now : Int) (p0 : Nat → Bool) (pre : List Nat) (o : Nat) : Prop :=
  nxo pre ≤ o ∧ o < spanN S base now ∧ p0 (slotN S base o) = true ∧ ∀ o', nxo pre ≤ o' → o' < o → p0 (slotN S base o') = false
def BetS (S : Nat) (base now : Int) (p0 : Nat → Bool) (xs : List Nat) : Prop := ∀ o', nxo xs ≤ o' → o' < spanN S base now → p0 (slotN S base o') = false
theorem below_grown {w w' : World} (h : Below w.heap.size w w') : w.grownBy w' none := ⟨h.os, h.tape, h.output, h.size, fun k hk _ => h.block k hk⟩
theorem abides_below {β : Type} {B : Nat} {J : β → World → Prop} (h : AbidesFrom B J) : ∀ pre W W', J pre W → Below W.heap.size W W' → J pre W' := fun pre W W' hJ hb => h pre W W' none hJ (below_grown hb) (fun _ e => by cases e)
theorem hslot_blk (q S : Nat) (x0 x1 x2 x4 x5 x6 x7 x8 x9 : Value) (a : Int) (w : World) (h : Blk w q 72 #[x0, x1, x2, .int .i64 S, x4, x5, x6, x7, x8, x9]) (hS : 0 < S) (hS2 : S ≤ 256) (h0 : 0 ≤ a) (h1 : a ≤ 18446744073709551615) :
    Calls Tryz.prog 44 #[.pointer (some ⟨q, 0, none⟩), .int .u64 a] w fun e w' => e = .returned (.int .i64 ((a % S).toNat : Nat)) ∧ w = w' := by
  have hc := h.cell
  have hm0 := Int.emod_nonneg a (show (S : Int) ≠ 0 by omega)
  have hm1 := Int.emod_lt_of_pos a (show (0 : Int) < S by omega)
  have HW := Lib.hid (show (((a % S).toNat : Nat) : Int) = a % S by omega)
  have e1 : IntKind.u64.wrap (S : Int) = S := IntWalk.u64_in _ (by omega)
  have e2 : IntKind.i64.wrap (a % S) = a % S := IntWalk.i64_in _ (by omega)
  rw [HW.out]
  go_enter Tryz.func44, Tryz.ntmps44
  go_wp2
  go_ret
  exact ⟨rfl, rfl⟩
theorem scope_in {n : Nat} {P : Program} {c : Code} {Q : Exit → Go.Act → World → Prop} {a : Go.Act} {w : World} (h : c.wpIn Fence.wide n P (Exit.noGoto Q) a w) : (Code.scope c).wpIn Fence.wide n P Q a w := wpIn_wide.2 (wp_scope_straight ((wpIn_wide (n := n)).1 h))
theorem span_le (S : Nat) (base now : Int) : spanN S base now ≤ S := by
  unfold spanN
  split
  · exact Nat.zero_le _
  · omega
set_option maxRecDepth 100000 in
set_option maxHeartbeats 4000000 in
theorem hbet1_in (n : Nat) (hn : 1 ≤ n) (l q bq bn tb c P S : Nat) (base now : Int) (p0 : Nat → Bool) (z : HSz P S) (hb : U64 base) (hw : U64 now) (J Jx : List Nat → World → Prop) (hJd : ∀ pre W, J pre W → J pre W.drew) (hJb : ∀ pre W W', J pre W → Below W.heap.size W W' → J pre W')
    (hV : ∀ pre W, J pre W → BetV q bq bn tb c P S base now p0 pre W)
    (hY : ∀ pre x W, J pre W → BetG S base now p0 pre x → YieldAt Fence.wide (n - 1) Tryz.prog l #[.int .i64 (slotN S base x : Nat)] W fun e W' =>
      (e = .returned (.bool true) ∧ J (pre ++ [x]) W') ∨ (e = .returned (.bool false) ∧ Jx (pre ++ [x]) W'))
    (W : World) (hJ0 : J [] W) :
    CallsIn Fence.wide n Tryz.prog 75 #[.func (.yield l) #[] #[], .pointer (some ⟨bn, 0, none⟩), .pointer (some ⟨bq, 0, none⟩)] W fun e W' => (∃ v, e = .returned v) ∧
      ((∃ xs, BetS S base now p0 xs ∧ J xs W') ∨ ∃ pre, Jx pre W') := by
  have hS := z.hS
  have hS2 := z.hS2
  obtain ⟨b0, b1⟩ := hb
  obtain ⟨w0, w1⟩ := hw
  have hv := hV _ _ hJ0
  obtain ⟨b, p, nn, lk, hB, hbu, hp⟩ := hv.st
  have c1 := hv.bq.cell
  have c2 := hv.bn.cell
  have c3 := hB.cell
  clear hbu hp
  refine callsIn_of_wp Tryz.func75 rfl trivial ?_ rfl
  simp only [Tryz.ntmps75, List.size_toArray, List.length_cons, List.length_nil, Nat.reduceAdd, Nat.reduceSub, Array.replicate_succ, Array.replicate_zero, List.push_toArray, List.append_toArray, List.nil_append, List.cons_append]
  refine scope_in ?_
  gi_wp2_with fail
  refine wpIn_wide.2 (still_all (by kernel_rfl) (by kernel_rfl) ?_)
  repeat still_step
  refine wpStill_nil ?_
  replace hJ0 := hJd _ _ hJ0
  by_cases hlt : now ≤ base
  · have hsp : BetS S base now p0 [] := fun o' _ h => by
      unfold spanN at h
      rw [if_pos hlt] at h
      omega
    gi_wp2
    (try rw [Exit.noGoto_ret])
    refine bodyPost_ret (results_none rfl _ _ _) rfl ?_
    exact ⟨⟨_, rfl⟩, .inl ⟨_, hsp, hJ0⟩⟩
  · have hspn : Hid (spanN S base now = min (now - base).toNat S) := Lib.hid (by unfold spanN; rw [if_neg hlt])
    have e1 : IntKind.u64.wrap (now - base) = now - base := IntWalk.u64_in _ (by omega)
    have e2 : IntKind.u64.wrap (S : Int) = S := IntWalk.u64_in _ (by omega)
    gi_wp2_with fail
    refine wpIn_wide.2 (still_all (by kernel_rfl) (by kernel_rfl) ?_)
    repeat still_step
    refine wpStill_nil ?_
    have e3 : IntKind.i64.wrap (min (now - base) (S : Int)) = ((spanN S base now : Nat) : Int) := by
      rw [hspn.out, IntWalk.i64_in _ (by omega)]
      omega
    rw [e3]
    have hms := span_le S base now
    generalize hme : spanN S base now = m at *
    replace hJ0 := hJd _ _ hJ0
    have e4 : IntKind.u64.wrap (base + 1) = base + 1 := IntWalk.u64_in _ (by omega)
    have hsl := hslot_blk q S _ _ _ _ _ _ _ _ _ (base + 1) W.drew.drew.drew hB.drew.drew.drew hS hS2 (by omega) (by omega)
    rw [show ((base + 1) % (S : Int)).toNat = slotN S base 0 from by unfold slotN; rw [show base + 1 + ((0 : Nat) : Int) = base + 1 by omega]] at hsl
    have hme' := Lib.hid hme
    clear hme hspn e1 e2 e3
    gi_wp2_with fail
    refine wpIn_wide.2 (still_all (by kernel_rfl) (by kernel_rfl) ?_)
    iterate 6 still_step
    still_call (flip hsl)
    repeat still_step
    refine wpStill_nil ?_
    replace hJ0 := hJd _ _ hJ0
    clear e4 hsl c1 c2 c3 hB hv
    generalize W.drew.drew.drew = W0 at *
    have hf0 := slotN_lt hS base 0
    generalize hfe : slotN S base 0 = f at *
    have hfe' := Lib.hid hfe
    gi_wp2_with fail
    refine wpIn_label ?_
    gi_wp2_with fail
    gi_loopw [6] (fun p wr => ∃ (o : Nat) (pre : List Nat), o ≤ 2 * S ∧ p = .int .i64 o ∧ nxo pre ≤ o ∧ Hid (∀ o', nxo pre ≤ o' → o' < o → o' < m → p0 (slotN S base o') = false) ∧ J pre wr) (fun p _ => 2 * S - (intOf p).toNat)
    case atStart => exact ⟨0, [], Nat.zero_le _, rfl, Nat.le_refl _, Lib.hid (fun o' _ h => absurd h (by omega)), hJ0⟩
    case round =>
      clear hJ0
      obtain ⟨o, pre, ho2, rfl, hno, hfree, hJ⟩ := hrel
      by_cases hom : o < m
      · have hv := hV _ _ hJ
        obtain ⟨b, p, nn, lk, hB, hbu, hp⟩ := hv.st
        have c1 := hv.bq.cell
        have c3 := hB.cell
        have hom2 : (o : Int) < (m : Int) := by omega
        have hmod := Nat.mod_lt (f + o) hS
        have e6 : ((f : Int) + (o : Int)) % (S : Int) = (((f + o) % S : Nat) : Int) := by rw [Int.natCast_emod, Int.natCast_add]
        gi_wp2_with fail
        rw [e6]
        have HA : Hid (slotN S base o = (f + o) % S) := Lib.hid (by rw [slotN_of hS, hfe'.out])
        clear e6
        generalize (f + o) % S = a at *
        have hrd : ∀ d os, Calls Tryz.prog 76 #[.agg #[.int .u64 b.w0, .int .u64 b.w1, .int .u64 b.w2, .int .u64 b.w3], .int .i64 a, .int .i64 S] (grow (redrawn wr d) os) fun e w'' => e = .returned (pairV (b.round a S)) ∧ ∃ p : Regrown, w'' = grow (redrawn wr p.d) p.os := fun d os =>
          Calls.regrown_of (round_any b a S _ hbu.ok (hv.tab.below (below_regrown wr d os) (glob_lt hv.tab)))
        have hRo := hbu.round hS2 hmod
        have k0 := cell_regrown (c1 0)
        have k3 := cell_regrown (c3 3)
        have k5 := cell_regrown (c3 5)
        have k6 := cell_regrown (c3 6)
        have k7 := cell_regrown (c3 7)
        have k8 := cell_regrown (c3 8)
        clear hB hbu hv c1 c3
        refine wpIn_wide.2 ?_
        cases hr : b.round a S with
        | none =>
          rw [hr] at hrd
          unfold pairV at hrd
          refine wp_region_quiet_below (by kernel_rfl) (by kernel_rfl) ?_
          repeat (quiet_step (exact hrd _ _))
          refine wpQuiet_nil ?_
          intro _ hw'
          obtain ⟨⟨dq, osq⟩, hw''⟩ := hw'
          subst hw''
          have hJ2 := hJb _ _ _ hJ (below_regrown wr dq osq)
          generalize grow (redrawn wr dq) osq = w2 at *
          clear hrd hJ k0 k3 k5 k6 k7 k8
          have hfin : Hid (BetS S base now p0 pre) := Lib.hid (fun o' h1 h2 => by
            rw [hme'.out] at h2
            rw [← hp o' h1 (by omega)]
            exact hRo.1 hr _ (slotN_lt hS base o'))
          clear hRo hp hr
          gi_wp2_with fail
          rw [Exit.noGoto_normal]
          go_end0
          exact ⟨⟨_, rfl⟩, .inl ⟨pre, hfin.out, hJ2⟩⟩
        | some x =>
          obtain ⟨k, rfl, hkS, hpk, hgap⟩ := hRo.2 x hr
          rw [hr] at hrd
          unfold pairV at hrd
          refine wp_region_quiet_below (by kernel_rfl) (by kernel_rfl) ?_
          repeat (quiet_step (exact hrd _ _))
          refine wpQuiet_nil ?_
          intro _ hw'
          obtain ⟨⟨dq, osq⟩, hw''⟩ := hw'
          subst hw''
          have hJ2 := hJb _ _ _ hJ (below_regrown wr dq osq)
          generalize grow (redrawn wr dq) osq = w2 at *
          clear hrd hJ k0 k3 k5 k6 k7 k8 hRo hr
          have hv2 := hV _ _ hJ2
          obtain ⟨b2, p2, n2, lk2, hB2, _, _⟩ := hv2.st
          have c1 := hv2.bq.cell
          have c3 := hB2.cell
          have hdS := Nat.mod_lt (k + S - a) hS
          have e7 : ((k : Int) - (a : Int) + (S : Int)) % (S : Int) = (((k + S - a) % S : Nat) : Int) := by
            rw [show (k : Int) - (a : Int) + (S : Int) = ((k + S - a : Nat) : Int) by omega, Int.natCast_emod]
          have e8 : ((k : Int) - (a : Int) + (S : Int)).tmod (S : Int) = (((k + S - a) % S : Nat) : Int) := by
            rw [show (k : Int) - (a : Int) + (S : Int) = ((k + S - a : Nat) : Int) by omega, Int.ofNat_tmod]
          have e9 : 0 ≤ (k : Int) - (a : Int) + (S : Int) := by omega
          have hkey : Hid ((a + (k + S - a) % S) % S = k) := Lib.hid (by
            rw [Nat.add_mod_mod, show a + (k + S - a) = k + S by omega, Nat.add_mod_right, Nat.mod_eq_of_lt hkS])
          clear hv2
          generalize (k + S - a) % S = d at *
          gi_wp2_with fail
          refine wpIn_wide.2 (still_all (by kernel_rfl) (by kernel_rfl) ?_)
          have f0 : ¬ S = 0 := by omega
          have f1 : IntKind.i64.wrap ((k : Int) - (a : Int)) = (k : Int) - (a : Int) := IntWalk.i64_in _ (by omega)
          have f2 : IntKind.i64.wrap ((k : Int) - (a : Int) + (S : Int)) = (k : Int) - (a : Int) + (S : Int) := IntWalk.i64_in _ (by omega)
          have f3 : IntKind.i64.wrap ((o : Int) + (d : Int)) = (o : Int) + (d : Int) := IntWalk.i64_in _ (by omega)
          repeat still_step
          refine wpStill_nil ?_
          clear f0 f1 f2 f3
          replace hJ2 := hJd _ _ hJ2
          clear c1 c3 hB2 e7 e8 e9
          generalize w2.drew = w3 at *
          have hfree2 : Hid (∀ o', nxo pre ≤ o' → o' < o + d → o' < m → p0 (slotN S base o') = false) := Lib.hid (fun o' h1 h2 h3 => by
            by_cases hoo : o' < o
            · exact hfree.out o' h1 hoo h3
            · rw [← hp o' h1 (by omega)]
              have := hgap (o' - o) (by omega)
              rw [← HA.out] at this
              have e8 : slotN S base o' = (slotN S base o + (o' - o)) % S := by
                rw [slotN_of hS base o', slotN_of hS base o, Nat.mod_add_mod]
                congr 1
                omega
              rw [e8]
              exact this)
          by_cases hod : o + d < m
          · have hG : Hid (BetG S base now p0 pre (o + d)) := Lib.hid (by
              refine ⟨by omega, by rw [hme'.out]; exact hod, ?_, fun o' h1 h2 => hfree2.out o' h1 h2 (by omega)⟩
              have e8 : slotN S base (o + d) = k := by
                rw [slotN_of hS base (o + d), ← hkey.out, ← HA.out, slotN_of hS base o, Nat.mod_add_mod]
                congr 1
                omega
              rw [← hp _ (by omega) (by omega), e8]
              exact hpk)
            have HK : Hid (slotN S base (o + d) = k) := Lib.hid (by
              rw [slotN_of hS base (o + d), ← hkey.out, ← HA.out, slotN_of hS base o, Nat.mod_add_mod]
              congr 1
              omega)
            obtain ⟨fn, tmps, assign, body, hy, hR⟩ := hY pre (o + d) w3 hJ2 hG.out
            rw [HK.out] at hy
            clear hp hgap hV
            gi_wp2_with fail
            refine hR.mono ?_
            rintro e W3 (⟨rfl, hJ3⟩ | ⟨rfl, hJx3⟩)
            · have hW : Hid (nxo (pre ++ [o + d]) ≤ o + d + 1 ∧ ∀ o', nxo (pre ++ [o + d]) ≤ o' → o' < o + d + 1 → o' < m → p0 (slotN S base o') = false) := Lib.hid (by
                rw [nxo_snoc]
                exact ⟨Nat.le_refl _, fun o' h1 h2 => absurd h1 (by omega)⟩)
              gi_wp2_with fail
              go_roundw
              case rel => exact ⟨o + d + 1, pre ++ [o + d], by omega, by go_num, hW.out.1, Lib.hid hW.out.2, hJ3⟩
              case measure => simp [intOf]; omega
            · gi_wp2_with fail
              (try rw [Exit.noGoto_ret])
              refine bodyPost_ret (results_none rfl _ _ _) rfl ?_
              exact ⟨⟨_, rfl⟩, .inr ⟨_, hJx3⟩⟩
          · clear hp hgap
            gi_wp2_with fail
            go_roundw
            case rel => exact ⟨o + d, pre, by omega, by go_num, by omega, hfree2, hJ2⟩
            case measure => simp [intOf]; omega
      · have hfin : Hid (BetS S base now p0 pre) := Lib.hid (fun o' h1 h2 => by
          rw [hme'.out] at h2
          exact hfree.out o' h1 (by omega) h2)
        gi_wp2_with fail
        rw [Exit.noGoto_normal]
        go_end0
        exact ⟨⟨_, rfl⟩, .inl ⟨pre, hfin.out, hJ⟩⟩
theorem hbet_seq (n : Nat) (hn : 1 ≤ n) (q bq bn tb c P S : Nat) (base now : Int) (p0 : Nat → Bool) (z : HSz P S) (hb : U64 base) (hw : U64 now) (w : World) :
    SeqI Fence.wide n Tryz.prog 75 #[.pointer (some ⟨bn, 0, none⟩), .pointer (some ⟨bq, 0, none⟩)] (fun o : Nat => #[Value.int .i64 (slotN S base o : Nat)]) (BetV q bq bn tb c P S base now p0) (BetG S base now p0) (BetS S base now p0) w :=
  fun l J Jx W _ hA _ hV hY h0 => hbet1_in n hn l q bq bn tb c P S base now p0 z hb hw J Jx (abides_drew hA) (abides_below hA) hV hY W h0
end Go.Proofs.YtckkfbepclogcaaGreatDoor
namespace Go.Proofs.YtckkfbepclogcaaGreatDoor
open Go.RowKit Go.Shelf
attribute [local go_sem] Oper.semAt_some
theorem Took.trans {P N : Nat} {f : Int → Timer → Nat} {s0 s s2 : HSt} {D : Timer → Prop} {l l2 : List Timer} (h : Took P N f s0 D l s) (k : Took P N f s D l2 s2) : Took P N f s0 D (l ++ l2) s2 :=
  ⟨k.ok, k.tm.trans h.tm, k.base.trans h.base, by
    rw [List.append_assoc]
    exact (List.Perm.append_left l k.perm).trans h.perm, fun x hx => by
      rcases List.mem_append.1 hx with hx | hx
      · exact h.due x hx
      · exact k.due x hx, fun i hi j hj => h.sub i hi j (k.sub i hi j hj)⟩
theorem Gone.one_more {P S : Nat} {s0 s s2 : HSt} {now : Int} {l l2 : List Timer} {looked off : Nat} (h : Gone P S s0 now off l s looked) (hS : 0 < S) (ho : off < S) (hb : busyAt s0 (slotN S s0.base off) = true) (d : DueOf P S s (slotN S s0.base off) now l2 s2) :
    Gone P S s0 now (off + 1) (l ++ l2) s2 (looked + 1) := h.one hS ho hb (h.took.trans d.took) d.took.sub d.left d.else_
/-- What a turn of a block that holds no cells keeps. -/
def CK (w w' : World) : Prop := ∀ (g : Nat) (o : Obj), w.heap[g]? = some o → o.isCells = true → w'.heap[g]? = w.heap[g]?
theorem ck_of {w w' : World} {row : Option Nat} (hg : w.grownBy w' row) (hr : ∀ r, row = some r → ∃ o : Obj, w.heap[r]? = some o ∧ o.isCells = false) : CK w w' := fun _ _ ho hc => grownBy_keeps_cells hg hr ho hc
section
variable {w w' : World} {q tb c nb P S N g : Nat} {s : HSt} {b : Bits} {lk : Int}
theorem Blk.ck {t : TypeId} {cs : Array Value} (h : Blk w g t cs) (k : CK w w') : Blk w' g t cs := (k g _ h rfl).trans h
theorem CM.ck {inn : Nat → Option Nat} {L : Nat → List Nat} (h : CM w c nb P N inn L) (k : CK w w') : CM w' c nb P N inn L := by
  obtain ⟨nx, pv, h1, h2⟩ := h.st
  exact ⟨nx, pv, ⟨h1.blk.ck k, h1.nod.ck k⟩, h2⟩
theorem HM.ck (h : HM w q tb c nb P S s b lk) (k : CK w w') : HM w' q tb c nb P S s b lk := ⟨h.blk.ck k, h.tms.ck k, h.ch.ck k, h.busy, h.ok⟩
theorem own_cells {base : Nat} {v : Value} {l : List Timer} (h : OwnT w base v l) : ∀ g, v.ownBlock = some g → ∃ o : Obj, w.heap[g]? = some o ∧ o.isCells = true := by
  intro g hg
  rcases h.2 with ⟨rfl, _⟩ | ⟨g', cap, cur, rfl, _, hh, _⟩
  · cases hg
  · simp only [Value.ownBlock, Option.some.injEq] at hg
    subst hg
    exact ⟨_, hh, rfl⟩
theorem OwnT.ck {base : Nat} {v : Value} {l : List Timer} (h : OwnT w base v l) (k : CK w w') : OwnT w' base v l := ownsRow_keep h fun g _ hgo => by
  obtain ⟨o, ho, hc⟩ := own_cells h g hgo
  exact k g o ho hc
theorem TabAt.ck (h : TabAt w) (k : CK w w') : TabAt w' := fun j hj => by
  obtain ⟨o, ho, hc⟩ := cells_of_cell (h j hj)
  exact (World.cell?_of_block (k _ o ho hc)).trans (h j hj)
end
theorem keeps_chg {B : Nat} {T : Nat → Prop} {w w' : World} (h : Chg T w w') (hc : ∀ k o, T k → w.heap[k]? = some o → o.isCells = true) : KeepsFrom B w w' :=
  ⟨h.size, fun k o _ hk ho => by
    have hlt := (Array.getElem?_eq_some_iff.1 hk).1
    by_cases hT : T k
    · rw [hc k o hT hk] at ho; cases ho
    · exact (h.block k hlt hT).trans hk⟩
theorem chg_ownFrom {β : Type} {B : Nat} {T : Nat → Prop} {w : World} (hB : w.heap.size ≤ B) : OwnFrom B (fun (_ : β) W => Chg T w W) := fun _ X Y row hs hg hr =>
  ⟨hg.os.trans hs.os, hg.tape.trans hs.tape, hg.output.trans hs.output, Nat.le_trans hs.size hg.size, fun k hk hn => (hg.block k (Nat.lt_of_lt_of_le hk hs.size) (fun e => by have := (hr k e.symm).1; omega)).trans (hs.block k hk hn)⟩
/-- What lies between two rounds. -/
structure DueI (q bq bn aq an g5 tb c nb P S base0 : Nat) (s0 : HSt) (now : Int) (w : World) (pre : List Nat) (W : World) : Prop where
  bq : Blk W bq 59 #[.pointer (some ⟨q, 0, none⟩)]
  bn : Blk W bn 22 #[.int .u64 now]
  aq : Blk W aq 59 #[.pointer (some ⟨q, 0, none⟩)]
  an : Blk W an 22 #[.int .u64 now]
  tab : TabAt W
  chg : Chg (HS q tb nb) w W
  span : nxo pre ≤ spanN S s0.base now
  st : ∃ s b l v lk, HM W q tb c nb P S s b (lk : Nat) ∧ Gone P S s0 now (nxo pre) l s lk ∧ Blk W g5 29 #[v] ∧ OwnT W base0 v l
theorem DueI.view {q bq bn aq an g5 tb c nb P S base0 : Nat} {s0 : HSt} {now : Int} {w : World} {pre : List Nat} {W : World} (h : DueI q bq bn aq an g5 tb c nb P S base0 s0 now w pre W) : BetV q bq bn tb c P S s0.base now (busyAt s0) pre W := by
  obtain ⟨s, b, l, v, lk, hm, hg, h5, ho⟩ := h.st
  refine ⟨h.bq, h.bn, h.tab, b, busyAt s, (s.pend P).length, lk, ?_, hm.busy, ?_⟩
  · have := hm.blk
    rw [hg.took.base] at this
    exact this
  · intro o h1 h2
    unfold busyAt
    rw [hg.ahead o h1 h2]
theorem DueI.own {q bq bn aq an g5 tb c nb P S base0 B : Nat} {s0 : HSt} {now : Int} {w : World} (hB : w.heap.size ≤ B) : OwnFrom B (DueI q bq bn aq an g5 tb c nb P S base0 s0 now w) := fun pre X Y row hs hg hr => by
  have k := ck_of hg (fun r e => (hr r e).2)
  obtain ⟨s, b, l, v, lk, hm, hgo, h5, ho⟩ := hs.st
  exact ⟨hs.bq.ck k, hs.bn.ck k, hs.aq.ck k, hs.an.ck k, hs.tab.ck k, chg_ownFrom hB pre X Y row hs.chg hg hr, hs.span, s, b, l, v, lk, hm.ck k, hgo, h5.ck k, ho.ck k⟩
theorem no_exit {F : Fence} {n : Nat} {P : Program} {c : Code} {K : Go.Act → World → Prop} {Q : Exit → Go.Act → World → Prop} {a : Go.Act} {w : World} (h : c.wpIn F n P (Exit.then K (fun _ _ _ => False)) a w) : c.wpIn F n P (Exit.then K Q) a w :=
  wpIn_mono h fun e a w hq => by cases e <;> first | exact hq | exact hq.elim
theorem busy_at0 {s : HSt} {b : Int} : busyAt { s with base := b } = busyAt s := rfl
theorem HM.look {w : World} {q tb c nb P S : Nat} {s : HSt} {b : Bits} {lk : Int} (h : HM w q tb c nb P S s b lk) (x : Int) : HM (w.setCell ⟨q, 4, none⟩ (.int .i64 x)) q tb c nb P S s b x := by
  have k : Chg (fun g => g = q) w (w.setCell ⟨q, 4, none⟩ (.int .i64 x)) := (Chg.refl (fun g => g = q) w).setCell (fun _ => rfl) _
  exact ⟨h.blk.put 4 _, h.tms.chg k (fun e => h.qtb e.symm), h.ch.chg k (fun e => h.qc e.symm) (fun e => h.qnb e.symm), h.busy, h.ok⟩
theorem OwnT.chg {w w' : World} {base : Nat} {v : Value} {l : List Timer} {T : Nat → Prop} (h : OwnT w base v l) (k : Chg T w w') (hn : ∀ g, v.ownBlock = some g → ¬ T g) : OwnT w' base v l :=
  ownsRow_keep h fun g hg hgo => k.block g hg (hn g hgo)
theorem own_blk {w : World} {base : Nat} {v : Value} {l : List Timer} (h : OwnT w base v l) : ∀ g, v.ownBlock = some g → ∃ cur, Blk w g 37 cur := by
  intro g hg
  rcases h.2 with ⟨rfl, _⟩ | ⟨g', cap, cur, rfl, _, hh, _⟩
  · cases hg
  · simp only [Value.ownBlock, Option.some.injEq] at hg
    subst hg
    exact ⟨cur, hh⟩
theorem HM.tabne {w : World} {q tb c nb P S : Nat} {s : HSt} {b : Bits} {lk : Int} (h : HM w q tb c nb P S s b lk) (hT : TabAt w) : 0 ≠ q ∧ 0 ≠ tb ∧ 0 ≠ nb := by
  have h0 := hT 0 (by omega)
  refine ⟨fun e => ?_, fun e => ?_, fun e => ?_⟩
  · have h1 := h.blk.cell 0
    rw [← e, h0] at h1
    cases h1
  · have h1 := h.tms.cell 0
    rw [← e, h0] at h1
    by_cases hP : 0 < P
    · have h2 := tmC_at P s.tm 0 hP
      rw [Nat.zero_mul] at h2
      rw [h2] at h1
      cases h1
    · rw [Array.getElem?_eq_none (by rw [tmC_size]; omega)] at h1
      cases h1
  · obtain ⟨nx, pv, h3, _⟩ := h.ch.st
    have h1 := h3.nod.cell 0
    rw [← e, h0] at h1
    have h2 := nodeC_nx (P + (S + 1)) nx pv s.inn 0 (by omega)
    rw [Nat.zero_mul] at h2
    rw [h2] at h1
    cases h1
theorem TabAt.chg {w w' : World} {T : Nat → Prop} (h : TabAt w) (k : Chg T w w') (hn : ¬ T 0) : TabAt w' := fun j hj => (k.cell (p := ⟨0, j, none⟩) (glob_lt h) hn).trans (h j hj)
/-- The facts of Due's first statement. -/
def FDu (q tb c nb P S base0 : Nat) (s : HSt) (lk now : Int) : Nat → Value → World → Prop := fun k v w => match k with
  | 3 => v = .pointer (some ⟨q, 3, none⟩)
  | 4 => v = .int .i64 S
  | 5 => v = .int .u64 now
  | 6 => ∃ l' s' b', HM w q tb c nb P S s' b' lk ∧ OwnT w base0 v l' ∧ DueOf P S s S now l' s'
  | 7 => ∃ g, v = .pointer (some ⟨g, 0, none⟩) ∧ base0 ≤ g ∧ Blk w g 29 #[.slice none 0 0]
  | _ => v = .pointer (some ⟨q, 0, none⟩)
structure SDu (q bq bn tb c nb P S base0 : Nat) (s : HSt) (b : Bits) (lk now : Int) (w0 : World) (ph : Bool) (w : World) : Prop where
  bq : Blk w bq 59 #[.pointer (some ⟨q, 0, none⟩)]
  bn : Blk w bn 22 #[.int .u64 now]
  tab : TabAt w
  chg : Chg (HS q tb nb) w0 w
  size : base0 ≤ w.heap.size
  st : ∃ s' b', HM w q tb c nb P S s' b' lk ∧ (ph = false → s' = s ∧ b' = b)
def RDu (q tb c nb P S : Nat) (lk : Int) : Nat → World → World → Prop := fun i w w' =>
  if i = 6 then w.heap.size ≤ w'.heap.size ∧ Chg (fun g => g = q ∨ g = nb) w w' ∧ ∃ s' b', HM w' q tb c nb P S s' b' lk else Below w.heap.size w w'
section
variable {q bq bn tb c nb P S base0 : Nat} {s : HSt} {b : Bits} {lk now : Int} {w0 : World}
theorem FDu.keep (hq : q < base0) (hn : nb < base0) : ∀ i j v w w', j ≠ i → FDu q tb c nb P S base0 s lk now j v w → RDu q tb c nb P S lk i w w' → FDu q tb c nb P S base0 s lk now j v w' := by
  intro i j v w w' hji h k
  unfold FDu at *
  unfold RDu at k
  split at h
  · exact h
  · exact h
  · exact h
  · rw [if_neg (by omega)] at k
    obtain ⟨l', s', b', h1, h2, h3⟩ := h
    exact ⟨l', s', b', h1.below k, h2.below k (Nat.le_refl _), h3⟩
  · obtain ⟨g, e, hg, hb⟩ := h
    refine ⟨g, e, hg, ?_⟩
    split at k
    · exact hb.chg k.2.1 (by omega)
    · exact hb.below k hb.lt
  · exact h
theorem SDu.keep (hq : q < w0.heap.size) (hn : nb < w0.heap.size) (hbq : w0.heap.size ≤ bq) (hbn : w0.heap.size ≤ bn) : ∀ i ph w w', (i = 6 → ph = false) → SDu q bq bn tb c nb P S base0 s b lk now w0 ph w → RDu q tb c nb P S lk i w w' → SDu q bq bn tb c nb P S base0 s b lk now w0 (ph || decide (i = 6)) w' := by
  intro i ph w w' _ h k
  unfold RDu at k
  obtain ⟨s1, b1, hm, he⟩ := h.st
  split at k
  · rename_i hi
    obtain ⟨k1, k2, s', b', hm'⟩ := k
    have ht := hm.tabne h.tab
    refine ⟨h.bq.chg k2 (by omega), h.bn.chg k2 (by omega), h.tab.chg k2 (fun e => by rcases e with e | e; exact ht.1 e; exact ht.2.2 e), h.chg.trans k2 (fun _ _ e => by rcases e with e | e; exact .inl e; exact .inr (.inr e)), Nat.le_trans h.size k1, s', b', hm', fun e => ?_⟩
    rw [decide_eq_true hi, Bool.or_true] at e
    cases e
  · rename_i hi
    rw [decide_eq_false hi, Bool.or_false]
    exact ⟨h.bq.below k h.bq.lt, h.bn.below k h.bn.lt, h.tab.below k (glob_lt h.tab), h.chg.trans (Chg.of_same k (HS q tb nb)) (fun _ _ e => e), Nat.le_trans h.size k.size, s1, b1, hm.below k, he⟩
theorem RDu.size : ∀ i w w', RDu q tb c nb P S lk i w w' → w.heap.size ≤ w'.heap.size := by
  intro i w w' k
  unfold RDu at k
  split at k
  · exact k.1
  · exact k.size
end
set_option linter.unusedSimpArgs false in
set_option maxRecDepth 100000 in
set_option maxHeartbeats 4000000 in
theorem hDue_in (q tb c nb P S : Nat) (s : HSt) (b : Bits) (lk now : Int) (m : List Timer) (w : World) (h : HM w q tb c nb P S s b lk) (hp : PRel P s.on s.tm m) (z : HSz P S) (hb : U64 s.base) (hw : U64 now) (hT : TabAt w) :
    CallsIn Fence.wide 3 Tryz.prog 26 #[.pointer (some ⟨q, 0, none⟩), .int .u64 now] w fun e w' => ∃ v, e = .returned v ∧ OwnT w' w.heap.size v (dueL m now true) ∧ HQ w' q tb c nb P S (max s.base now) (lookL m s.base S now) (dueL m now false) ∧ Chg (HS q tb nb) w w' := by
  have hS := z.hS
  have hS2 := z.hS2
  have hP := z.hP
  obtain ⟨l0, l1, l2, l3⟩ := h.lts
  have hbx := two_new w (.cells #[.pointer (some ⟨q, 0, none⟩)] 59) (.cells #[.int .u64 now] 22)
  have hB1 : Blk ((w.alloc (.cells #[.pointer (some ⟨q, 0, none⟩)] 59)).alloc (.cells #[.int .u64 now] 22)) w.heap.size 59 #[.pointer (some ⟨q, 0, none⟩)] := (Blk.new _ _ _).alloc _
  have hB2 : Blk ((w.alloc (.cells #[.pointer (some ⟨q, 0, none⟩)] 59)).alloc (.cells #[.int .u64 now] 22)) (w.heap.size + 1) 22 #[.int .u64 now] := alloc2_at _ _ _ _
  have h1 := h.below hbx
  have hT1 : TabAt ((w.alloc (.cells #[.pointer (some ⟨q, 0, none⟩)] 59)).alloc (.cells #[.int .u64 now] 22)) := hT.below hbx (glob_lt hT)
  have hsz : ((w.alloc (.cells #[.pointer (some ⟨q, 0, none⟩)] 59)).alloc (.cells #[.int .u64 now] 22)).heap.size = w.heap.size + 1 + 1 := by simp
  refine callsIn_of_wp_marks Tryz.func26 rfl trivial ?_ rfl
  simp only [Tryz.ntmps26, List.size_toArray, List.length_cons, List.length_nil, Nat.reduceAdd, Nat.reduceSub, Array.replicate_succ, Array.replicate_zero, List.push_toArray, List.append_toArray, List.nil_append, List.cons_append]
  gi_wp2_with fail
  generalize (w.alloc (.cells #[.pointer (some ⟨q, 0, none⟩)] 59)).alloc (.cells #[.int .u64 now] 22) = W1 at *
  refine no_exit (wpIn_wide.2 ?_)
  have hk0 : SDu q w.heap.size (w.heap.size + 1) tb c nb P S (w.heap.size + 1 + 1) s b lk now w false W1.drew := ⟨hB1.drew, hB2.drew, hT1, (Chg.of_same hbx _).drew, by rw [← hsz]; exact Nat.le_refl _, s, b, h1.drew, fun _ => ⟨rfl, rfl⟩⟩
  clear hB1 hB2 h1 hT1 hbx
  refine region_facts_turn 8 6 (by kernel_rfl) (fun _ => false) (FDu q tb c nb P S (w.heap.size + 1 + 1) s lk now) (SDu q w.heap.size (w.heap.size + 1) tb c nb P S (w.heap.size + 1 + 1) s b lk now w) (RDu q tb c nb P S lk) (List.range' 7 7 ++ [5]) (by kernel_rfl) (by kernel_rfl) (by kernel_rfl) (by decide) (by kernel_rfl) (by kernel_rfl) (FDu.keep (by omega) (by omega)) (SDu.keep l0 l3 (Nat.le_refl _) (by omega)) RDu.size hk0 ?_ ?_
  · intro fr hfr
    have f2 : fr.getD 2 undef = .pointer (some ⟨w.heap.size, 0, none⟩) := by rw [hfr]; rfl
    have f3 : fr.getD 3 undef = .pointer (some ⟨w.heap.size + 1, 0, none⟩) := by rw [hfr]; rfl
    clear hfr
    iterate 6
      refine ⟨⟨trivial, ?_⟩, ?_⟩
      · intro ρ w' ph _ hρ hd hS
        simp only [DepF, Region.binds, dat, Nat.reduceLT, Nat.reduceAdd, FDu, forall_const, and_true, true_and] at hd
        have hcon := hρ.con
        have e2 := (hρ.slot 2 (by kernel_rfl)).trans f2
        have e3 := (hρ.slot 3 (by kernel_rfl)).trans f3
        have hc1 := hS.bq.cell
        have hc2 := hS.bn.cell
        obtain ⟨s1, b1, hm1, _⟩ := hS.st
        have hc3 := hm1.blk.cell
        go_simp
        simp only [GoodP, FDu, RDu]
        first
          | exact ⟨trivial, by rw [if_neg (by decide)]; exact Below.refl _ _, fun h => absurd h (by decide)⟩
          | exact ⟨rfl, by rw [if_neg (by decide)]; exact Below.refl _ _, fun h => absurd h (by decide)⟩
    refine ⟨⟨trivial, ?_⟩, ?_⟩
    · intro ρ w' ph hph hρ hd hS
      simp only [DepF, Region.binds, dat, Nat.reduceLT, Nat.reduceAdd, FDu, forall_const, and_true, true_and] at hd
      have hcon := hρ.con
      rw [execOp_call_fn _ _ _ _ _ _ _ _ _ (hρ.fn _)]
      obtain ⟨s1, b1, hm1, he⟩ := hS.st
      obtain ⟨rfl, rfl⟩ := he (hph rfl)
      go_simp
      simp only [GoodP]
      have hsz' := hS.size
      refine (hdue_any q tb c nb P S S (w.heap.size + 1 + 1) s1 b1 lk now (.slice none 0 0) [] w' hm1 z (by omega) (OwnT.nil _ _) (by simp) (by omega) (by omega) (by omega) (by omega) hsz').mono ?_
      rintro e w'' ⟨v', l', s', b', rfl, hm', ho, hd', hk, _⟩
      refine ⟨v', rfl, ⟨l', s', b', hm', by simpa using ho, hd'⟩, ?_, fun h => absurd h (by decide)⟩
      unfold RDu
      rw [if_pos rfl]
      refine ⟨hk.size, hk.mono (fun k _ e => ?_), s', b', hm'⟩
      rcases e with e | e | e
      · exact .inl e
      · exact .inr e
      · cases e
    refine ⟨⟨trivial, ?_⟩, ?_⟩
    · intro ρ w' ph _ hρ hd hS
      have hsz' := hS.size
      go_simp
      simp only [GoodP, FDu, RDu]
      exact ⟨⟨_, rfl, hsz', Blk.new _ _ _⟩, by rw [if_neg (by decide)]; exact (Below.refl _ _).alloc (Nat.le_refl _) _, fun h => absurd h (by decide)⟩
    trivial
  · intro vs w2 hs hF _
    obtain ⟨l', s', b', hm2, ho2, hd2⟩ : ∃ l' s' b', HM w2 q tb c nb P S s' b' lk ∧ OwnT w2 (w.heap.size + 1 + 1) (vs 6) l' ∧ DueOf P S s S now l' s' := hF 6 (by decide)
    obtain ⟨g5, v7, hg5, hB5⟩ : ∃ g, vs 7 = .pointer (some ⟨g, 0, none⟩) ∧ w.heap.size + 1 + 1 ≤ g ∧ Blk w2 g 29 #[.slice none 0 0] := hF 7 (by decide)
    have v0 : vs 0 = .pointer (some ⟨q, 0, none⟩) := hF 0 (by decide)
    have v5 : vs 5 = .int .u64 now := hF 5 (by decide)
    obtain ⟨A2, c2, v6, _⟩ := ho2.at
    clear hF
    simp only [List.range'_succ, List.range'_zero, List.cons_append, List.nil_append, List.append_nil, setAll, List.setIfInBounds_toArray, List.set_cons_zero, List.set_cons_succ, Nat.reduceAdd]
    rw [v6, v7]
    rw [v6] at ho2
    simp only [List.drop_succ_cons, List.drop_zero]
    clear v6 v7 hk0
    have hB1 := hs.bq
    have hB2 := hs.bn
    have hT2 := hs.tab
    have hch2 := hs.chg
    have hz5 := hB5.frozen
    have hc5 := hB5.cell
    have hl5 := hB5.lt
    have hk5 : Chg (fun g => g = g5) w2 (w2.setCell ⟨g5, 0, none⟩ (.slice A2 l'.length c2)) := (Chg.refl (fun g => g = g5) w2).setCell (fun _ => rfl) _
    have hn5 : ∀ g, (Value.slice A2 l'.length c2).ownBlock = some g → ¬ g = g5 := fun g e e2 => by
      subst e2
      obtain ⟨cur, hcur⟩ := own_blk ho2 g e
      exact hcur.ne hB5 (by decide) rfl
    have hm3 := hm2.chg hk5 (by omega) (by omega) (by omega) (by omega)
    have ho3 := ho2.chg hk5 hn5
    have hA1 := hB1.chg hk5 (by omega)
    have hA2 := hB2.chg hk5 (by omega)
    have hT3 := hT2.chg hk5 (fun e => by have := glob_lt hT; omega)
    have hA5 : Blk (w2.setCell ⟨g5, 0, none⟩ (.slice A2 l'.length c2)) g5 29 #[.slice A2 l'.length c2] := hB5.put 0 _
    have hch3 : Chg (HS q tb nb) w (w2.setCell ⟨g5, 0, none⟩ (.slice A2 l'.length c2)) := hch2.setCell (fun e => by simp only at e; omega) _
    clear hs
    go_wp2_with fail
    clear hz5 hc5 hl5 hk5 hn5 hm2 ho2 hB1 hB2 hT2 hB5 hch2
    generalize w2.setCell ⟨g5, 0, none⟩ (.slice A2 l'.length c2) = w3 at *
    have hm4 := hm3.look 0
    have hk4 : Chg (fun g => g = q) w3 (w3.setCell ⟨q, 4, none⟩ (.int .i64 0)) := (Chg.refl (fun g => g = q) w3).setCell (fun _ => rfl) _
    have ho4 := ho3.chg hk4 (fun g e e2 => by have := own_base ho3 g e; omega)
    have hA1' := hA1.chg hk4 (by omega)
    have hA2' := hA2.chg hk4 (by omega)
    have hT4 := hT3.chg hk4 (fun e => (hm3.tabne hT3).1 e)
    have hA5' := hA5.chg hk4 (by omega)
    have hch4 : Chg (HS q tb nb) w (w3.setCell ⟨q, 4, none⟩ (.int .i64 0)) := hch3.trans hk4 (fun _ _ e => .inl e)
    have hc1 := hA1.cell
    have hc2' := hA2.cell
    have hqc := hm3.blk.cell
    have hqz := hm3.blk.frozen
    have hql := hm3.blk.lt
    have hbt := hbetween_any q now (w3.setCell ⟨q, 4, none⟩ (.int .i64 0))
    gi_wp2_with (refine ⟨trivial, ?_⟩; gi_at_call 51; refine (callsIn_wide.2 hbt).mono ?_; rintro e w' ⟨rfl, rfl⟩)
    clear hbt hqc hqz hql hc1 hc2' hm3 ho3 hA1 hA2 hT3 hA5 hch3 hk4
    have hs4 : (w3.setCell ⟨q, 4, none⟩ (.int .i64 0)).heap.size = w3.heap.size := by simp
    generalize w3.setCell ⟨q, 4, none⟩ (.int .i64 0) = w4 at *
    rw [← hs4]
    have hb4 := two_new w4 (.cells #[.pointer (some ⟨q, 0, none⟩)] 59) (.cells #[.int .u64 now] 22)
    have hC1 : Blk ((w4.alloc (.cells #[.pointer (some ⟨q, 0, none⟩)] 59)).alloc (.cells #[.int .u64 now] 22)) w4.heap.size 59 #[.pointer (some ⟨q, 0, none⟩)] := (Blk.new _ _ _).alloc _
    have hC2 : Blk ((w4.alloc (.cells #[.pointer (some ⟨q, 0, none⟩)] 59)).alloc (.cells #[.int .u64 now] 22)) (w4.heap.size + 1) 22 #[.int .u64 now] := alloc2_at _ _ _ _
    have hpl : (s.pend P).length ≤ P := pendL_le _ _ _
    have hst : DueI q w4.heap.size (w4.heap.size + 1) w.heap.size (w.heap.size + 1) g5 tb c nb P S (w.heap.size + 1 + 1) s now w [] ((w4.alloc (.cells #[.pointer (some ⟨q, 0, none⟩)] 59)).alloc (.cells #[.int .u64 now] 22)) :=
      ⟨hC1, hC2, hA1'.below hb4 hA1'.lt, hA2'.below hb4 hA2'.lt, hT4.below hb4 (glob_lt hT4), hch4.trans (Chg.of_same hb4 (HS q tb nb)) (fun _ _ e => e), Nat.zero_le _, s', b', l', _, 0, hm4.below hb4, Gone.start hd2.took hd2.left hd2.else_ hS, hA5'.below hb4 hA5'.lt, ho4.below hb4 (Nat.le_refl _)⟩
    have hsw : w.heap.size ≤ ((w4.alloc (.cells #[.pointer (some ⟨q, 0, none⟩)] 59)).alloc (.cells #[.int .u64 now] 22)).heap.size := hst.chg.size
    have hg5w : g5 < w4.heap.size := hA5'.lt
    clear hC1 hC2 hb4 hm4 ho4 hA1' hA2' hT4 hA5' hch4
    generalize (w4.alloc (.cells #[.pointer (some ⟨q, 0, none⟩)] 59)).alloc (.cells #[.int .u64 now] 22) = w5 at *
    refine range_I rfl (by omega) (gf := 75) (lb := #[.pointer (some ⟨w4.heap.size + 1, 0, none⟩), .pointer (some ⟨w4.heap.size, 0, none⟩)]) rfl trivial (enters_of Tryz.func75 (by kernel_rfl) rfl)
      (hbet_seq 2 (by omega) q w4.heap.size (w4.heap.size + 1) tb c P S s.base now (busyAt s) z hb hw w5) (Nat.le_refl _) (fun _ => rfl)
      (DueI q w4.heap.size (w4.heap.size + 1) w.heap.size (w.heap.size + 1) g5 tb c nb P S (w.heap.size + 1 + 1) s now w) (fun _ _ _ => False) (DueI.own hsw) (fun _ _ _ _ _ h _ _ => h) (fun pre W h => h.view) hst ?a1 ?assign ?body ?done ?stop
    case assign =>
      intro l x W K hK
      gi_wp2
      exact hK
    case stop =>
      rintro D e pre W hD h hK
      exact h.elim
    case body =>
      rintro l pre x W hI ⟨hG1, hG2, hG3, hG4⟩
      obtain ⟨s1, b1, m1, v1, lk1, hm, hg, h5, ho⟩ := hI.st
      have hxS : x < S := Nat.lt_of_lt_of_le hG2 (span_le S s.base now)
      have hg2 := hg.pass hS hG1 (by omega) hG4
      have hml := hg2.took.len
      have hm2 := hm.look ((lk1 : Int) + 1)
      have hk4 : Chg (fun g => g = q) W (W.setCell ⟨q, 4, none⟩ (.int .i64 ((lk1 : Int) + 1))) := (Chg.refl (fun g => g = q) W).setCell (fun _ => rfl) _
      have hlkS : lk1 ≤ S := by
        rw [hg.looked]
        refine Nat.le_trans List.countP_le_length ?_
        have := span_le S s.base now
        have := hI.span
        simp; omega
      have hc1 := hI.aq.cell
      have hc2' := hI.an.cell
      have hqc := hm.blk.cell
      have hqz := hm.blk.frozen
      have hql := hm.blk.lt
      have h5c := h5.cell
      have hqg : q ≠ g5 := by omega
      obtain ⟨A1, c1, rfl, _⟩ := ho.at
      have hWs := hI.an.lt
      have ho4 := ho.chg hk4 (fun g e e2 => by have := own_base ho g e; omega)
      have hsl := slotN_lt hS s.base x
      have hdu := hdue_any q tb c nb P S (slotN S s.base x) (w.heap.size + 1 + 1) s1 b1 ((lk1 : Int) + 1) now (.slice A1 m1.length c1) m1 _ hm2 z (by omega) ho4 (by omega) (by omega) (by omega) (by omega) (by omega) (Nat.le_trans hWs hk4.size)
      have hne : ∀ g t cs, Blk W g t cs → t ≠ 37 → (Value.slice A1 m1.length c1).ownBlock ≠ some g := fun g t cs hb ht e => by
        obtain ⟨cur, hcur⟩ := own_blk ho g e
        exact hcur.ne hb (fun e => ht e.symm) rfl
      obtain ⟨nx, pv, hcn, _⟩ := hm.ch.st
      have hnodb := hcn.nod
      gi_wp2_with fail
      refine ⟨trivial, CallsIn.mono ((callsIn_wide (n := 0)).2 hdu) ?_⟩
      rintro e W2 ⟨v2, m2, s2, b2, rfl, hm3, ho3, hd3, hk3, han⟩
      obtain ⟨A3, c3, rfl, _⟩ := ho3.at
      have hkA : Chg (fun g => g = q ∨ g = nb ∨ (Value.slice A1 m1.length c1).ownBlock = some g) W W2 := hk4.mono (S' := fun g => g = q ∨ g = nb ∨ (Value.slice A1 m1.length c1).ownBlock = some g) (fun _ _ e => .inl e) |>.trans hk3 (fun _ _ e => e)
      have h52 := h5.chg hkA (fun e => by rcases e with e | e | e; omega; omega; exact hne _ _ _ h5 (by decide) e)
      have h5c2 := h52.cell
      have h5z2 := h52.frozen
      have h5l2 := h52.lt
      clear hdu hc1 hc2' hqc hqz hql h5c
      gi_wp2_with fail
      rw [List.length_append] at ho3
      have hkB : Chg (fun g => g = g5) W2 (W2.setCell ⟨g5, 0, none⟩ (.slice A3 (m1.length + m2.length) c3)) := (Chg.refl (fun g => g = g5) W2).setCell (fun _ => rfl) _
      have h5B : Blk (W2.setCell ⟨g5, 0, none⟩ (.slice A3 (m1.length + m2.length) c3)) g5 29 #[.slice A3 (m1.length + m2.length) c3] := h52.put 0 _
      have hkT : Chg (fun g => (g = q ∨ g = nb ∨ (Value.slice A1 m1.length c1).ownBlock = some g) ∨ g = g5) W (W2.setCell ⟨g5, 0, none⟩ (.slice A3 (m1.length + m2.length) c3)) :=
        (hkA.mono (S' := fun g => (g = q ∨ g = nb ∨ (Value.slice A1 m1.length c1).ownBlock = some g) ∨ g = g5) (fun _ _ e => .inl e)).trans hkB (fun _ _ e => .inr e)
      have ht := hm.tabne hI.tab
      have hbk : ∀ {g t cs}, Blk W g t cs → t ≠ 37 → g ≠ q → g ≠ nb → g ≠ g5 → Blk (W2.setCell ⟨g5, 0, none⟩ (.slice A3 (m1.length + m2.length) c3)) g t cs := fun hb ht h1 h2 h3 => hb.chg hkT (fun e => by
        rcases e with (e | e | e) | e
        · exact h1 e
        · exact h2 e
        · exact hne _ _ _ hb ht e
        · exact h3 e)
      have hbas := own_base ho
      have ho5 : OwnT (W2.setCell ⟨g5, 0, none⟩ (.slice A3 (m1.length + m2.length) c3)) (w.heap.size + 1 + 1) (.slice A3 (m1.length + m2.length) c3) (m1 ++ m2) := ho3.chg hkB (fun g e e2 => by
        subst e2
        obtain ⟨cur, hcur⟩ := own_blk ho3 g e
        exact hcur.ne h52 (by decide) rfl)
      have hm5 := hm3.chg hkB (by omega) (by omega) (by omega) (by omega)
      refine ⟨keeps_chg hkT (fun k o e hk => ?_), ?_⟩
      · rcases e with (e | e | e) | e
        · subst e
          rw [hm.blk] at hk
          cases hk
          rfl
        · subst e
          rw [hnodb] at hk
          cases hk
          rfl
        · obtain ⟨cur, hcur⟩ := own_blk ho k e
          rw [hcur] at hk
          cases hk
          rfl
        · subst e
          rw [h5] at hk
          cases hk
          rfl
      · refine ⟨hbk hI.bq (by decide) (by omega) (by omega) (by omega), hbk hI.bn (by decide) (by omega) (by omega) (by omega), hbk hI.aq (by decide) (by omega) (by omega) (by omega), hbk hI.an (by decide) (by omega) (by omega) (by omega), hI.tab.chg hkT (fun e => ?_), hI.chg.trans hkT (fun k hk e => ?_), ?_, s2, b2, m1 ++ m2, _, lk1 + 1, ?_, ?_, h5B, ho5⟩
        · rcases e with (e | e | e) | e
          · exact ht.1 e
          · exact ht.2.2 e
          · have := hbas _ e
            have := glob_lt hT
            omega
          · have := glob_lt hT
            omega
        · rcases e with (e | e | e) | e
          · exact .inl e
          · exact .inr (.inr e)
          · have := hbas _ e
            omega
          · omega
        · rw [nxo_snoc]
          omega
        · rw [show ((lk1 + 1 : Nat) : Int) = (lk1 : Int) + 1 by omega]
          exact hm5
        · rw [nxo_snoc]
          exact hg2.one_more hS hxS hG3 hd3
    case done =>
      rintro D xs W hD hS' hI hK
      obtain ⟨s1, b1, m1, v1, lk1, hm, hg, h5, ho⟩ := hI.st
      have hg2 := hg.pass hS hI.span (span_le S s.base now) (fun o h1 h2 => hS' o h1 h2)
      have hfin := hg2.done hS h.ok hp
      have hml := hg2.took.len
      have hc1 := hI.aq.cell
      have hc2' := hI.an.cell
      have hqc := hm.blk.cell
      have hqz := hm.blk.frozen
      have hql := hm.blk.lt
      have h5c := h5.cell
      have hsb : s1.base = s.base := hg2.took.base
      rw [hsb] at hqc
      have hKd : W.drew.heap[D]? = some (.deferred (some [])) := hK
      have hDq : D ≠ q := by
        have := hst.an.lt
        omega
      have hnd := hfin.1
      have hk9 : Chg (fun g => g = q) W ((W.setCell ⟨q, 9, none⟩ (.int .u64 (max s.base now))).drew) := ((Chg.refl (fun g => g = q) W).setCell (fun _ => rfl) _).drew
      have hm9 : HM ((W.setCell ⟨q, 9, none⟩ (.int .u64 (max s.base now))).drew) q tb c nb P S { s1 with base := max s.base now } b1 lk1 :=
        ⟨(hm.blk.put 9 _).drew, hm.tms.chg hk9 (fun e => hm.qtb e.symm), hm.ch.chg hk9 (fun e => hm.qc e.symm) (fun e => hm.qnb e.symm), hm.busy, hnd⟩
      have ho9 := ho.chg hk9 (fun g e e2 => by have := own_base ho g e; omega)
      have h59 := h5.chg hk9 (by omega)
      have hch9 := hI.chg.trans hk9 (fun _ _ e => .inl e)
      have hK9 : ((W.setCell ⟨q, 9, none⟩ (.int .u64 (max s.base now))).drew).heap[D]? = some (.deferred (some [])) := (Below.heap_setCell _ _ _ _ hDq).trans hK
      have hso := osort_any v1 m1 _ ho9.lat (by omega)
      have hv1 := ho.at
      obtain ⟨A1, c1, rfl, _⟩ := hv1
      have h59c := h59.cell
      gi_wp2_with fail
      refine wpIn_wide.2 (still_tail 7 (by kernel_rfl) (by kernel_rfl) ?_)
      simp only [List.take_succ_cons, List.take_zero, List.drop_succ_cons, List.drop_zero]
      repeat still_step
      refine wpStill_nil ?_
      go_wp2_with fail
      gi_wp2_with (refine ⟨trivial, ?_⟩; gi_at_call 43; refine (callsIn_wide.2 hso).mono ?_; rintro e W3 ⟨v3, rfl, ho3, hx3⟩)
      have hDl := (Array.getElem?_eq_some_iff.1 hK9).1
      have hK3 : W3.heap[D]? = some (.deferred (some [])) := (hx3.block D hDl).trans hK9
      have kk : CK W3 (W3.putObj D (.deferred none)) := ck_of (grownBy_putObj' _ D (.deferred none)) (fun r e => by cases e; exact ⟨_, hK3, rfl⟩)
      have hszW : w.heap.size ≤ ((W.setCell ⟨q, 9, none⟩ (.int .u64 (max s.base now))).drew).heap.size := hch9.size
      have ho4 : OwnT (W3.putObj D (.deferred none)) w.heap.size v3 (dueL m now true) := by
        rw [← hfin.2.2.1]
        exact (ho3.mono hszW).ck kk
      have hq4 : HQ (W3.putObj D (.deferred none)) q tb c nb P S (max s.base now) (lookL m s.base S now : Nat) (dueL m now false) := by
        rw [← hfin.2.2.2]
        exact ⟨{ s1 with base := max s.base now }, b1, (hm9.below hx3).ck kk, hfin.2.1, rfl⟩
      have hch3 : Chg (HS q tb nb) w W3 := hch9.trans (Chg.of_same hx3 (HS q tb nb)) (fun _ _ e => e)
      have hch4 : Chg (HS q tb nb) w (W3.putObj D (.deferred none)) := chg_ownFrom (β := Unit) (Nat.le_refl w.heap.size) () W3 _ (some D) hch3 (grownBy_putObj' _ D (.deferred none)) (fun r e => by cases e; exact ⟨Nat.le_trans hsw hD, _, hK3, rfl⟩)
      refine ⟨by simp, .inl ⟨_, _, rfl, run_takeDeferred hK3, ?_⟩⟩
      exact ⟨_, results_tmp rfl _ _ _, v3, rfl, ho4, hq4, hch4⟩
theorem hq_due (q tb c nb P S : Nat) (base lk now : Int) (m : List Timer) (w : World) (h : HQ w q tb c nb P S base lk m) (z : HSz P S) (hb : U64 base) (hw : U64 now) (hT : TabAt w) :
    Calls Tryz.prog 26 #[.pointer (some ⟨q, 0, none⟩), .int .u64 now] w fun e w' => ∃ v, e = .returned v ∧ OwnT w' w.heap.size v (dueL m now true) ∧ HQ w' q tb c nb P S (max base now) (lookL m base S now) (dueL m now false) ∧ Chg (HS q tb nb) w w' := by
  obtain ⟨s, b, hm, hp, rfl⟩ := h.ex
  exact (callsIn_wide (n := 3)).1 (hDue_in q tb c nb P S s b lk now m w hm hp z hb hw hT)
end Go.Proofs.YtckkfbepclogcaaGreatDoor
namespace Go.Proofs.YtckkfbepclogcaaGreatDoor
open Go.RowKit
def slotsN (bits : Int) : Nat := 4 * 2 ^ bits.toNat
/-- What is asked of the places and of the bits. -/
def NewOk (P bits : Int) : Prop := ¬ P < 0 ∧ ¬ 1024 < P ∧ ¬ bits < 1 ∧ ¬ 6 < bits
instance (P bits : Int) : Decidable (NewOk P bits) := inferInstanceAs (Decidable (¬ P < 0 ∧ ¬ 1024 < P ∧ ¬ bits < 1 ∧ ¬ 6 < bits))
def nilE (e : Int) : Value := .tuple #[.pointer none, .int .i64 e]
theorem hnew_bad (P bits base : Int) (w : World) (h : ¬ NewOk P bits) :
    Calls Tryz.prog 22 #[.int .i64 P, .int .i64 bits, .int .u64 base] w fun e w' => e = .returned (nilE 1) ∧ w = w' := by
  have hx : P < 0 ∨ (¬ P < 0 ∧ 1024 < P) ∨ (¬ P < 0 ∧ ¬ 1024 < P ∧ bits < 1) ∨ (¬ P < 0 ∧ ¬ 1024 < P ∧ ¬ bits < 1 ∧ 6 < bits) := by
    unfold NewOk at h
    omega
  clear h
  rcases hx with h | ⟨h1, h2⟩ | ⟨h1, h2, h3⟩ | ⟨h1, h2, h3, h4⟩
  · go_enter Tryz.func22, Tryz.ntmps22
    go_wp2
    refine bodyPost_ret (v := nilE 1) (by simp [results, Tryz.results22, go_sem, nilE]) rfl ⟨rfl, rfl⟩
  · go_enter Tryz.func22, Tryz.ntmps22
    go_wp2
    refine bodyPost_ret (v := nilE 1) (by simp [results, Tryz.results22, go_sem, nilE]) rfl ⟨rfl, rfl⟩
  · go_enter Tryz.func22, Tryz.ntmps22
    go_wp2
    refine bodyPost_ret (v := nilE 1) (by simp [results, Tryz.results22, go_sem, nilE]) rfl ⟨rfl, rfl⟩
  · go_enter Tryz.func22, Tryz.ntmps22
    go_wp2
    refine bodyPost_ret (v := nilE 1) (by simp [results, Tryz.results22, go_sem, nilE]) rfl ⟨rfl, rfl⟩
set_option maxRecDepth 100000 in
set_option maxHeartbeats 1000000 in
theorem hnew_1 (P : Nat) (base : Int) (w : World) (hP : P ≤ 1024) :
    Calls Tryz.prog 22 #[.int .i64 P, .int .i64 1, .int .u64 base] w fun e w' => ∃ q tb c nb, e = .returned (.tuple #[.pointer (some ⟨q, 0, none⟩), .int .i64 0]) ∧ HQ w' q tb c nb P 8 base 0 [] ∧ Below w.heap.size w w' ∧ w.heap.size ≤ q ∧ w.heap.size ≤ tb ∧ w.heap.size ≤ c ∧ w.heap.size ≤ nb := by
  obtain ⟨i0, hi, hz0, hz1, hz2⟩ := info_parts info_timer
  have hcn : Calls Tryz.prog 34 #[.int .i64 P, .int .i64 (8 + 1)] w _ := cnew_ok P (8 + 1) w hP (by omega)
  have hP' : ¬ (P : Int) < 0 := by omega
  go_enter Tryz.func22, Tryz.ntmps22
  go_upto_region 7 with (go_at_call 34; refine hcn.mono ?_; rintro e w1 ⟨c, nb, rfl, hc, hn, hC, hb⟩)
  clear hcn
  have hsz := hb.size
  go_wp2_with (at_make; refine wpList_make_full _ rfl _ _ 29 rfl w.heap.size 37 i0 (.agg #[.int .u64 0, .int .u64 0, .int .i64 0]) 3 Tryz.underlying29 hi hz0 hz1 .i64 .i64 _ _ P rfl rfl rfl rfl (by rw [hz2]; omega) (by unfold maxLen; omega) hsz ?_)
  intro w2 hown hgr
  have hb2 := grown_below hgr
  have hT0 : Blk w2 w1.heap.size 37 (tmC P (fun _ => Timer.zero)) := by
    rw [← made_tms]
    exact made_blk hown
  have hC2 := hC.below hb2
  have hsz2 := hb2.size
  have hlt := hT0.lt
  clear hown hgr hi hz0 hz1 hz2 hC
  go_wp2
  refine bodyPost_ret (v := .tuple #[.pointer (some ⟨w2.heap.size, 0, none⟩), .int .i64 0]) (by simp [results, Tryz.results22, go_sem]) rfl ?_
  refine ⟨w2.heap.size, w1.heap.size, c, nb, rfl, ⟨HSt.new base (fun _ => Timer.zero), Bits.zero, ⟨?_, ?_, ?_, ?_, ?_⟩, ?_, rfl⟩, (hb.trans (Below.mono hb2 hsz)).alloc (by omega) _, by omega, by omega, hc, hn⟩
  · have : ((HSt.new base (fun _ => Timer.zero)).pend P).length = 0 := by simp [HSt.pend, HSt.on, HSt.new, pendL]
    rw [this]
    exact Blk.new _ _ _
  · exact hT0.alloc _
  · exact hC2.below ((Below.refl _ _).alloc (Nat.le_refl _) _)
  · exact (Busy.zero 8).congr fun k _ => rfl
  · exact HOk.new P _ _ base _
  · exact PRel.new P _
set_option maxRecDepth 100000 in
set_option maxHeartbeats 1000000 in
theorem hnew_2 (P : Nat) (base : Int) (w : World) (hP : P ≤ 1024) :
    Calls Tryz.prog 22 #[.int .i64 P, .int .i64 2, .int .u64 base] w fun e w' => ∃ q tb c nb, e = .returned (.tuple #[.pointer (some ⟨q, 0, none⟩), .int .i64 0]) ∧ HQ w' q tb c nb P 16 base 0 [] ∧ Below w.heap.size w w' ∧ w.heap.size ≤ q ∧ w.heap.size ≤ tb ∧ w.heap.size ≤ c ∧ w.heap.size ≤ nb := by
  obtain ⟨i0, hi, hz0, hz1, hz2⟩ := info_parts info_timer
  have hcn : Calls Tryz.prog 34 #[.int .i64 P, .int .i64 (16 + 1)] w _ := cnew_ok P (16 + 1) w hP (by omega)
  have hP' : ¬ (P : Int) < 0 := by omega
  go_enter Tryz.func22, Tryz.ntmps22
  go_upto_region 7 with (go_at_call 34; refine hcn.mono ?_; rintro e w1 ⟨c, nb, rfl, hc, hn, hC, hb⟩)
  clear hcn
  have hsz := hb.size
  go_wp2_with (at_make; refine wpList_make_full _ rfl _ _ 29 rfl w.heap.size 37 i0 (.agg #[.int .u64 0, .int .u64 0, .int .i64 0]) 3 Tryz.underlying29 hi hz0 hz1 .i64 .i64 _ _ P rfl rfl rfl rfl (by rw [hz2]; omega) (by unfold maxLen; omega) hsz ?_)
  intro w2 hown hgr
  have hb2 := grown_below hgr
  have hT0 : Blk w2 w1.heap.size 37 (tmC P (fun _ => Timer.zero)) := by
    rw [← made_tms]
    exact made_blk hown
  have hC2 := hC.below hb2
  have hsz2 := hb2.size
  have hlt := hT0.lt
  clear hown hgr hi hz0 hz1 hz2 hC
  go_wp2
  refine bodyPost_ret (v := .tuple #[.pointer (some ⟨w2.heap.size, 0, none⟩), .int .i64 0]) (by simp [results, Tryz.results22, go_sem]) rfl ?_
  refine ⟨w2.heap.size, w1.heap.size, c, nb, rfl, ⟨HSt.new base (fun _ => Timer.zero), Bits.zero, ⟨?_, ?_, ?_, ?_, ?_⟩, ?_, rfl⟩, (hb.trans (Below.mono hb2 hsz)).alloc (by omega) _, by omega, by omega, hc, hn⟩
  · have : ((HSt.new base (fun _ => Timer.zero)).pend P).length = 0 := by simp [HSt.pend, HSt.on, HSt.new, pendL]
    rw [this]
    exact Blk.new _ _ _
  · exact hT0.alloc _
  · exact hC2.below ((Below.refl _ _).alloc (Nat.le_refl _) _)
  · exact (Busy.zero 16).congr fun k _ => rfl
  · exact HOk.new P _ _ base _
  · exact PRel.new P _
set_option maxRecDepth 100000 in
set_option maxHeartbeats 1000000 in
theorem hnew_3 (P : Nat) (base : Int) (w : World) (hP : P ≤ 1024) :
    Calls Tryz.prog 22 #[.int .i64 P, .int .i64 3, .int .u64 base] w fun e w' => ∃ q tb c nb, e = .returned (.tuple #[.pointer (some ⟨q, 0, none⟩), .int .i64 0]) ∧ HQ w' q tb c nb P 32 base 0 [] ∧ Below w.heap.size w w' ∧ w.heap.size ≤ q ∧ w.heap.size ≤ tb ∧ w.heap.size ≤ c ∧ w.heap.size ≤ nb := by
  obtain ⟨i0, hi, hz0, hz1, hz2⟩ := info_parts info_timer
  have hcn : Calls Tryz.prog 34 #[.int .i64 P, .int .i64 (32 + 1)] w _ := cnew_ok P (32 + 1) w hP (by omega)
  have hP' : ¬ (P : Int) < 0 := by omega
  go_enter Tryz.func22, Tryz.ntmps22
  go_upto_region 7 with (go_at_call 34; refine hcn.mono ?_; rintro e w1 ⟨c, nb, rfl, hc, hn, hC, hb⟩)
  clear hcn
  have hsz := hb.size
  go_wp2_with (at_make; refine wpList_make_full _ rfl _ _ 29 rfl w.heap.size 37 i0 (.agg #[.int .u64 0, .int .u64 0, .int .i64 0]) 3 Tryz.underlying29 hi hz0 hz1 .i64 .i64 _ _ P rfl rfl rfl rfl (by rw [hz2]; omega) (by unfold maxLen; omega) hsz ?_)
  intro w2 hown hgr
  have hb2 := grown_below hgr
  have hT0 : Blk w2 w1.heap.size 37 (tmC P (fun _ => Timer.zero)) := by
    rw [← made_tms]
    exact made_blk hown
  have hC2 := hC.below hb2
  have hsz2 := hb2.size
  have hlt := hT0.lt
  clear hown hgr hi hz0 hz1 hz2 hC
  go_wp2
  refine bodyPost_ret (v := .tuple #[.pointer (some ⟨w2.heap.size, 0, none⟩), .int .i64 0]) (by simp [results, Tryz.results22, go_sem]) rfl ?_
  refine ⟨w2.heap.size, w1.heap.size, c, nb, rfl, ⟨HSt.new base (fun _ => Timer.zero), Bits.zero, ⟨?_, ?_, ?_, ?_, ?_⟩, ?_, rfl⟩, (hb.trans (Below.mono hb2 hsz)).alloc (by omega) _, by omega, by omega, hc, hn⟩
  · have : ((HSt.new base (fun _ => Timer.zero)).pend P).length = 0 := by simp [HSt.pend, HSt.on, HSt.new, pendL]
    rw [this]
    exact Blk.new _ _ _
  · exact hT0.alloc _
  · exact hC2.below ((Below.refl _ _).alloc (Nat.le_refl _) _)
  · exact (Busy.zero 32).congr fun k _ => rfl
  · exact HOk.new P _ _ base _
  · exact PRel.new P _
set_option maxRecDepth 100000 in
set_option maxHeartbeats 1000000 in
theorem hnew_4 (P : Nat) (base : Int) (w : World) (hP : P ≤ 1024) :
    Calls Tryz.prog 22 #[.int .i64 P, .int .i64 4, .int .u64 base] w fun e w' => ∃ q tb c nb, e = .returned (.tuple #[.pointer (some ⟨q, 0, none⟩), .int .i64 0]) ∧ HQ w' q tb c nb P 64 base 0 [] ∧ Below w.heap.size w w' ∧ w.heap.size ≤ q ∧ w.heap.size ≤ tb ∧ w.heap.size ≤ c ∧ w.heap.size ≤ nb := by
  obtain ⟨i0, hi, hz0, hz1, hz2⟩ := info_parts info_timer
  have hcn : Calls Tryz.prog 34 #[.int .i64 P, .int .i64 (64 + 1)] w _ := cnew_ok P (64 + 1) w hP (by omega)
  have hP' : ¬ (P : Int) < 0 := by omega
  go_enter Tryz.func22, Tryz.ntmps22
  go_upto_region 7 with (go_at_call 34; refine hcn.mono ?_; rintro e w1 ⟨c, nb, rfl, hc, hn, hC, hb⟩)
  clear hcn
  have hsz := hb.size
  go_wp2_with (at_make; refine wpList_make_full _ rfl _ _ 29 rfl w.heap.size 37 i0 (.agg #[.int .u64 0, .int .u64 0, .int .i64 0]) 3 Tryz.underlying29 hi hz0 hz1 .i64 .i64 _ _ P rfl rfl rfl rfl (by rw [hz2]; omega) (by unfold maxLen; omega) hsz ?_)
  intro w2 hown hgr
  have hb2 := grown_below hgr
  have hT0 : Blk w2 w1.heap.size 37 (tmC P (fun _ => Timer.zero)) := by
    rw [← made_tms]
    exact made_blk hown
  have hC2 := hC.below hb2
  have hsz2 := hb2.size
  have hlt := hT0.lt
  clear hown hgr hi hz0 hz1 hz2 hC
  go_wp2
  refine bodyPost_ret (v := .tuple #[.pointer (some ⟨w2.heap.size, 0, none⟩), .int .i64 0]) (by simp [results, Tryz.results22, go_sem]) rfl ?_
  refine ⟨w2.heap.size, w1.heap.size, c, nb, rfl, ⟨HSt.new base (fun _ => Timer.zero), Bits.zero, ⟨?_, ?_, ?_, ?_, ?_⟩, ?_, rfl⟩, (hb.trans (Below.mono hb2 hsz)).alloc (by omega) _, by omega, by omega, hc, hn⟩
  · have : ((HSt.new base (fun _ => Timer.zero)).pend P).length = 0 := by simp [HSt.pend, HSt.on, HSt.new, pendL]
    rw [this]
    exact Blk.new _ _ _
  · exact hT0.alloc _
  · exact hC2.below ((Below.refl _ _).alloc (Nat.le_refl _) _)
  · exact (Busy.zero 64).congr fun k _ => rfl
  · exact HOk.new P _ _ base _
  · exact PRel.new P _
set_option maxRecDepth 100000 in
set_option maxHeartbeats 1000000 in
theorem hnew_5 (P : Nat) (base : Int) (w : World) (hP : P ≤ 1024) :
    Calls Tryz.prog 22 #[.int .i64 P, .int .i64 5, .int .u64 base] w fun e w' => ∃ q tb c nb, e = .returned (.tuple #[.pointer (some ⟨q, 0, none⟩), .int .i64 0]) ∧ HQ w' q tb c nb P 128 base 0 [] ∧ Below w.heap.size w w' ∧ w.heap.size ≤ q ∧ w.heap.size ≤ tb ∧ w.heap.size ≤ c ∧ w.heap.size ≤ nb := by
  obtain ⟨i0, hi, hz0, hz1, hz2⟩ := info_parts info_timer
  have hcn : Calls Tryz.prog 34 #[.int .i64 P, .int .i64 (128 + 1)] w _ := cnew_ok P (128 + 1) w hP (by omega)
  have hP' : ¬ (P : Int) < 0 := by omega
  go_enter Tryz.func22, Tryz.ntmps22
  go_upto_region 7 with (go_at_call 34; refine hcn.mono ?_; rintro e w1 ⟨c, nb, rfl, hc, hn, hC, hb⟩)
  clear hcn
  have hsz := hb.size
  go_wp2_with (at_make; refine wpList_make_full _ rfl _ _ 29 rfl w.heap.size 37 i0 (.agg #[.int .u64 0, .int .u64 0, .int .i64 0]) 3 Tryz.underlying29 hi hz0 hz1 .i64 .i64 _ _ P rfl rfl rfl rfl (by rw [hz2]; omega) (by unfold maxLen; omega) hsz ?_)
  intro w2 hown hgr
  have hb2 := grown_below hgr
  have hT0 : Blk w2 w1.heap.size 37 (tmC P (fun _ => Timer.zero)) := by
    rw [← made_tms]
    exact made_blk hown
  have hC2 := hC.below hb2
  have hsz2 := hb2.size
  have hlt := hT0.lt
  clear hown hgr hi hz0 hz1 hz2 hC
  go_wp2
  refine bodyPost_ret (v := .tuple #[.pointer (some ⟨w2.heap.size, 0, none⟩), .int .i64 0]) (by simp [results, Tryz.results22, go_sem]) rfl ?_
  refine ⟨w2.heap.size, w1.heap.size, c, nb, rfl, ⟨HSt.new base (fun _ => Timer.zero), Bits.zero, ⟨?_, ?_, ?_, ?_, ?_⟩, ?_, rfl⟩, (hb.trans (Below.mono hb2 hsz)).alloc (by omega) _, by omega, by omega, hc, hn⟩
  · have : ((HSt.new base (fun _ => Timer.zero)).pend P).length = 0 := by simp [HSt.pend, HSt.on, HSt.new, pendL]
    rw [this]
    exact Blk.new _ _ _
  · exact hT0.alloc _
  · exact hC2.below ((Below.refl _ _).alloc (Nat.le_refl _) _)
  · exact (Busy.zero 128).congr fun k _ => rfl
  · exact HOk.new P _ _ base _
  · exact PRel.new P _
set_option maxRecDepth 100000 in
set_option maxHeartbeats 1000000 in
theorem hnew_6 (P : Nat) (base : Int) (w : World) (hP : P ≤ 1024) :
    Calls Tryz.prog 22 #[.int .i64 P, .int .i64 6, .int .u64 base] w fun e w' => ∃ q tb c nb, e = .returned (.tuple #[.pointer (some ⟨q, 0, none⟩), .int .i64 0]) ∧ HQ w' q tb c nb P 256 base 0 [] ∧ Below w.heap.size w w' ∧ w.heap.size ≤ q ∧ w.heap.size ≤ tb ∧ w.heap.size ≤ c ∧ w.heap.size ≤ nb := by
  obtain ⟨i0, hi, hz0, hz1, hz2⟩ := info_parts info_timer
  have hcn : Calls Tryz.prog 34 #[.int .i64 P, .int .i64 (256 + 1)] w _ := cnew_ok P (256 + 1) w hP (by omega)
  have hP' : ¬ (P : Int) < 0 := by omega
  go_enter Tryz.func22, Tryz.ntmps22
  go_upto_region 7 with (go_at_call 34; refine hcn.mono ?_; rintro e w1 ⟨c, nb, rfl, hc, hn, hC, hb⟩)
  clear hcn
  have hsz := hb.size
  go_wp2_with (at_make; refine wpList_make_full _ rfl _ _ 29 rfl w.heap.size 37 i0 (.agg #[.int .u64 0, .int .u64 0, .int .i64 0]) 3 Tryz.underlying29 hi hz0 hz1 .i64 .i64 _ _ P rfl rfl rfl rfl (by rw [hz2]; omega) (by unfold maxLen; omega) hsz ?_)
  intro w2 hown hgr
  have hb2 := grown_below hgr
  have hT0 : Blk w2 w1.heap.size 37 (tmC P (fun _ => Timer.zero)) := by
    rw [← made_tms]
    exact made_blk hown
  have hC2 := hC.below hb2
  have hsz2 := hb2.size
  have hlt := hT0.lt
  clear hown hgr hi hz0 hz1 hz2 hC
  go_wp2
  refine bodyPost_ret (v := .tuple #[.pointer (some ⟨w2.heap.size, 0, none⟩), .int .i64 0]) (by simp [results, Tryz.results22, go_sem]) rfl ?_
  refine ⟨w2.heap.size, w1.heap.size, c, nb, rfl, ⟨HSt.new base (fun _ => Timer.zero), Bits.zero, ⟨?_, ?_, ?_, ?_, ?_⟩, ?_, rfl⟩, (hb.trans (Below.mono hb2 hsz)).alloc (by omega) _, by omega, by omega, hc, hn⟩
  · have : ((HSt.new base (fun _ => Timer.zero)).pend P).length = 0 := by simp [HSt.pend, HSt.on, HSt.new, pendL]
    rw [this]
    exact Blk.new _ _ _
  · exact hT0.alloc _
  · exact hC2.below ((Below.refl _ _).alloc (Nat.le_refl _) _)
  · exact (Busy.zero 256).congr fun k _ => rfl
  · exact HOk.new P _ _ base _
  · exact PRel.new P _
theorem slotsN_ok {P bits : Int} (h : NewOk P bits) : HSz P.toNat (slotsN bits) := by
  obtain ⟨h1, h2, h3, h4⟩ := h
  have hb : bits = 1 ∨ bits = 2 ∨ bits = 3 ∨ bits = 4 ∨ bits = 5 ∨ bits = 6 := by omega
  rcases hb with rfl | rfl | rfl | rfl | rfl | rfl <;> exact ⟨by omega, by decide, by decide⟩
theorem hnew_ok (P bits base : Int) (w : World) (h : NewOk P bits) :
    Calls Tryz.prog 22 #[.int .i64 P, .int .i64 bits, .int .u64 base] w fun e w' => ∃ q tb c nb, e = .returned (.tuple #[.pointer (some ⟨q, 0, none⟩), .int .i64 0]) ∧ HQ w' q tb c nb P.toNat (slotsN bits) base 0 [] ∧ Below w.heap.size w w' ∧ w.heap.size ≤ q ∧ w.heap.size ≤ tb ∧ w.heap.size ≤ c ∧ w.heap.size ≤ nb := by
  obtain ⟨h1, h2, h3, h4⟩ := h
  have hb : bits = 1 ∨ bits = 2 ∨ bits = 3 ∨ bits = 4 ∨ bits = 5 ∨ bits = 6 := by omega
  obtain ⟨n, rfl⟩ := Int.eq_ofNat_of_zero_le (show 0 ≤ P by omega)
  rcases hb with rfl | rfl | rfl | rfl | rfl | rfl
  · exact hnew_1 n base w (by omega)
  · exact hnew_2 n base w (by omega)
  · exact hnew_3 n base w (by omega)
  · exact hnew_4 n base w (by omega)
  · exact hnew_5 n base w (by omega)
  · exact hnew_6 n base w (by omega)
end Go.Proofs.YtckkfbepclogcaaGreatDoor
namespace Go.Proofs.YtckkfbepclogcaaGreatDoor
open Go.RowKit
def wV (P : Int) (v : Value) (bits base lk : Int) : Value := .agg #[.int .i64 P, v, .int .i64 bits, .int .u64 base, .int .i64 lk]
end Go.Proofs.YtckkfbepclogcaaGreatDoor
namespace Go.Proofs.YtckkfbepclogcaaGreatDoor
open Go.RowKit
def wE (P : Int) (v : Value) (bits base lk e : Int) : Value := .tuple #[wV P v bits base lk, .int .i64 e]
/-- Five cells of a block are written. -/
theorem Blk.put5 {w : World} {g : Nat} {t : TypeId} {a b c d e : Value} (h : Blk w g t #[a, b, c, d, e]) (v0 v1 v2 v3 v4 : Value) :
    Blk (((((w.setCell ⟨g, 0, none⟩ v0).setCell ⟨g, 1, none⟩ v1).setCell ⟨g, 2, none⟩ v2).setCell ⟨g, 3, none⟩ v3).setCell ⟨g, 4, none⟩ v4) g t #[v0, v1, v2, v3, v4] := by
  have := ((((h.put 0 v0).put 1 v1).put 2 v2).put 3 v3).put 4 v4
  simpa using this
theorem below_put5 {w w' : World} {n g : Nat} (h : Below n w w') (hg : n ≤ g) (v0 v1 v2 v3 v4 : Value) :
    Below n w (((((w'.setCell ⟨g, 0, none⟩ v0).setCell ⟨g, 1, none⟩ v1).setCell ⟨g, 2, none⟩ v2).setCell ⟨g, 3, none⟩ v3).setCell ⟨g, 4, none⟩ v4) :=
  ((((h.setCell hg v0).setCell hg v1).setCell hg v2).setCell hg v3).setCell hg v4
set_option maxRecDepth 100000 in
theorem wnew_bad (P bits base : Int) (w : World) (h : ¬ NewOk P bits) :
    Calls Tryz.prog 7 #[.int .i64 P, .int .i64 bits, .int .u64 base] w fun e w' => e = .returned (wE 0 (.slice none 0 0) 0 0 0 1) ∧ Below w.heap.size w w' := by
  have hb0 : ∀ o, Below w.heap.size w (w.alloc o) := fun o => alloc_kept' w o
  by_cases hP : P < 0 ∨ (¬ P < 0 ∧ 1024 < P)
  · have hn := fun o => rnew_bad P (w.alloc o) hP
    clear h hP
    go_enter Tryz.func7, Tryz.ntmps7
    go_wp2_with fail
    refine (hn _).mono ?_
    rintro e w1 ⟨rfl, hb1⟩
    have hb2 := (hb0 _).trans (Below.mono hb1 (hb0 (.cells #[.int .i64 0, .slice none 0 0, .int .i64 0, .int .u64 0, .int .i64 0] 33)).size)
    have q0 := (Blk.new w 33 #[.int .i64 0, .slice none 0 0, .int .i64 0, .int .u64 0, .int .i64 0]).below hb1 (by simp)
    have HB := Lib.hid hb2
    have HQ0 := Lib.hid q0
    have hc := q0.cell
    have hz := q0.frozen
    have hl := q0.lt
    clear hb1 hb2 q0 hn hb0
    unfold qE qV
    go_wp2_with fail
    have q1 := HQ0.out.put5 (.int .i64 0) (.slice none 0 0) (.int .i64 0) (.int .u64 0) (.int .i64 0)
    have hc1 := q1.cell
    refine bodyPost_ret (v := wE 0 (.slice none 0 0) 0 0 0 1) ?_ rfl ⟨rfl, (below_put5 HB.out (Nat.le_refl _) (.int .i64 0) (.slice none 0 0) (.int .i64 0) (.int .u64 0) (.int .i64 0)).alloc (by simp; omega) _⟩
    simp [results, Tryz.results7, go_sem, wE, wV, hc1, hl]
  · have hn := fun o => rnew_ok P (w.alloc o) (by omega)
    unfold NewOk at h
    by_cases h1 : bits < 1
    · clear h hP
      go_enter Tryz.func7, Tryz.ntmps7
      go_wp2_with fail
      refine (hn _).mono ?_
      rintro e w1 ⟨rfl, hb1⟩
      have hb2 := (hb0 _).trans (Below.mono hb1 (hb0 (.cells #[.int .i64 0, .slice none 0 0, .int .i64 0, .int .u64 0, .int .i64 0] 33)).size)
      have q0 := (Blk.new w 33 #[.int .i64 0, .slice none 0 0, .int .i64 0, .int .u64 0, .int .i64 0]).below hb1 (by simp)
      have HB := Lib.hid hb2
      have HQ0 := Lib.hid q0
      have hc := q0.cell
      have hz := q0.frozen
      have hl := q0.lt
      clear hb1 hb2 q0 hn hb0
      unfold qE qV
      go_wp2_with fail
      have q1 := HQ0.out.put5 (.int .i64 0) (.slice none 0 0) (.int .i64 0) (.int .u64 0) (.int .i64 0)
      have hc1 := q1.cell
      refine bodyPost_ret (v := wE 0 (.slice none 0 0) 0 0 0 1) ?_ rfl ⟨rfl, (below_put5 HB.out (Nat.le_refl _) (.int .i64 0) (.slice none 0 0) (.int .i64 0) (.int .u64 0) (.int .i64 0)).alloc (by simp; omega) _⟩
      simp [results, Tryz.results7, go_sem, wE, wV, hc1, hl]
    · have h2 : 6 < bits := by omega
      clear h hP
      go_enter Tryz.func7, Tryz.ntmps7
      go_wp2_with fail
      refine (hn _).mono ?_
      rintro e w1 ⟨rfl, hb1⟩
      have hb2 := (hb0 _).trans (Below.mono hb1 (hb0 (.cells #[.int .i64 0, .slice none 0 0, .int .i64 0, .int .u64 0, .int .i64 0] 33)).size)
      have q0 := (Blk.new w 33 #[.int .i64 0, .slice none 0 0, .int .i64 0, .int .u64 0, .int .i64 0]).below hb1 (by simp)
      have HB := Lib.hid hb2
      have HQ0 := Lib.hid q0
      have hc := q0.cell
      have hz := q0.frozen
      have hl := q0.lt
      clear hb1 hb2 q0 hn hb0
      unfold qE qV
      go_wp2_with fail
      have q1 := HQ0.out.put5 (.int .i64 0) (.slice none 0 0) (.int .i64 0) (.int .u64 0) (.int .i64 0)
      have hc1 := q1.cell
      refine bodyPost_ret (v := wE 0 (.slice none 0 0) 0 0 0 1) ?_ rfl ⟨rfl, (below_put5 HB.out (Nat.le_refl _) (.int .i64 0) (.slice none 0 0) (.int .i64 0) (.int .u64 0) (.int .i64 0)).alloc (by simp; omega) _⟩
      simp [results, Tryz.results7, go_sem, wE, wV, hc1, hl]
set_option maxRecDepth 100000 in
theorem wnew_ok (P bits base : Int) (w : World) (h : NewOk P bits) :
    Calls Tryz.prog 7 #[.int .i64 P, .int .i64 bits, .int .u64 base] w fun e w' => e = .returned (wE P (.slice none 0 0) bits base 0 0) ∧ Below w.heap.size w w' := by
  have hb0 : ∀ o, Below w.heap.size w (w.alloc o) := fun o => alloc_kept' w o
  obtain ⟨h1, h2, h3, h4⟩ := h
  have hn := fun o => rnew_ok P (w.alloc o) ⟨h1, h2⟩
  go_enter Tryz.func7, Tryz.ntmps7
  go_wp2_with fail
  refine (hn _).mono ?_
  rintro e w1 ⟨rfl, hb1⟩
  have hb2 := (hb0 _).trans (Below.mono hb1 (hb0 (.cells #[.int .i64 0, .slice none 0 0, .int .i64 0, .int .u64 0, .int .i64 0] 33)).size)
  have q0 := (Blk.new w 33 #[.int .i64 0, .slice none 0 0, .int .i64 0, .int .u64 0, .int .i64 0]).below hb1 (by simp)
  have HB := Lib.hid hb2
  have HQ0 := Lib.hid q0
  have hc := q0.cell
  have hz := q0.frozen
  have hl := q0.lt
  clear hb1 hb2 q0 hn hb0
  unfold qE qV
  go_wp2_with fail
  have q1 := HQ0.out.put5 (.int .i64 P) (.slice none 0 0) (.int .i64 bits) (.int .u64 base) (.int .i64 0)
  have hc1 := q1.cell
  refine bodyPost_ret (v := wE P (.slice none 0 0) bits base 0 0) ?_ rfl ⟨rfl, (below_put5 HB.out (Nat.le_refl _) (.int .i64 P) (.slice none 0 0) (.int .i64 bits) (.int .u64 base) (.int .i64 0)).alloc (by simp; omega) _⟩
  simp [results, Tryz.results7, go_sem, wE, wV, hc1, hl]
/-- The four boxes of Do. -/
structure BoxW (ws xs : Array Value) (w : World) (w' : World) : Prop where
  b0 : Blk w' w.heap.size 33 ws
  b1 : Blk w' (w.heap.size + 1) 43 xs
  b2 : Blk w' (w.heap.size + 1 + 1) 33 #[.int .i64 0, .slice none 0 0, .int .i64 0, .int .u64 0, .int .i64 0]
  b3 : Blk w' (w.heap.size + 1 + 1 + 1) 39 #[.int .i64 0, .int .u64 0, .int .u64 0, .int .i64 0, .slice none 0 0]
  below : Below w.heap.size w w'
theorem BoxW.new (ws xs : Array Value) (w : World) : BoxW ws xs w ((((w.alloc (.cells ws 33)).alloc (.cells xs 43)).alloc (.cells #[.int .i64 0, .slice none 0 0, .int .i64 0, .int .u64 0, .int .i64 0] 33)).alloc (.cells #[.int .i64 0, .int .u64 0, .int .u64 0, .int .i64 0, .slice none 0 0] 39)) :=
  ⟨(((Blk.new _ _ _).alloc _).alloc _).alloc _, ((alloc2_at _ _ _ _).alloc _).alloc _, (alloc3_at _ _ _ _ _).alloc _, alloc4_at _ _ _ _ _ _, four_new _ _ _ _ _⟩
theorem BoxW.kept {ws xs : Array Value} {w x y : World} (h : BoxW ws xs w x) (k : Below x.heap.size x y) : BoxW ws xs w y :=
  ⟨h.b0.below k h.b0.lt, h.b1.below k h.b1.lt, h.b2.below k h.b2.lt, h.b3.below k h.b3.lt, h.below.trans (Below.mono k h.below.size)⟩
theorem BoxW.alloc {ws xs : Array Value} {w x : World} (h : BoxW ws xs w x) (o : Obj) : BoxW ws xs w (x.alloc o) := h.kept (alloc_kept' x o)
/-- The three boxes behind the call. -/
structure BoxX (qs ts ns : Array Value) (g : Nat) (w' : World) : Prop where
  c0 : Blk w' g 31 qs
  c1 : Blk w' (g + 1) 39 ts
  c2 : Blk w' (g + 1 + 1) 33 ns
theorem BoxX.new (qs ts ns : Array Value) (w : World) : BoxX qs ts ns w.heap.size (((w.alloc (.cells qs 31)).alloc (.cells ts 39)).alloc (.cells ns 33)) :=
  ⟨((Blk.new _ _ _).alloc _).alloc _, (alloc2_at _ _ _ _).alloc _, alloc3_at _ _ _ _ _⟩
theorem LAt.form {w : World} {v : Value} {l : List Timer} (h : LAt w v l) : ∃ A n c, v = .slice A n c := by
  obtain ⟨A, c, rfl, _⟩ := h
  exact ⟨A, _, c, rfl⟩
theorem LAt.put5 {w : World} {v : Value} {l : List Timer} (h : LAt w v l) {g : Nat} (hg : ∀ k, blkOf v = some k → k ≠ g) (v0 v1 v2 v3 v4 : Value) :
    LAt (((((w.setCell ⟨g, 0, none⟩ v0).setCell ⟨g, 1, none⟩ v1).setCell ⟨g, 2, none⟩ v2).setCell ⟨g, 3, none⟩ v3).setCell ⟨g, 4, none⟩ v4) v l :=
  ((((h.setCell ⟨g, 0, none⟩ v0 hg).setCell ⟨g, 1, none⟩ v1 hg).setCell ⟨g, 2, none⟩ v2 hg).setCell ⟨g, 3, none⟩ v3 hg).setCell ⟨g, 4, none⟩ v4 hg
theorem Blk.far5 {w : World} {b : Nat} {t : TypeId} {cs : Array Value} (h : Blk w b t cs) {g : Nat} (hg : b ≠ g) (v0 v1 v2 v3 v4 : Value) :
    Blk (((((w.setCell ⟨g, 0, none⟩ v0).setCell ⟨g, 1, none⟩ v1).setCell ⟨g, 2, none⟩ v2).setCell ⟨g, 3, none⟩ v3).setCell ⟨g, 4, none⟩ v4) b t cs :=
  ((((h.far (p := ⟨g, 0, none⟩) hg v0).far (p := ⟨g, 1, none⟩) hg v1).far (p := ⟨g, 2, none⟩) hg v2).far (p := ⟨g, 3, none⟩) hg v3).far (p := ⟨g, 4, none⟩) hg v4
/-- What stands behind both stores. -/
structure FinW (w x W : World) (g2 g3 : Nat) (y0 y1 y2 y3 y4 z0 z1 z2 z3 z4 : Value) : Prop where
  b2 : Blk W g2 33 #[y0, y1, y2, y3, y4]
  b3 : Blk W g3 39 #[z0, z1, z2, z3, z4]
  below : Below w.heap.size w W
  keep : ∀ v l, LAt x v l → (∀ g, blkOf v = some g → g ≠ g2 ∧ g ≠ g3) → LAt W v l
theorem finW {w x : World} {g2 g3 : Nat} {o0 o1 o2 o3 o4 p0 p1 p2 p3 p4 : Value} (y0 y1 y2 y3 y4 z0 z1 z2 z3 z4 : Value) (h2 : Blk x g2 33 #[o0, o1, o2, o3, o4]) (h3 : Blk x g3 39 #[p0, p1, p2, p3, p4]) (hb : Below w.heap.size w x) (hne : g2 ≠ g3) (l2 : w.heap.size ≤ g2) (l3 : w.heap.size ≤ g3) :
    FinW w x ((((((((((x.setCell ⟨g2, 0, none⟩ y0).setCell ⟨g2, 1, none⟩ y1).setCell ⟨g2, 2, none⟩ y2).setCell ⟨g2, 3, none⟩ y3).setCell ⟨g2, 4, none⟩ y4).setCell ⟨g3, 0, none⟩ z0).setCell ⟨g3, 1, none⟩ z1).setCell ⟨g3, 2, none⟩ z2).setCell ⟨g3, 3, none⟩ z3).setCell ⟨g3, 4, none⟩ z4).drew g2 g3 y0 y1 y2 y3 y4 z0 z1 z2 z3 z4 ∧
    FinW w x ((((((((((x.setCell ⟨g3, 0, none⟩ z0).setCell ⟨g3, 1, none⟩ z1).setCell ⟨g3, 2, none⟩ z2).setCell ⟨g3, 3, none⟩ z3).setCell ⟨g3, 4, none⟩ z4).setCell ⟨g2, 0, none⟩ y0).setCell ⟨g2, 1, none⟩ y1).setCell ⟨g2, 2, none⟩ y2).setCell ⟨g2, 3, none⟩ y3).setCell ⟨g2, 4, none⟩ y4).drew g2 g3 y0 y1 y2 y3 y4 z0 z1 z2 z3 z4 :=
  ⟨⟨((h2.put5 y0 y1 y2 y3 y4).far5 hne z0 z1 z2 z3 z4).drew, ((h3.far5 hne.symm y0 y1 y2 y3 y4).put5 z0 z1 z2 z3 z4).drew, (below_put5 (below_put5 hb l2 y0 y1 y2 y3 y4) l3 z0 z1 z2 z3 z4).drew, fun _ _ h hg => ((h.put5 (fun k hk => (hg k hk).1) y0 y1 y2 y3 y4).put5 (fun k hk => (hg k hk).2) z0 z1 z2 z3 z4).on (Below.refl _ _).drew⟩,
   ⟨((h2.far5 hne z0 z1 z2 z3 z4).put5 y0 y1 y2 y3 y4).drew, ((h3.put5 z0 z1 z2 z3 z4).far5 hne.symm y0 y1 y2 y3 y4).drew, (below_put5 (below_put5 hb l3 z0 z1 z2 z3 z4) l2 y0 y1 y2 y3 y4).drew, fun _ _ h hg => ((h.put5 (fun k hk => (hg k hk).2) z0 z1 z2 z3 z4).put5 (fun k hk => (hg k hk).1) y0 y1 y2 y3 y4).on (Below.refl _ _).drew⟩⟩
def baseN (base : Int) (a : Act) : Int := if a.kind = 3 then max base a.now else base
def lookN (m : List Timer) (base : Int) (S : Nat) (lk : Int) (a : Act) : Int := if a.kind = 3 then (lookL m base S a.now : Nat) else lk
end Go.Proofs.YtckkfbepclogcaaGreatDoor
namespace Go.Proofs.YtckkfbepclogcaaGreatDoor
open Go.RowKit
theorem HQ.chg {w w' : World} {q tb c nb P S : Nat} {base lk : Int} {m : List Timer} {T : Nat → Prop} (h : HQ w q tb c nb P S base lk m) (k : Chg T w w') (h1 : ¬ T q) (h2 : ¬ T tb) (h3 : ¬ T c) (h4 : ¬ T nb) : HQ w' q tb c nb P S base lk m := by
  obtain ⟨s, b, a1, a2, a3⟩ := h.ex
  exact ⟨s, b, a1.chg k h1 h2 h3 h4, a2, a3⟩
theorem chg_put5 {w w' : World} {T : Nat → Prop} {g : Nat} (h : Chg T w w') (hg : g < w.heap.size → T g) (v0 v1 v2 v3 v4 : Value) :
    Chg T w (((((w'.setCell ⟨g, 0, none⟩ v0).setCell ⟨g, 1, none⟩ v1).setCell ⟨g, 2, none⟩ v2).setCell ⟨g, 3, none⟩ v3).setCell ⟨g, 4, none⟩ v4) :=
  ((((h.setCell (p := ⟨g, 0, none⟩) hg v0).setCell (p := ⟨g, 1, none⟩) hg v1).setCell (p := ⟨g, 2, none⟩) hg v2).setCell (p := ⟨g, 3, none⟩) hg v3).setCell (p := ⟨g, 4, none⟩) hg v4
/-- Behind the act: the told cells are written. -/
theorem do_fin {w w3 : World} {q tb c nb P S g : Nat} {base lk : Int} {m : List Timer} {o0 o1 o2 o3 o4 : Value} (h : HQ w3 q tb c nb P S base lk m) (k : Chg (HS q tb nb) w w3) (hq : q < w.heap.size) (ht : tb < w.heap.size) (hc : c < w.heap.size) (hn : nb < w.heap.size) (hg : w.heap.size ≤ g) (b : Blk w3 g 39 #[o0, o1, o2, o3, o4]) (v0 v1 v2 v3 v4 : Value) :
    ∀ W, W = (((((w3.setCell ⟨g, 0, none⟩ v0).setCell ⟨g, 1, none⟩ v1).setCell ⟨g, 2, none⟩ v2).setCell ⟨g, 3, none⟩ v3).setCell ⟨g, 4, none⟩ v4) →
      HQ W q tb c nb P S base lk m ∧ Chg (HS q tb nb) w W ∧ Blk W g 39 #[v0, v1, v2, v3, v4] := by
  rintro W rfl
  exact ⟨h.chg (T := fun x => x = g) (chg_put5 (Chg.refl (fun x => x = g) w3) (fun _ => rfl) v0 v1 v2 v3 v4) (by omega) (by omega) (by omega) (by omega), chg_put5 k (fun x => absurd x (by omega)) v0 v1 v2 v3 v4, b.put5 v0 v1 v2 v3 v4⟩
end Go.Proofs.YtckkfbepclogcaaGreatDoor
namespace Go.Proofs.YtckkfbepclogcaaGreatDoor
open Go.RowKit
def wkA : Timer := ⟨13, 0, 0⟩
def wkB : Timer := ⟨5, 0, 1⟩
def wkC : Timer := ⟨99, 0, 2⟩
def wkD : Timer := ⟨98, 0, 2⟩
def tv (t : Timer) : Value := .agg #[.int .u64 t.at_, .int .u64 t.seq, .int .i64 t.place]
theorem same_lat (v u : Value) (l m : List Timer) (w : World) (h : LAt w v l) (k : LAt w u m) (hl : l.length ≤ 1000000) (hm : m.length ≤ 1000000) :
    Calls Tryz.prog 20 #[v, u] w fun e w' => e = .returned (.bool (decide (l = m))) ∧ Below w.heap.size w w' := by
  obtain ⟨A, c, rfl, hT, _⟩ := h
  obtain ⟨C, d, rfl, kT, _⟩ := k
  exact same_any A C l m c d w hT kT hl hm
theorem same_refl (v u : Value) (l : List Timer) (w : World) (h : LAt w v l) (k : LAt w u l) (hl : l.length ≤ 1000000) :
    Calls Tryz.prog 20 #[v, u] w fun e w' => e = .returned (.bool true) ∧ Below w.heap.size w w' := by
  have := same_lat v u l l w h k hl hl
  rwa [decide_eq_true rfl] at this
theorem LAt.built (w : World) (l : List Timer) (h : l.length ≤ maxLen) (_ : 0 < l.length) : LAt (w.alloc (.cells (l.flatMap Timer.cells).toArray 37)) (.slice (some ⟨w.heap.size, 0, none⟩) l.length l.length) l := by
  have hB : Blk (w.alloc (.cells (l.flatMap Timer.cells).toArray 37)) w.heap.size 37 (l.flatMap Timer.cells).toArray := Blk.new _ _ _
  refine ⟨_, l.length, rfl, ?_, Nat.le_refl _, h, by simp, ?_⟩
  · intro i hi
    have e : ∀ j, j < 3 → (w.alloc (.cells (l.flatMap Timer.cells).toArray 37)).cell? ⟨w.heap.size, i * 3 + j, none⟩ = l[i].cells[j]? := fun j hj => by
      rw [hB.cell, List.getElem?_toArray]
      exact flat_idx l i hi j hj
    refine ⟨w.heap.size, 0, rfl, hB.lt, ?_, ?_, ?_⟩
    · simpa [Timer.cells] using e 0 (by omega)
    · simpa [Timer.cells] using e 1 (by omega)
    · simpa [Timer.cells] using e 2 (by omega)
  · intro g e
    simp only [Option.map_some, Option.some.injEq] at e
    subst e
    exact Lies.of hB
/-- The slice v holds the timers l, and lies above g. -/
structure LF (g : Nat) (w : World) (v : Value) (l : List Timer) : Prop where
  at_ : LAt w v l
  ge : ∀ k, blkOf v = some k → g ≤ k
theorem LF.built (g : Nat) (w : World) (l : List Timer) (h : l.length ≤ maxLen) (h0 : 0 < l.length) (hg : g ≤ w.heap.size) : LF g (w.alloc (.cells (l.flatMap Timer.cells).toArray 37)) (.slice (some ⟨w.heap.size, 0, none⟩) l.length l.length) l :=
  ⟨LAt.built w l h h0, fun k e => by simp [blkOf] at e; omega⟩
theorem OwnT.lf {w : World} {g : Nat} {v : Value} {l : List Timer} (h : OwnT w g v l) : LF g w v l := by
  refine ⟨h.lat, fun k e => ?_⟩
  obtain ⟨A, c, rfl, _, _, _, h4⟩ := h.at
  cases A with
  | none => simp [blkOf] at e
  | some a => exact (h4 k (by simpa [blkOf] using e)).1
theorem LF.mono {w : World} {g g' : Nat} {v : Value} {l : List Timer} (h : LF g w v l) (hg : g' ≤ g) : LF g' w v l := ⟨h.at_, fun k e => Nat.le_trans hg (h.ge k e)⟩
theorem LF.chg {w w' : World} {g : Nat} {v : Value} {l : List Timer} {T : Nat → Prop} (h : LF g w v l) (k : Chg T w w') (hT : ∀ i, T i → i < g) : LF g w' v l :=
  ⟨h.at_.far k.size fun j e => k.block j (h.at_.blk j e) fun t => by have := h.ge j e; have := hT j t; omega, h.ge⟩
/-- The example's timers, and all that was there. -/
structure WK (g q tb c nb : Nat) (w w' : World) : Prop where
  a : Blk w' g 37 #[.int .u64 13, .int .u64 0, .int .i64 0]
  b : Blk w' (g + 1) 37 #[.int .u64 5, .int .u64 0, .int .i64 1]
  d : Blk w' (g + 1 + 1) 37 #[.int .u64 99, .int .u64 0, .int .i64 2]
  lq : w.heap.size ≤ q ∧ q < g
  lt : w.heap.size ≤ tb ∧ tb < g
  lc : w.heap.size ≤ c ∧ c < g
  ln : w.heap.size ≤ nb ∧ nb < g
  below : Below w.heap.size w w'
theorem below_chg {n : Nat} {w x y : World} {T : Nat → Prop} (h : Below n w x) (hn : n ≤ w.heap.size) (k : Chg T x y) (hT : ∀ i, T i → n ≤ i) : Below n w y :=
  ⟨k.os.trans h.os, k.tape.trans h.tape, k.output.trans h.output, Nat.le_trans h.size k.size, fun i hi => (k.block i (by have := h.size; omega) (fun e => by have := hT i e; omega)).trans (h.block i hi)⟩
theorem WK.chg {g q tb c nb : Nat} {w x y : World} (h : WK g q tb c nb w x) (k : Chg (HS q tb nb) x y) : WK g q tb c nb w y := by
  obtain ⟨a1, a2⟩ := h.lq
  obtain ⟨b1, b2⟩ := h.lt
  obtain ⟨c1, c2⟩ := h.ln
  have hn : ∀ i, g ≤ i → ¬ HS q tb nb i := fun i hi e => by unfold HS at e; omega
  refine ⟨h.a.chg k (hn _ (Nat.le_refl _)), h.b.chg k (hn _ (by omega)), h.d.chg k (hn _ (by omega)), h.lq, h.lt, h.lc, h.ln, below_chg h.below (Nat.le_refl _) k (fun i e => by unfold HS at e; omega)⟩
theorem WK.kept {g q tb c nb : Nat} {w x y : World} (h : WK g q tb c nb w x) (k : Below x.heap.size x y) : WK g q tb c nb w y := h.chg (Chg.of_same k _)
theorem WK.new {q tb c nb : Nat} {w w1 : World} (hb : Below w.heap.size w w1) (h1 : w.heap.size ≤ q ∧ q < w1.heap.size) (h2 : w.heap.size ≤ tb ∧ tb < w1.heap.size) (h3 : w.heap.size ≤ c ∧ c < w1.heap.size) (h4 : w.heap.size ≤ nb ∧ nb < w1.heap.size) :
    WK w1.heap.size q tb c nb w (((w1.alloc (.cells #[.int .u64 13, .int .u64 0, .int .i64 0] 37)).alloc (.cells #[.int .u64 5, .int .u64 0, .int .i64 1] 37)).alloc (.cells #[.int .u64 99, .int .u64 0, .int .i64 2] 37)) :=
  ⟨((Blk.new _ _ _).alloc _).alloc _, (alloc2_at _ _ _ _).alloc _, alloc3_at _ _ _ _ _, h1, h2, h3, h4, ((hb.alloc hb.size _).alloc (by have := hb.size; simp; omega) _).alloc (by have := hb.size; simp; omega) _⟩
/-! The three that are put in. -/
def S5 (g q tb c nb : Nat) (w0 : World) (p : Nat → Bool) (w : World) : Prop :=
  WK g q tb c nb w0 w ∧ (p 8 = true → p 5 = true) ∧ (p 5 = true → p 2 = true) ∧
    (p 2 = false → HQ w q tb c nb 3 8 0 0 []) ∧ (p 2 = true → p 5 = false → HQ w q tb c nb 3 8 0 0 [wkA]) ∧ (p 5 = true → p 8 = false → HQ w q tb c nb 3 8 0 0 [wkB, wkA]) ∧ (p 8 = true → HQ w q tb c nb 3 8 0 0 [wkB, wkA, wkC])
def F5 (q : Nat) (j : Nat) (v : Value) (_ : World) : Prop := match j with
  | 0 => v = .pointer (some ⟨q, 0, none⟩)
  | 1 => v = tv wkA
  | 2 => v = .int .i64 0
  | 3 => v = .pointer (some ⟨q, 0, none⟩)
  | 4 => v = tv wkB
  | 5 => v = .int .i64 0
  | 6 => v = .pointer (some ⟨q, 0, none⟩)
  | 7 => v = tv wkC
  | _ => v = .int .i64 0
theorem S5.quiet {g q tb c nb : Nat} {w0 w w' : World} {p : Nat → Bool} (i : Nat) (h : S5 g q tb c nb w0 p w) (k : Below w.heap.size w w') (h2 : i ≠ 2) (h5 : i ≠ 5) (h8 : i ≠ 8) : S5 g q tb c nb w0 (also p i) w' := by
  have e2 : also p i 2 = p 2 := by unfold also; rw [decide_eq_false (fun e => h2 e.symm), Bool.or_false]
  have e5 : also p i 5 = p 5 := by unfold also; rw [decide_eq_false (fun e => h5 e.symm), Bool.or_false]
  have e8 : also p i 8 = p 8 := by unfold also; rw [decide_eq_false (fun e => h8 e.symm), Bool.or_false]
  unfold S5
  rw [e2, e5, e8]
  obtain ⟨a, b, c, d1, d2, d3, d4⟩ := h
  exact ⟨a.kept k, b, c, fun x => (d1 x).below k, fun x y => (d2 x y).below k, fun x y => (d3 x y).below k, fun x => (d4 x).below k⟩
theorem also_at (p : Nat → Bool) (i : Nat) : also p i i = true := by simp [also]
theorem also_ne (p : Nat → Bool) {i j : Nat} (h : j ≠ i) : also p i j = p j := by unfold also; rw [decide_eq_false h, Bool.or_false]
theorem wk_i1 : insC (3 : Nat) [] wkA = 0 ∧ insL (3 : Nat) [] wkA = [wkA] := by decide
theorem wk_i2 : insC (3 : Nat) [wkA] wkB = 0 ∧ insL (3 : Nat) [wkA] wkB = [wkB, wkA] := by decide
theorem wk_i3 : insC (3 : Nat) [wkB, wkA] wkC = 0 ∧ insL (3 : Nat) [wkB, wkA] wkC = [wkB, wkA, wkC] := by decide
theorem u64_wk : U64 0 ∧ U64 wkA.at_ ∧ U64 wkB.at_ ∧ U64 wkC.at_ ∧ U64 wkD.at_ := by unfold U64; decide
theorem S5.call2 {g q tb c nb : Nat} {w0 w : World} {p : Nat → Bool} (z : HSz 3 8) (h : S5 g q tb c nb w0 p w) (hp : p 2 = false) :
    Calls Tryz.prog 23 #[.pointer (some ⟨q, 0, none⟩), tv wkA] w fun e w' => ∃ v, e = .returned v ∧ v = .int .i64 0 ∧ w.heap.size ≤ w'.heap.size ∧ (false = true → Frsh v w w') ∧ S5 g q tb c nb w0 (also p 2) w' := by
  obtain ⟨a, h8, h5, d1, d2, d3, d4⟩ := h
  have p5 : p 5 = false := by cases h : p 5 with | false => rfl | true => rw [h5 h] at hp; cases hp
  have p8 : p 8 = false := by cases h : p 8 with | false => rfl | true => rw [h8 h] at p5; cases p5
  refine (hq_ins q tb c nb 3 8 0 0 [] wkA w (d1 hp) z u64_wk.1 u64_wk.2.1).mono ?_
  rintro e w' ⟨rfl, hq, hk⟩
  rw [wk_i1.1, wk_i1.2] at *
  refine ⟨_, rfl, rfl, hk.size, (fun h => by cases h), a.chg hk, ?_⟩
  rw [also_at, also_ne p (show 5 ≠ 2 by decide), also_ne p (show 8 ≠ 2 by decide), p5, p8]
  exact ⟨by simp, by simp, by simp, fun _ _ => hq, by simp, by simp⟩
theorem S5.call5 {g q tb c nb : Nat} {w0 w : World} {p : Nat → Bool} (z : HSz 3 8) (h : S5 g q tb c nb w0 p w) (hp : p 5 = false) (p2 : p 2 = true) :
    Calls Tryz.prog 23 #[.pointer (some ⟨q, 0, none⟩), tv wkB] w fun e w' => ∃ v, e = .returned v ∧ v = .int .i64 0 ∧ w.heap.size ≤ w'.heap.size ∧ (false = true → Frsh v w w') ∧ S5 g q tb c nb w0 (also p 5) w' := by
  obtain ⟨a, h8, h5, d1, d2, d3, d4⟩ := h
  have p8 : p 8 = false := by cases h : p 8 with | false => rfl | true => rw [h8 h] at hp; cases hp
  refine (hq_ins q tb c nb 3 8 0 0 [wkA] wkB w (d2 p2 hp) z u64_wk.1 u64_wk.2.2.1).mono ?_
  rintro e w' ⟨rfl, hq, hk⟩
  rw [wk_i2.1, wk_i2.2] at *
  refine ⟨_, rfl, rfl, hk.size, (fun h => by cases h), a.chg hk, ?_⟩
  rw [also_at, also_ne p (show 2 ≠ 5 by decide), also_ne p (show 8 ≠ 5 by decide), p2, p8]
  exact ⟨by simp, by simp, by simp, by simp, fun _ _ => hq, by simp⟩
theorem S5.call8 {g q tb c nb : Nat} {w0 w : World} {p : Nat → Bool} (z : HSz 3 8) (h : S5 g q tb c nb w0 p w) (hp : p 8 = false) (p5 : p 5 = true) :
    Calls Tryz.prog 23 #[.pointer (some ⟨q, 0, none⟩), tv wkC] w fun e w' => ∃ v, e = .returned v ∧ v = .int .i64 0 ∧ w.heap.size ≤ w'.heap.size ∧ (false = true → Frsh v w w') ∧ S5 g q tb c nb w0 (also p 8) w' := by
  obtain ⟨a, h8, h5, d1, d2, d3, d4⟩ := h
  have p2 := h5 p5
  refine (hq_ins q tb c nb 3 8 0 0 [wkB, wkA] wkC w (d3 p5 hp) z u64_wk.1 u64_wk.2.2.2.1).mono ?_
  rintro e w' ⟨rfl, hq, hk⟩
  rw [wk_i3.1, wk_i3.2] at *
  refine ⟨_, rfl, rfl, hk.size, (fun h => by cases h), a.chg hk, ?_⟩
  rw [also_at, also_ne p (show 2 ≠ 8 by decide), also_ne p (show 5 ≠ 8 by decide), p2, p5]
  exact ⟨by simp, by simp, by simp, by simp, by simp, fun _ => hq⟩
/-! The facts of the regions behind. -/
def F8 (g q : Nat) (j : Nat) (v : Value) (w : World) : Prop := match j with
  | 0 => v = .pointer (some ⟨q, 0, none⟩)
  | 1 => v = .pointer (some ⟨q, 0, none⟩)
  | 2 => v = .pointer (some ⟨q, 0, none⟩)
  | 3 => LF g w v [wkB, wkA, wkD]
  | 4 => v = tv wkB
  | 5 => v = tv wkA
  | 6 => v = tv wkD
  | _ => LF g w v [wkB, wkA, wkD]
theorem F8.keep {g q : Nat} (i j : Nat) (v : Value) (w w' : World) (_ : j ≠ i) (h : F8 g q j v w) (r : Below w.heap.size w w') : F8 g q j v w' := by
  unfold F8 at h ⊢
  split at h
  · exact h
  · exact h
  · exact h
  · exact h.chg (Chg.of_same r (fun _ => False)) (fun _ e => e.elim)
  · exact h
  · exact h
  · exact h
  · exact h.chg (Chg.of_same r (fun _ => False)) (fun _ e => e.elim)
theorem hs_lt {g q tb nb : Nat} (h1 : q < g) (h2 : tb < g) (h3 : nb < g) : ∀ i, HS q tb nb i → i < g := fun i e => by unfold HS at e; omega
structure S8 (g q tb c nb : Nat) (w0 : World) (bx : World → Prop) (_p : Nat → Bool) (w : World) : Prop where
  k : WK g q tb c nb w0 w
  q : HQ w q tb c nb 3 8 0 0 [wkB, wkA, wkD]
  size : g ≤ w.heap.size
  bx : bx w
theorem S8.keep {g q tb c nb : Nat} {w0 w w' : World} {bx : World → Prop} {p p' : Nat → Bool} (hbx : ∀ x y, bx x → Chg (HS q tb nb) x y → bx y) (h : S8 g q tb c nb w0 bx p w) (r : Below w.heap.size w w') : S8 g q tb c nb w0 bx p' w' := ⟨h.k.kept r, h.q.below r, Nat.le_trans h.size r.size, hbx _ _ h.bx (Chg.of_same r _)⟩
theorem bx_one {g q tb nb b : Nat} {cs : Array Value} (h1 : q < g) (h2 : tb < g) (h3 : nb < g) (hb : g ≤ b) : ∀ x y, Blk x b 37 cs → Chg (HS q tb nb) x y → Blk y b 37 cs := fun _ _ h k => h.chg k fun e => by have := hs_lt h1 h2 h3 _ e; omega
theorem bx_and {q tb nb : Nat} {p r : World → Prop} (h1 : ∀ x y, p x → Chg (HS q tb nb) x y → p y) (h2 : ∀ x y, r x → Chg (HS q tb nb) x y → r y) : ∀ x y, (p x ∧ r x) → Chg (HS q tb nb) x y → (p y ∧ r y) := fun x y h k => ⟨h1 x y h.1 k, h2 x y h.2 k⟩
/-- A region that takes those that are due, and makes a list of one to hold against them. -/
def FE (g q : Nat) (t : Timer) (j : Nat) (v : Value) (w : World) : Prop := match j with
  | 0 => v = .pointer (some ⟨q, 0, none⟩)
  | 1 => LF g w v [t]
  | 2 => v = tv t
  | _ => LF g w v [t]
theorem FE.keep {g q tb nb : Nat} {t : Timer} (h1 : q < g) (h2 : tb < g) (h3 : nb < g) (i j : Nat) (v : Value) (w w' : World) (_ : j ≠ i) (h : FE g q t j v w) (r : Chg (HS q tb nb) w w') : FE g q t j v w' := by
  unfold FE at h ⊢
  split at h
  · exact h
  · exact h.chg r (hs_lt h1 h2 h3)
  · exact h
  · exact h.chg r (hs_lt h1 h2 h3)
structure SE (g q tb c nb : Nat) (w0 : World) (b0 l0 : Int) (m0 : List Timer) (b1 l1 : Int) (m1 : List Timer) (bx : World → Prop) (p : Nat → Bool) (w : World) : Prop where
  k : WK g q tb c nb w0 w
  q0 : p 1 = false → HQ w q tb c nb 3 8 b0 l0 m0
  q1 : p 1 = true → HQ w q tb c nb 3 8 b1 l1 m1
  size : g ≤ w.heap.size
  bx : bx w
  tab : TabAt w
theorem glob_hs {g q tb c nb : Nat} {w0 w : World} (k : WK g q tb c nb w0 w) (hT : TabAt w0) : ¬ HS q tb nb 0 := fun e => by
  have := glob_lt hT
  obtain ⟨a1, a2⟩ := k.lq
  obtain ⟨b1, b2⟩ := k.lt
  obtain ⟨c1, c2⟩ := k.ln
  unfold HS at e
  omega
theorem SE.quiet {g q tb c nb : Nat} {w0 w w' : World} {b0 l0 : Int} {m0 : List Timer} {b1 l1 : Int} {m1 : List Timer} {bx : World → Prop} {p : Nat → Bool} (hbx : ∀ x y, bx x → Chg (HS q tb nb) x y → bx y) (i : Nat) (h : SE g q tb c nb w0 b0 l0 m0 b1 l1 m1 bx p w) (r : Below w.heap.size w w') (hi : i ≠ 1) : SE g q tb c nb w0 b0 l0 m0 b1 l1 m1 bx (also p i) w' := by
  have e : also p i 1 = p 1 := also_ne p (fun x => hi x.symm)
  exact ⟨h.k.kept r, fun x => (h.q0 (e ▸ x)).below r, fun x => (h.q1 (e ▸ x)).below r, Nat.le_trans h.size r.size, hbx _ _ h.bx (Chg.of_same r _), h.tab.below r (glob_lt h.tab)⟩
theorem SE.due {g q tb c nb : Nat} {w0 w : World} {b0 l0 : Int} {m0 : List Timer} {b1 l1 : Int} {m1 : List Timer} {bx : World → Prop} {p : Nat → Bool} {now : Int} {t : Timer} (hT : TabAt w0) (hbx : ∀ x y, bx x → Chg (HS q tb nb) x y → bx y) (z : HSz 3 8) (h : SE g q tb c nb w0 b0 l0 m0 b1 l1 m1 bx p w) (hp : p 1 = false) (ub : U64 b0) (un : U64 now)
    (e1 : dueL m0 now true = [t]) (e2 : dueL m0 now false = m1) (e3 : max b0 now = b1) (e4 : ((lookL m0 b0 8 now : Nat) : Int) = l1) :
    Calls Tryz.prog 26 #[.pointer (some ⟨q, 0, none⟩), .int .u64 now] w fun e w' => ∃ v, e = .returned v ∧ LF g w' v [t] ∧ Chg (HS q tb nb) w w' ∧ (false = true → Frsh v w w') ∧ SE g q tb c nb w0 b0 l0 m0 b1 l1 m1 bx (also p 1) w' := by
  refine (hq_due q tb c nb 3 8 b0 l0 now m0 w (h.q0 hp) z ub un h.tab).mono ?_
  rintro e w' ⟨v, rfl, ho, hq, hk⟩
  rw [e1] at ho
  rw [e2, e3, e4] at hq
  refine ⟨v, rfl, ho.lf.mono h.size, hk, (fun h => by cases h), h.k.chg hk, fun x => ?_, fun _ => hq, Nat.le_trans h.size hk.size, hbx _ _ h.bx hk, h.tab.chg hk (glob_hs h.k hT)⟩
  rw [also_at] at x
  cases x
theorem wk_mov : movC (3 : Nat) [wkB, wkA, wkC] wkD = 0 ∧ movL (3 : Nat) [wkB, wkA, wkC] wkD = [wkB, wkA, wkD] := by decide
theorem wk_can : canC (3 : Nat) [wkB, wkA, wkD] 2 = 0 ∧ canL (3 : Nat) [wkB, wkA, wkD] 2 = [wkB, wkA] ∧ canT (3 : Nat) [wkB, wkA, wkD] 2 = wkD := by decide
theorem wk_d4 : dueL [wkB, wkA] 4 true = [] ∧ dueL [wkB, wkA] 4 false = [wkB, wkA] ∧ lookL [wkB, wkA] 0 8 4 = 0 := by decide
theorem wk_d6 : dueL [wkB, wkA] 6 true = [wkB] ∧ dueL [wkB, wkA] 6 false = [wkA] ∧ lookL [wkB, wkA] 4 8 6 = 1 := by decide
theorem wk_d13 : dueL [wkA] 13 true = [wkA] ∧ dueL [wkA] 13 false = [] ∧ lookL [wkA] 6 8 13 = 1 := by decide
theorem wk_d9 : dueL [] 9 true = [] ∧ dueL [] 9 false = [] ∧ lookL [] 13 8 9 = 0 := by decide
theorem wk_get : getL [wkA] 0 = some wkA := by decide
end Go.Proofs.YtckkfbepclogcaaGreatDoor
namespace Go.Proofs.YtckkfbepclogcaaGreatDoor
open Go.RowKit
/-- The base behind acts. -/
def baseA (base : Int) (l : List Act) : Int := l.foldl baseN base
theorem baseA_snoc (base : Int) (l : List Act) (a : Act) : baseA base (l ++ [a]) = baseN (baseA base l) a := by simp [baseA]
/-- What acts hold. -/
def AcOk (l : List Act) : Prop := ∀ a ∈ l, U64 a.t.at_ ∧ U64 a.now
theorem baseN_u64 {base : Int} {a : Act} (h : U64 base) (ha : U64 a.now) : U64 (baseN base a) := by
  unfold baseN
  unfold U64 at *
  split <;> omega
theorem baseA_u64 {base : Int} (h : U64 base) : ∀ l : List Act, AcOk l → U64 (baseA base l) := by
  intro l
  induction l generalizing base with
  | nil => intro _; exact h
  | cons a l ih =>
    intro ha
    exact ih (baseN_u64 h (ha a (by simp)).2) fun x hx => ha x (by simp [hx])
theorem AcOk.take {l : List Act} (h : AcOk l) (k : Nat) : AcOk (l.take k) := fun a ha => h a (List.mem_of_mem_take ha)
end Go.Proofs.YtckkfbepclogcaaGreatDoor
namespace Go.Proofs.YtckkfbepclogcaaGreatDoor
open Go.RowKit
theorem due_lens (m : List Timer) (now : Int) : (dueL m now true).length + (dueL m now false).length = m.length := by
  have := (due_perm m now).length_eq
  rwa [List.length_append] at this
theorem HQ.look_le {w : World} {q tb c nb P S : Nat} {base lk : Int} {m : List Timer} (h : HQ w q tb c nb P S base lk m) (z : HSz P S) (now : Int) : lookL m base S now ≤ m.length ∧ lookL m base S now ≤ spanN S base now := by
  obtain ⟨s, b, h1, h2, rfl⟩ := h.ex
  have hS : 0 < S := by have := z.hS; omega
  exact ⟨look_le_pend hS h1.ok h2 now, lookL_le_span m hS h1.ok h2 now⟩
end Go.Proofs.YtckkfbepclogcaaGreatDoor
namespace Go.Proofs.YtckkfbepclogcaaGreatDoor
open Go.RowKit
/-- Two wheels that lie apart, above all that was there. -/
structure Apart (w0 : World) (q tb c nb o tb2 c2 nb2 x : Nat) : Prop where
  lq : w0.heap.size ≤ q ∧ q < x
  lt : w0.heap.size ≤ tb ∧ tb < x
  lc : w0.heap.size ≤ c ∧ c < x
  ln : w0.heap.size ≤ nb ∧ nb < x
  mo : x ≤ o
  mt : x ≤ tb2
  mc : x ≤ c2
  mn : x ≤ nb2
/-- What calls upon either may change. -/
def HT (q tb nb o tb2 nb2 : Nat) : Nat → Prop := fun g => HS q tb nb g ∨ HS o tb2 nb2 g
section
variable {w0 : World} {q tb c nb o tb2 c2 nb2 x : Nat}
theorem Apart.one (h : Apart w0 q tb c nb o tb2 c2 nb2 x) {w w' : World} {P S : Nat} {b lk : Int} {m : List Timer} (hq : HQ w q tb c nb P S b lk m) (k : Chg (HS o tb2 nb2) w w') : HQ w' q tb c nb P S b lk m := by
  have := h.lq; have := h.lt; have := h.lc; have := h.ln; have := h.mo; have := h.mt; have := h.mn
  exact hq.chg k (by unfold HS; omega) (by unfold HS; omega) (by unfold HS; omega) (by unfold HS; omega)
theorem Apart.two (h : Apart w0 q tb c nb o tb2 c2 nb2 x) {w w' : World} {P S : Nat} {b lk : Int} {m : List Timer} (hq : HQ w o tb2 c2 nb2 P S b lk m) (k : Chg (HS q tb nb) w w') : HQ w' o tb2 c2 nb2 P S b lk m := by
  have := h.lq; have := h.lt; have := h.lc; have := h.ln; have := h.mo; have := h.mt; have := h.mn; have := h.mc
  exact hq.chg k (by unfold HS; omega) (by unfold HS; omega) (by unfold HS; omega) (by unfold HS; omega)
theorem Apart.low (h : Apart w0 q tb c nb o tb2 c2 nb2 x) {i : Nat} (hi : i < w0.heap.size) : ¬ HT q tb nb o tb2 nb2 i := by
  have := h.lq; have := h.lt; have := h.lc; have := h.ln; have := h.mo; have := h.mt; have := h.mn
  unfold HT HS
  omega
theorem Apart.below (h : Apart w0 q tb c nb o tb2 c2 nb2 x) {w w' : World} (hb : Below w0.heap.size w0 w) (k : Chg (HT q tb nb o tb2 nb2) w w') : Below w0.heap.size w0 w' :=
  below_chg hb (Nat.le_refl _) k fun i e => by
    rcases Nat.lt_or_ge i w0.heap.size with hlt | hge
    · exact absurd e (h.low hlt)
    · exact hge
end
theorem chg_one {q tb nb o tb2 nb2 : Nat} {w w' : World} (k : Chg (HS q tb nb) w w') : Chg (HT q tb nb o tb2 nb2) w w' := k.mono fun _ _ e => .inl e
theorem chg_two {q tb nb o tb2 nb2 : Nat} {w w' : World} (k : Chg (HS o tb2 nb2) w w') : Chg (HT q tb nb o tb2 nb2) w w' := k.mono fun _ _ e => .inr e
def ToldAt (B : Nat) (e : Int) (t : Timer) (l : List Timer) (v : Value) (w : World) : Prop := ∃ u, v = tV e t u ∧ LF B w u l
def FA (B q o : Nat) (sl : Value) (k : Nat) (p : Addr) (a : Act) (e : Int) (t : Timer) (l : List Timer) (j : Nat) (v : Value) (w : World) : Prop := match j with
  | 0 => v = .pointer (some ⟨q, 0, none⟩)
  | 1 => v = sl
  | 2 => v = .int .i64 k
  | 3 => v = .pointer (some p)
  | 4 => v = a.val
  | 5 => ToldAt B e t l v w
  | 6 => v = .pointer (some ⟨o, 0, none⟩)
  | 7 => v = sl
  | 8 => v = .int .i64 k
  | 9 => v = .pointer (some p)
  | 10 => v = a.val
  | _ => ToldAt B e t l v w
theorem ToldAt.chg {B : Nat} {e : Int} {t : Timer} {l : List Timer} {v : Value} {w w' : World} {T : Nat → Prop} (h : ToldAt B e t l v w) (k : Chg T w w') (hT : ∀ i, T i → i < B) : ToldAt B e t l v w' := by
  obtain ⟨u, rfl, h⟩ := h
  exact ⟨u, rfl, h.chg k hT⟩
theorem FA.keep {B q tb nb o tb2 nb2 : Nat} {sl : Value} {k : Nat} {p : Addr} {a : Act} {e : Int} {t : Timer} {l : List Timer} (hT : ∀ i, HT q tb nb o tb2 nb2 i → i < B) (i j : Nat) (v : Value) (w w' : World) (_ : j ≠ i) (h : FA B q o sl k p a e t l j v w) (r : Chg (HT q tb nb o tb2 nb2) w w') : FA B q o sl k p a e t l j v w' := by
  unfold FA at h ⊢
  split at h <;> first | exact h | exact h.chg r hT
/-- The two wheels in the round's region: ahead of an act, and behind it. -/
structure SA (B q tb c nb o tb2 c2 nb2 P S S2 : Nat) (b1 k1 b2 k2 : Int) (m : List Timer) (d1 j1 d2 j2 : Int) (m' : List Timer) (w0 : World) (ab ao k : Nat) (a : Act) (p : Nat → Bool) (w : World) : Prop where
  q0 : p 5 = false → HQ w q tb c nb P S b1 k1 m
  q1 : p 5 = true → HQ w q tb c nb P S d1 j1 m'
  o0 : p 11 = false → HQ w o tb2 c2 nb2 P S2 b2 k2 m
  o1 : p 11 = true → HQ w o tb2 c2 nb2 P S2 d2 j2 m'
  act : w.cell? ⟨ab, ao + k * 5, none⟩ = some (.int .i64 a.kind) ∧ w.cell? ⟨ab, ao + k * 5 + 1, none⟩ = some (.int .u64 a.t.at_) ∧ w.cell? ⟨ab, ao + k * 5 + 2, none⟩ = some (.int .u64 a.t.seq) ∧ w.cell? ⟨ab, ao + k * 5 + 3, none⟩ = some (.int .i64 a.t.place) ∧ w.cell? ⟨ab, ao + k * 5 + 4, none⟩ = some (.int .u64 a.now)
  size : B ≤ w.heap.size
  below : Below w0.heap.size w0 w
  tab : TabAt w
section
variable {B q tb c nb o tb2 c2 nb2 P S S2 x : Nat} {b1 k1 b2 k2 d1 j1 d2 j2 : Int} {m m' : List Timer} {w0 w w' : World} {ab ao k : Nat} {a : Act} {p : Nat → Bool}
theorem SA.quiet (i : Nat) (h : SA B q tb c nb o tb2 c2 nb2 P S S2 b1 k1 b2 k2 m d1 j1 d2 j2 m' w0 ab ao k a p w) (hab : ab < w0.heap.size) (r : Below w.heap.size w w') (h5 : i ≠ 5) (h11 : i ≠ 11) : SA B q tb c nb o tb2 c2 nb2 P S S2 b1 k1 b2 k2 m d1 j1 d2 j2 m' w0 ab ao k a (also p i) w' := by
  have e5 : also p i 5 = p 5 := also_ne p (fun e => h5 e.symm)
  have e11 : also p i 11 = p 11 := also_ne p (fun e => h11 e.symm)
  have hs := h.below.size
  exact ⟨fun y => (h.q0 (e5 ▸ y)).below r, fun y => (h.q1 (e5 ▸ y)).below r, fun y => (h.o0 (e11 ▸ y)).below r, fun y => (h.o1 (e11 ▸ y)).below r, act_on h.act (r.block ab (by omega)), Nat.le_trans h.size r.size, h.below.trans (Below.mono r h.below.size), h.tab.below r (glob_lt h.tab)⟩
end
/-! Both wheels' lists, held against each other. -/
def FM (B q o : Nat) (m : List Timer) (j : Nat) (v : Value) (w : World) : Prop := match j with
  | 0 => v = .pointer (some ⟨q, 0, none⟩)
  | 1 => v = .pointer (some ⟨q, 0, none⟩)
  | 2 => v = .pointer (some ⟨q, 0, none⟩)
  | 3 => LF B w v m
  | 4 => v = .pointer (some ⟨o, 0, none⟩)
  | 5 => v = .pointer (some ⟨o, 0, none⟩)
  | 6 => v = .pointer (some ⟨o, 0, none⟩)
  | _ => LF B w v m
theorem FM.keep {B q o : Nat} {m : List Timer} (i j : Nat) (v : Value) (w w' : World) (_ : j ≠ i) (h : FM B q o m j v w) (r : Below w.heap.size w w') : FM B q o m j v w' := by
  unfold FM at h ⊢
  split at h <;> first | exact h | exact h.chg (Chg.of_same r (fun _ => False)) (fun _ e => e.elim)
structure SM (B q tb c nb o tb2 c2 nb2 P S S2 : Nat) (b1 k1 b2 k2 : Int) (m : List Timer) (w0 : World) (x20 x22 : Nat) (cs : Array Value) (_p : Nat → Bool) (w : World) : Prop where
  q : HQ w q tb c nb P S b1 k1 m
  o : HQ w o tb2 c2 nb2 P S2 b2 k2 m
  size : B ≤ w.heap.size
  below : Below w0.heap.size w0 w
  b20 : Blk w x20 37 cs
  b22 : Blk w x22 37 cs
theorem SM.keep {B q tb c nb o tb2 c2 nb2 P S S2 : Nat} {b1 k1 b2 k2 : Int} {m : List Timer} {w0 w w' : World} {x20 x22 : Nat} {cs : Array Value} {p p' : Nat → Bool} (h : SM B q tb c nb o tb2 c2 nb2 P S S2 b1 k1 b2 k2 m w0 x20 x22 cs p w) (r : Below w.heap.size w w') : SM B q tb c nb o tb2 c2 nb2 P S S2 b1 k1 b2 k2 m w0 x20 x22 cs p' w' :=
  ⟨h.q.below r, h.o.below r, Nat.le_trans h.size r.size, h.below.trans (Below.mono r h.below.size), h.b20.below r h.b20.lt, h.b22.below r h.b22.lt⟩
end Go.Proofs.YtckkfbepclogcaaGreatDoor
namespace Go.Proofs.YtckkfbepclogcaaGreatDoor
open Go.RowKit
theorem vnew_bad (P bits base : Int) (w : World) (h : ¬ NewOk P bits) :
    Calls Tryz.prog 6 #[.int .i64 P, .int .i64 bits, .int .u64 base] w fun e w' => e = .returned (nilE 1) ∧ w = w' := by
  have hx : P < 0 ∨ (¬ P < 0 ∧ 1024 < P) ∨ (¬ P < 0 ∧ ¬ 1024 < P ∧ bits < 1) ∨ (¬ P < 0 ∧ ¬ 1024 < P ∧ ¬ bits < 1 ∧ 6 < bits) := by
    unfold NewOk at h
    omega
  clear h
  rcases hx with h | ⟨h1, h2⟩ | ⟨h1, h2, h3⟩ | ⟨h1, h2, h3, h4⟩
  · go_enter Tryz.func6, Tryz.ntmps6
    go_wp2
    refine bodyPost_ret (v := nilE 1) (by simp [results, Tryz.results6, go_sem, nilE]) rfl ⟨rfl, rfl⟩
  · go_enter Tryz.func6, Tryz.ntmps6
    go_wp2
    refine bodyPost_ret (v := nilE 1) (by simp [results, Tryz.results6, go_sem, nilE]) rfl ⟨rfl, rfl⟩
  · go_enter Tryz.func6, Tryz.ntmps6
    go_wp2
    refine bodyPost_ret (v := nilE 1) (by simp [results, Tryz.results6, go_sem, nilE]) rfl ⟨rfl, rfl⟩
  · go_enter Tryz.func6, Tryz.ntmps6
    go_wp2
    refine bodyPost_ret (v := nilE 1) (by simp [results, Tryz.results6, go_sem, nilE]) rfl ⟨rfl, rfl⟩
set_option maxRecDepth 100000 in
set_option maxHeartbeats 1000000 in
theorem vnew_1 (P : Nat) (base : Int) (w : World) (hP : P ≤ 1024) :
    Calls Tryz.prog 6 #[.int .i64 P, .int .i64 1, .int .u64 base] w fun e w' => ∃ q tb c nb, e = .returned (.tuple #[.pointer (some ⟨q, 0, none⟩), .int .i64 0]) ∧ RQ w' q tb c nb P 1 2 base 0 [] ∧ Below w.heap.size w w' ∧ w.heap.size ≤ q ∧ w.heap.size ≤ tb ∧ w.heap.size ≤ c ∧ w.heap.size ≤ nb := by
  obtain ⟨i0, hi, hz0, hz1, hz2⟩ := info_parts info_timer
  have hcn : Calls Tryz.prog 34 #[.int .i64 P, .int .i64 (4 * 2 + 2 : Nat)] w _ := cnew_ok P (4 * 2 + 2) w hP (by omega)
  have hP' : ¬ (P : Int) < 0 := by omega
  go_enter Tryz.func6, Tryz.ntmps6
  go_upto_region 6 with (go_at_call 34; refine hcn.mono ?_; rintro e w1 ⟨c, nb, rfl, hc, hn, hC, hb⟩)
  clear hcn
  have hsz := hb.size
  go_wp2_with (at_make; refine wpList_make_full _ rfl _ _ 29 rfl w.heap.size 37 i0 (.agg #[.int .u64 0, .int .u64 0, .int .i64 0]) 3 Tryz.underlying29 hi hz0 hz1 .i64 .i64 _ _ P rfl rfl rfl rfl (by rw [hz2]; omega) (by unfold maxLen; omega) hsz ?_)
  intro w2 hown hgr
  have hb2 := grown_below hgr
  have hT0 : Blk w2 w1.heap.size 37 (tmC P (fun _ => Timer.zero)) := by
    rw [← made_tms]
    exact made_blk hown
  have hC2 := hC.below hb2
  have hsz2 := hb2.size
  have hlt := hT0.lt
  clear hown hgr hi hz0 hz1 hz2 hC
  go_wp2
  refine bodyPost_ret (v := .tuple #[.pointer (some ⟨w2.heap.size, 0, none⟩), .int .i64 0]) (by simp [results, Tryz.results6, go_sem]) rfl ?_
  refine ⟨w2.heap.size, w1.heap.size, c, nb, rfl, ⟨HSt.new base (fun _ => Timer.zero), fun _ => Bits.zero, ⟨?_, ?_, ?_, ?_, ?_⟩, ?_, rfl⟩, (hb.trans (Below.mono hb2 hsz)).alloc (by omega) _, by omega, by omega, hc, hn⟩
  · exact Blk.new _ _ _
  · exact hT0.alloc _
  · exact hC2.below ((Below.refl _ _).alloc (Nat.le_refl _) _)
  · exact fun l _ => (Busy.zero 2).congr fun k _ => rfl
  · exact HrOk.new P _ base _
  · exact PRel.new P _
set_option maxRecDepth 100000 in
set_option maxHeartbeats 1000000 in
theorem vnew_2 (P : Nat) (base : Int) (w : World) (hP : P ≤ 1024) :
    Calls Tryz.prog 6 #[.int .i64 P, .int .i64 2, .int .u64 base] w fun e w' => ∃ q tb c nb, e = .returned (.tuple #[.pointer (some ⟨q, 0, none⟩), .int .i64 0]) ∧ RQ w' q tb c nb P 2 4 base 0 [] ∧ Below w.heap.size w w' ∧ w.heap.size ≤ q ∧ w.heap.size ≤ tb ∧ w.heap.size ≤ c ∧ w.heap.size ≤ nb := by
  obtain ⟨i0, hi, hz0, hz1, hz2⟩ := info_parts info_timer
  have hcn : Calls Tryz.prog 34 #[.int .i64 P, .int .i64 (4 * 4 + 2 : Nat)] w _ := cnew_ok P (4 * 4 + 2) w hP (by omega)
  have hP' : ¬ (P : Int) < 0 := by omega
  go_enter Tryz.func6, Tryz.ntmps6
  go_upto_region 6 with (go_at_call 34; refine hcn.mono ?_; rintro e w1 ⟨c, nb, rfl, hc, hn, hC, hb⟩)
  clear hcn
  have hsz := hb.size
  go_wp2_with (at_make; refine wpList_make_full _ rfl _ _ 29 rfl w.heap.size 37 i0 (.agg #[.int .u64 0, .int .u64 0, .int .i64 0]) 3 Tryz.underlying29 hi hz0 hz1 .i64 .i64 _ _ P rfl rfl rfl rfl (by rw [hz2]; omega) (by unfold maxLen; omega) hsz ?_)
  intro w2 hown hgr
  have hb2 := grown_below hgr
  have hT0 : Blk w2 w1.heap.size 37 (tmC P (fun _ => Timer.zero)) := by
    rw [← made_tms]
    exact made_blk hown
  have hC2 := hC.below hb2
  have hsz2 := hb2.size
  have hlt := hT0.lt
  clear hown hgr hi hz0 hz1 hz2 hC
  go_wp2
  refine bodyPost_ret (v := .tuple #[.pointer (some ⟨w2.heap.size, 0, none⟩), .int .i64 0]) (by simp [results, Tryz.results6, go_sem]) rfl ?_
  refine ⟨w2.heap.size, w1.heap.size, c, nb, rfl, ⟨HSt.new base (fun _ => Timer.zero), fun _ => Bits.zero, ⟨?_, ?_, ?_, ?_, ?_⟩, ?_, rfl⟩, (hb.trans (Below.mono hb2 hsz)).alloc (by omega) _, by omega, by omega, hc, hn⟩
  · exact Blk.new _ _ _
  · exact hT0.alloc _
  · exact hC2.below ((Below.refl _ _).alloc (Nat.le_refl _) _)
  · exact fun l _ => (Busy.zero 4).congr fun k _ => rfl
  · exact HrOk.new P _ base _
  · exact PRel.new P _
set_option maxRecDepth 100000 in
set_option maxHeartbeats 1000000 in
theorem vnew_3 (P : Nat) (base : Int) (w : World) (hP : P ≤ 1024) :
    Calls Tryz.prog 6 #[.int .i64 P, .int .i64 3, .int .u64 base] w fun e w' => ∃ q tb c nb, e = .returned (.tuple #[.pointer (some ⟨q, 0, none⟩), .int .i64 0]) ∧ RQ w' q tb c nb P 3 8 base 0 [] ∧ Below w.heap.size w w' ∧ w.heap.size ≤ q ∧ w.heap.size ≤ tb ∧ w.heap.size ≤ c ∧ w.heap.size ≤ nb := by
  obtain ⟨i0, hi, hz0, hz1, hz2⟩ := info_parts info_timer
  have hcn : Calls Tryz.prog 34 #[.int .i64 P, .int .i64 (4 * 8 + 2 : Nat)] w _ := cnew_ok P (4 * 8 + 2) w hP (by omega)
  have hP' : ¬ (P : Int) < 0 := by omega
  go_enter Tryz.func6, Tryz.ntmps6
  go_upto_region 6 with (go_at_call 34; refine hcn.mono ?_; rintro e w1 ⟨c, nb, rfl, hc, hn, hC, hb⟩)
  clear hcn
  have hsz := hb.size
  go_wp2_with (at_make; refine wpList_make_full _ rfl _ _ 29 rfl w.heap.size 37 i0 (.agg #[.int .u64 0, .int .u64 0, .int .i64 0]) 3 Tryz.underlying29 hi hz0 hz1 .i64 .i64 _ _ P rfl rfl rfl rfl (by rw [hz2]; omega) (by unfold maxLen; omega) hsz ?_)
  intro w2 hown hgr
  have hb2 := grown_below hgr
  have hT0 : Blk w2 w1.heap.size 37 (tmC P (fun _ => Timer.zero)) := by
    rw [← made_tms]
    exact made_blk hown
  have hC2 := hC.below hb2
  have hsz2 := hb2.size
  have hlt := hT0.lt
  clear hown hgr hi hz0 hz1 hz2 hC
  go_wp2
  refine bodyPost_ret (v := .tuple #[.pointer (some ⟨w2.heap.size, 0, none⟩), .int .i64 0]) (by simp [results, Tryz.results6, go_sem]) rfl ?_
  refine ⟨w2.heap.size, w1.heap.size, c, nb, rfl, ⟨HSt.new base (fun _ => Timer.zero), fun _ => Bits.zero, ⟨?_, ?_, ?_, ?_, ?_⟩, ?_, rfl⟩, (hb.trans (Below.mono hb2 hsz)).alloc (by omega) _, by omega, by omega, hc, hn⟩
  · exact Blk.new _ _ _
  · exact hT0.alloc _
  · exact hC2.below ((Below.refl _ _).alloc (Nat.le_refl _) _)
  · exact fun l _ => (Busy.zero 8).congr fun k _ => rfl
  · exact HrOk.new P _ base _
  · exact PRel.new P _
set_option maxRecDepth 100000 in
set_option maxHeartbeats 1000000 in
theorem vnew_4 (P : Nat) (base : Int) (w : World) (hP : P ≤ 1024) :
    Calls Tryz.prog 6 #[.int .i64 P, .int .i64 4, .int .u64 base] w fun e w' => ∃ q tb c nb, e = .returned (.tuple #[.pointer (some ⟨q, 0, none⟩), .int .i64 0]) ∧ RQ w' q tb c nb P 4 16 base 0 [] ∧ Below w.heap.size w w' ∧ w.heap.size ≤ q ∧ w.heap.size ≤ tb ∧ w.heap.size ≤ c ∧ w.heap.size ≤ nb := by
  obtain ⟨i0, hi, hz0, hz1, hz2⟩ := info_parts info_timer
  have hcn : Calls Tryz.prog 34 #[.int .i64 P, .int .i64 (4 * 16 + 2 : Nat)] w _ := cnew_ok P (4 * 16 + 2) w hP (by omega)
  have hP' : ¬ (P : Int) < 0 := by omega
  go_enter Tryz.func6, Tryz.ntmps6
  go_upto_region 6 with (go_at_call 34; refine hcn.mono ?_; rintro e w1 ⟨c, nb, rfl, hc, hn, hC, hb⟩)
  clear hcn
  have hsz := hb.size
  go_wp2_with (at_make; refine wpList_make_full _ rfl _ _ 29 rfl w.heap.size 37 i0 (.agg #[.int .u64 0, .int .u64 0, .int .i64 0]) 3 Tryz.underlying29 hi hz0 hz1 .i64 .i64 _ _ P rfl rfl rfl rfl (by rw [hz2]; omega) (by unfold maxLen; omega) hsz ?_)
  intro w2 hown hgr
  have hb2 := grown_below hgr
  have hT0 : Blk w2 w1.heap.size 37 (tmC P (fun _ => Timer.zero)) := by
    rw [← made_tms]
    exact made_blk hown
  have hC2 := hC.below hb2
  have hsz2 := hb2.size
  have hlt := hT0.lt
  clear hown hgr hi hz0 hz1 hz2 hC
  go_wp2
  refine bodyPost_ret (v := .tuple #[.pointer (some ⟨w2.heap.size, 0, none⟩), .int .i64 0]) (by simp [results, Tryz.results6, go_sem]) rfl ?_
  refine ⟨w2.heap.size, w1.heap.size, c, nb, rfl, ⟨HSt.new base (fun _ => Timer.zero), fun _ => Bits.zero, ⟨?_, ?_, ?_, ?_, ?_⟩, ?_, rfl⟩, (hb.trans (Below.mono hb2 hsz)).alloc (by omega) _, by omega, by omega, hc, hn⟩
  · exact Blk.new _ _ _
  · exact hT0.alloc _
  · exact hC2.below ((Below.refl _ _).alloc (Nat.le_refl _) _)
  · exact fun l _ => (Busy.zero 16).congr fun k _ => rfl
  · exact HrOk.new P _ base _
  · exact PRel.new P _
set_option maxRecDepth 100000 in
set_option maxHeartbeats 1000000 in
theorem vnew_5 (P : Nat) (base : Int) (w : World) (hP : P ≤ 1024) :
    Calls Tryz.prog 6 #[.int .i64 P, .int .i64 5, .int .u64 base] w fun e w' => ∃ q tb c nb, e = .returned (.tuple #[.pointer (some ⟨q, 0, none⟩), .int .i64 0]) ∧ RQ w' q tb c nb P 5 32 base 0 [] ∧ Below w.heap.size w w' ∧ w.heap.size ≤ q ∧ w.heap.size ≤ tb ∧ w.heap.size ≤ c ∧ w.heap.size ≤ nb := by
  obtain ⟨i0, hi, hz0, hz1, hz2⟩ := info_parts info_timer
  have hcn : Calls Tryz.prog 34 #[.int .i64 P, .int .i64 (4 * 32 + 2 : Nat)] w _ := cnew_ok P (4 * 32 + 2) w hP (by omega)
  have hP' : ¬ (P : Int) < 0 := by omega
  go_enter Tryz.func6, Tryz.ntmps6
  go_upto_region 6 with (go_at_call 34; refine hcn.mono ?_; rintro e w1 ⟨c, nb, rfl, hc, hn, hC, hb⟩)
  clear hcn
  have hsz := hb.size
  go_wp2_with (at_make; refine wpList_make_full _ rfl _ _ 29 rfl w.heap.size 37 i0 (.agg #[.int .u64 0, .int .u64 0, .int .i64 0]) 3 Tryz.underlying29 hi hz0 hz1 .i64 .i64 _ _ P rfl rfl rfl rfl (by rw [hz2]; omega) (by unfold maxLen; omega) hsz ?_)
  intro w2 hown hgr
  have hb2 := grown_below hgr
  have hT0 : Blk w2 w1.heap.size 37 (tmC P (fun _ => Timer.zero)) := by
    rw [← made_tms]
    exact made_blk hown
  have hC2 := hC.below hb2
  have hsz2 := hb2.size
  have hlt := hT0.lt
  clear hown hgr hi hz0 hz1 hz2 hC
  go_wp2
  refine bodyPost_ret (v := .tuple #[.pointer (some ⟨w2.heap.size, 0, none⟩), .int .i64 0]) (by simp [results, Tryz.results6, go_sem]) rfl ?_
  refine ⟨w2.heap.size, w1.heap.size, c, nb, rfl, ⟨HSt.new base (fun _ => Timer.zero), fun _ => Bits.zero, ⟨?_, ?_, ?_, ?_, ?_⟩, ?_, rfl⟩, (hb.trans (Below.mono hb2 hsz)).alloc (by omega) _, by omega, by omega, hc, hn⟩
  · exact Blk.new _ _ _
  · exact hT0.alloc _
  · exact hC2.below ((Below.refl _ _).alloc (Nat.le_refl _) _)
  · exact fun l _ => (Busy.zero 32).congr fun k _ => rfl
  · exact HrOk.new P _ base _
  · exact PRel.new P _
set_option maxRecDepth 100000 in
set_option maxHeartbeats 1000000 in
theorem vnew_6 (P : Nat) (base : Int) (w : World) (hP : P ≤ 1024) :
    Calls Tryz.prog 6 #[.int .i64 P, .int .i64 6, .int .u64 base] w fun e w' => ∃ q tb c nb, e = .returned (.tuple #[.pointer (some ⟨q, 0, none⟩), .int .i64 0]) ∧ RQ w' q tb c nb P 6 64 base 0 [] ∧ Below w.heap.size w w' ∧ w.heap.size ≤ q ∧ w.heap.size ≤ tb ∧ w.heap.size ≤ c ∧ w.heap.size ≤ nb := by
  obtain ⟨i0, hi, hz0, hz1, hz2⟩ := info_parts info_timer
  have hcn : Calls Tryz.prog 34 #[.int .i64 P, .int .i64 (4 * 64 + 2 : Nat)] w _ := cnew_ok P (4 * 64 + 2) w hP (by omega)
  have hP' : ¬ (P : Int) < 0 := by omega
  go_enter Tryz.func6, Tryz.ntmps6
  go_upto_region 6 with (go_at_call 34; refine hcn.mono ?_; rintro e w1 ⟨c, nb, rfl, hc, hn, hC, hb⟩)
  clear hcn
  have hsz := hb.size
  go_wp2_with (at_make; refine wpList_make_full _ rfl _ _ 29 rfl w.heap.size 37 i0 (.agg #[.int .u64 0, .int .u64 0, .int .i64 0]) 3 Tryz.underlying29 hi hz0 hz1 .i64 .i64 _ _ P rfl rfl rfl rfl (by rw [hz2]; omega) (by unfold maxLen; omega) hsz ?_)
  intro w2 hown hgr
  have hb2 := grown_below hgr
  have hT0 : Blk w2 w1.heap.size 37 (tmC P (fun _ => Timer.zero)) := by
    rw [← made_tms]
    exact made_blk hown
  have hC2 := hC.below hb2
  have hsz2 := hb2.size
  have hlt := hT0.lt
  clear hown hgr hi hz0 hz1 hz2 hC
  go_wp2
  refine bodyPost_ret (v := .tuple #[.pointer (some ⟨w2.heap.size, 0, none⟩), .int .i64 0]) (by simp [results, Tryz.results6, go_sem]) rfl ?_
  refine ⟨w2.heap.size, w1.heap.size, c, nb, rfl, ⟨HSt.new base (fun _ => Timer.zero), fun _ => Bits.zero, ⟨?_, ?_, ?_, ?_, ?_⟩, ?_, rfl⟩, (hb.trans (Below.mono hb2 hsz)).alloc (by omega) _, by omega, by omega, hc, hn⟩
  · exact Blk.new _ _ _
  · exact hT0.alloc _
  · exact hC2.below ((Below.refl _ _).alloc (Nat.le_refl _) _)
  · exact fun l _ => (Busy.zero 64).congr fun k _ => rfl
  · exact HrOk.new P _ base _
  · exact PRel.new P _
/-- How many slots a level has. -/
def sideN (bits : Int) : Nat := 2 ^ bits.toNat
theorem sideN_ok {P bits : Int} (h : NewOk P bits) : RSz P.toNat bits.toNat (sideN bits) := by
  obtain ⟨h1, h2, h3, h4⟩ := h
  exact ⟨by omega, by omega, by omega, rfl⟩
theorem vnew_ok (P bits base : Int) (w : World) (h : NewOk P bits) :
    Calls Tryz.prog 6 #[.int .i64 P, .int .i64 bits, .int .u64 base] w fun e w' => ∃ q tb c nb, e = .returned (.tuple #[.pointer (some ⟨q, 0, none⟩), .int .i64 0]) ∧ RQ w' q tb c nb P.toNat bits.toNat (sideN bits) base 0 [] ∧ Below w.heap.size w w' ∧ w.heap.size ≤ q ∧ w.heap.size ≤ tb ∧ w.heap.size ≤ c ∧ w.heap.size ≤ nb := by
  obtain ⟨h1, h2, h3, h4⟩ := h
  have hb : bits = 1 ∨ bits = 2 ∨ bits = 3 ∨ bits = 4 ∨ bits = 5 ∨ bits = 6 := by omega
  obtain ⟨n, rfl⟩ := Int.eq_ofNat_of_zero_le (show 0 ≤ P by omega)
  rcases hb with rfl | rfl | rfl | rfl | rfl | rfl
  · exact vnew_1 n base w (by omega)
  · exact vnew_2 n base w (by omega)
  · exact vnew_3 n base w (by omega)
  · exact vnew_4 n base w (by omega)
  · exact vnew_5 n base w (by omega)
  · exact vnew_6 n base w (by omega)
end Go.Proofs.YtckkfbepclogcaaGreatDoor
namespace Go.Proofs.YtckkfbepclogcaaGreatDoor
open Go.RowKit Go.Shelf Go.Sort
attribute [local go_sem] Oper.semAt_some
theorem vbegun_any (q : Nat) (now : Int) (w : World) : Calls Tryz.prog 83 #[.pointer (some ⟨q, 0, none⟩), .int .u64 now] w fun e w' =>
    e = .returned (.func (.func 103) #[] #[.pointer (some ⟨w.heap.size, 0, none⟩), .pointer (some ⟨w.heap.size + 1, 0, none⟩)]) ∧ w' = (w.alloc (.cells #[.pointer (some ⟨q, 0, none⟩)] 25)).alloc (.cells #[.int .u64 now] 22) := by
  go_enter Tryz.func83, Tryz.ntmps83
  go_wp2
  go_ret
  exact ⟨by simp, rfl⟩
/-- Where a slot begins, by its list's number. -/
def bgN (B : Nat) (base : Int) (o : Nat) : Int := begN B base (o / B) (o % B)
theorem bgN_at {B l k : Nat} (hk : k < B) (base : Int) : bgN B base (l * B + k) = begN B base l k := by
  unfold bgN
  rw [Nat.mul_comm, Nat.mul_add_div (by omega), Nat.mul_add_mod, Nat.div_eq_of_lt hk, Nat.mod_eq_of_lt hk, Nat.add_zero]
/-- What the iterator sees of the wheel: which slots ahead have something is as it was. -/
structure BegV (q bq bn tb c P b B : Nat) (base now : Int) (p0 : Nat → Bool) (pre : List Nat) (W : World) : Prop where
  bq : Blk W bq 25 #[.pointer (some ⟨q, 0, none⟩)]
  bn : Blk W bn 22 #[.int .u64 now]
  tab : TabAt W
  st : ∃ (rg : Nat → Bits) (p : Nat → Bool) (n cas : Int), Blk W q 81 (rCells tb c P b rg base n cas) ∧ (∀ l, l < 4 → Busy B (rg l) (fun k => p (l * B + k))) ∧ ∀ o, nxo pre ≤ o → p o = p0 o
def BegG (B : Nat) (base now : Int) (p0 : Nat → Bool) (pre : List Nat) (o : Nat) : Prop :=
  nxo pre ≤ o ∧ o < 4 * B ∧ p0 o = true ∧ bgN B base o ≤ now ∧ ∀ o', nxo pre ≤ o' → o' < o → p0 o' = true → now < bgN B base o'
def BegS (B : Nat) (base now : Int) (p0 : Nat → Bool) (xs : List Nat) : Prop := ∀ o', nxo xs ≤ o' → o' < 4 * B → p0 o' = true → now < bgN B base o'
theorem dbegin_u {P b B : Nat} (z : RSz P b B) {base : Int} (hb : U64 base) (l k : Nat) (hl : l < 4) (hk : k < B) (w : World) :
    Calls Tryz.prog 104 #[.int .u64 base, .int .i64 l, .int .i64 k, .int .i64 b] w fun e w' => e = .returned (.int .u64 (begN B base l k)) ∧ w = w' := by
  obtain ⟨x, rfl, hx⟩ := u64_nat hb
  exact dbegin_any b B z.hB ⟨z.h1, z.h6⟩ x l k hx hl hk w
/-- The next one of a level's slots, from c on. -/
structure NX (p0 : Nat → Bool) (v B c : Nat) (o : Option Int) : Prop where
  none : o = none → ∀ k, c ≤ k → k < B → p0 (v * B + k) = false
  some : ∀ x, o = some x → ∃ k : Nat, x = k ∧ c ≤ k ∧ k < B ∧ p0 (v * B + k) = true ∧ ∀ k', c ≤ k' → k' < k → p0 (v * B + k') = false
theorem Busy.nx {B v c m : Nat} {b : Bits} {p p0 : Nat → Bool} (h : Busy B b (fun k => p (v * B + k))) (hB : B ≤ 64) (hp : ∀ o, m ≤ o → p o = p0 o) (hm : m ≤ v * B + c) : NX p0 v B c (b.next (c : Int)) := by
  constructor
  · intro e k hk hkB
    rw [← hp _ (by omega)]
    exact h.off (by omega) hkB fun q => by have := next_none b _ _ e q; omega
  · intro x e
    obtain ⟨h1, h2⟩ := next_some b _ x e
    obtain ⟨k, rfl, hk, hpk⟩ := (h.has (by omega)).1 h2
    refine ⟨k, rfl, by omega, hk, by rw [← hp _ (by omega)]; exact hpk, fun k' g1 g2 => ?_⟩
    rw [← hp _ (by omega)]
    exact h.off (by omega) (by omega) fun q => by have := next_least b _ _ _ e q (by omega); omega
def mzN (B : Nat) (x y : Value) : Nat := match y with
  | .bool true => B + 1 - (intOf x).toNat
  | _ => 0
/-- Between two slots none begins. -/
def Free (B : Nat) (base now : Int) (p0 : Nat → Bool) (a e : Nat) : Prop := ∀ o', a ≤ o' → o' < e → p0 o' = true → now < bgN B base o'
theorem Free.pass {B v c k : Nat} {base now : Int} {p0 : Nat → Bool} {a : Nat} (h : Free B base now p0 a (v * B + c)) (hk : ∀ k', c ≤ k' → k' < k → p0 (v * B + k') = false) : Free B base now p0 a (v * B + k) := by
  intro o' h1 h2 h3
  by_cases hlt : o' < v * B + c
  · exact h o' h1 hlt h3
  · obtain ⟨k', rfl⟩ := Nat.exists_eq_add_of_le (show v * B ≤ o' by omega)
    rw [hk k' (by omega) (by omega)] at h3
    cases h3
theorem Free.late {B v c k : Nat} {base now : Int} {p0 : Nat → Bool} {a : Nat} (h : Free B base now p0 a (v * B + c)) (hk : ∀ k', c ≤ k' → k' < k → p0 (v * B + k') = false) (hB : 0 < B) (_hkB : k < B) (hlt : now < begN B base v k) : Free B base now p0 a ((v + 1) * B) := by
  have h0 := h.pass hk
  intro o' h1 h2 h3
  by_cases hl : o' < v * B + k
  · exact h0 o' h1 hl h3
  · obtain ⟨k', rfl⟩ := Nat.exists_eq_add_of_le (show v * B ≤ o' by omega)
    rw [Nat.succ_mul] at h2
    rw [bgN_at (by omega)]
    have := begN_mono hB base v (show k ≤ k' by omega)
    omega
theorem Free.rest {B v c : Nat} {base now : Int} {p0 : Nat → Bool} {a : Nat} (h : Free B base now p0 a (v * B + c)) (hk : ∀ k, c ≤ k → k < B → p0 (v * B + k) = false) : Free B base now p0 a ((v + 1) * B) := by
  rw [Nat.succ_mul]
  exact h.pass hk
set_option maxRecDepth 100000 in
set_option maxHeartbeats 4000000 in
theorem beg1_in (n : Nat) (hn : 1 ≤ n) (l q bq bn tb c P b B : Nat) (base now : Int) (p0 : Nat → Bool) (z : RSz P b B) (hb : U64 base) (_hw : U64 now) (J Jx : List Nat → World → Prop) (hJd : ∀ pre W, J pre W → J pre W.drew) (hJb : ∀ pre W W', J pre W → Below W.heap.size W W' → J pre W')
    (hV : ∀ pre W, J pre W → BegV q bq bn tb c P b B base now p0 pre W)
    (hY : ∀ pre x W, J pre W → BegG B base now p0 pre x → YieldAt Fence.wide (n - 1) Tryz.prog l #[.int .i64 (x / B : Nat), .int .i64 (x % B : Nat)] W fun e W' =>
      (e = .returned (.bool true) ∧ J (pre ++ [x]) W') ∨ (e = .returned (.bool false) ∧ Jx (pre ++ [x]) W'))
    (W : World) (hJ0 : J [] W) :
    CallsIn Fence.wide n Tryz.prog 103 #[.func (.yield l) #[] #[], .pointer (some ⟨bq, 0, none⟩), .pointer (some ⟨bn, 0, none⟩)] W fun e W' => (∃ v, e = .returned v) ∧
      ((∃ xs, BegS B base now p0 xs ∧ J xs W') ∨ ∃ pre, Jx pre W') := by
  have hB0 := z.pos
  have hB64 := z.le
  refine callsIn_of_wp Tryz.func103 rfl trivial ?_ rfl
  simp only [Tryz.ntmps103, List.size_toArray, List.length_cons, List.length_nil, Nat.reduceAdd, Nat.reduceSub, Array.replicate_succ, Array.replicate_zero, List.push_toArray, List.append_toArray, List.nil_append, List.cons_append]
  gi_wp2_with fail
  gi_loopw [7] (fun i wr => ∃ (v : Nat) (pre : List Nat), v ≤ 4 ∧ i = .int .i64 v ∧ nxo pre ≤ v * B ∧ Hid (Free B base now p0 (nxo pre) (v * B)) ∧ J pre wr) (fun i _ => 4 - (intOf i).toNat)
  case atStart => exact ⟨0, [], by omega, rfl, by rw [nxo_nil]; omega, Lib.hid (fun o' _ h => by omega), hJ0⟩
  case round =>
    clear hJ0
    obtain ⟨v, pre, hv4, rfl, hno, hfree, hJ⟩ := hrel
    by_cases hlt : v < 4
    · have hv' : v = 0 ∨ v = 1 ∨ v = 2 ∨ v = 3 := by omega
      rcases hv' with rfl | rfl | rfl | rfl
      · skip
        have hv := hV _ _ hJ
        obtain ⟨rg, p, nn, cas, hB, hbu, hp⟩ := hv.st
        have hok := (hbu 0 (by omega)).ok
        have c1 := hv.bq.cell
        have c3 := hB.cell
        unfold rCells at c3
        have hnx := next_any (rg 0) 0 wr hok hv.tab
        have HNX : Hid (NX p0 0 B 0 ((rg 0).next 0)) := Lib.hid ((hbu 0 (by omega)).nx (c := 0) hB64 hp (by omega))
        unfold Bits.val pairV at hnx
        gi_wp2_with fail
        refine ⟨trivial, CallsIn.mono (callsIn_wide.2 hnx) ?_⟩
        rintro e W2 ⟨rfl, hx⟩
        have hJ2 := hJb _ _ _ hJ hx
        clear hnx hx c1 c3 hok hbu hp hB hv hJ
        generalize (rg 0).next 0 = o0 at *
        gi_wp2_with fail
        gi_loopw [5, 6] (fun x y wr2 => ∃ (c : Nat) (pre2 : List Nat) (o : Option Int), c ≤ B ∧ nxo pre2 ≤ 0 * B + c ∧ Hid (Free B base now p0 (nxo pre2) (0 * B + c)) ∧ x = .int .i64 (o.getD 0) ∧ y = .bool o.isSome ∧ Hid (NX p0 0 B c o) ∧ J pre2 wr2) (fun x y _ => mzN B x y)
        case atStart => exact ⟨0, pre, o0, Nat.zero_le _, hno, hfree, rfl, rfl, HNX, hJ2⟩
        case round =>
          clear hfree hno HNX hJ2
          obtain ⟨c, pre2, o, hc, hno2, hfr2, rfl, rfl, hnx2, hJ2⟩ := hrel
          rcases o with _ | x
          · simp only [Option.getD_none, Option.isSome_none]
            have HF : Hid (Free B base now p0 (nxo pre2) ((0 + 1) * B)) := Lib.hid (hfr2.out.rest (hnx2.out.none rfl))
            have hle2 : nxo pre2 ≤ (0 + 1) * B := by omega
            have hJ3 := hJd _ _ hJ2
            have hmix : Tryz.prog.follows .mixedOrders = true := by kernel_rfl
            clear hnx2 hfr2 hJ2
            gi_wp2_with fail
            refine wpIn_wide.2 ?_
            go_big_region_o
            clear hmix
            generalize wr.drew = wr3 at *
            gi_wp2_with fail
            go_roundw
            case rel => exact ⟨0 + 1, pre2, by omega, by go_num, hle2, HF, hJ3⟩
            case measure => simp [intOf]
          · obtain ⟨k, rfl, hck, hkB, hpk, hgap⟩ := hnx2.out.some x rfl
            simp only [Option.getD_some, Option.isSome_some]
            have hv2 := hV _ _ hJ2
            obtain ⟨rg2, p2, n2, cas2, hB2, hbu2, hp2⟩ := hv2.st
            have c1 := hv2.bq.cell
            have c2 := hv2.bn.cell
            have c3 := hB2.cell
            unfold rCells at c3
            have hbe := dbegin_u z hb 0 k (by omega) hkB
            have hbg := bgN_at (l := 0) hkB base
            have HNX2 := Lib.hid hnx2.out
            have HGP := Lib.hid hgap
            have HPK := Lib.hid hpk
            clear hbu2 hp2 hnx2 hgap hpk
            gi_wp2_with fail
            refine wpIn_wide.2 (still_all (by kernel_rfl) (by kernel_rfl) ?_)
            iterate 12 still_step
            still_call (flip (hbe _))
            repeat still_step
            refine wpStill_nil ?_
            have hJ3 := hJd _ _ hJ2
            clear hJ2 c1 c2 c3 hB2 hv2 hbe
            generalize wr.drew = w3 at *
            by_cases hle : begN B base 0 k ≤ now
            · have hG : Hid (BegG B base now p0 pre2 (0 * B + k)) := Lib.hid ⟨by omega, slot_lt hB0 (by omega) hkB, HPK.out, by rw [hbg]; exact hle, fun o' g1 g2 g3 => hfr2.out.pass HGP.out o' g1 g2 g3⟩
              obtain ⟨fn, tmps, assign, body, hy, hR⟩ := hY pre2 (0 * B + k) w3 hJ3 hG.out
              have HQ1 : (((0 * B + k) / B : Nat) : Int) = (0 : Int) := by rw [Nat.mul_comm, Nat.mul_add_div hB0, Nat.div_eq_of_lt hkB]; rfl
              have HQ2 : (0 * B + k) % B = k := by rw [Nat.mul_comm, Nat.mul_add_mod, Nat.mod_eq_of_lt hkB]
              rw [HQ1, HQ2] at hy
              clear HQ1 HQ2 hbg
              gi_wp2_with fail
              refine hR.mono ?_
              rintro e W3 (⟨rfl, hJ4⟩ | ⟨rfl, hJx3⟩)
              · have hv4' := hV _ _ hJ4
                obtain ⟨rg4, p4, n4, cas4, hB4, hbu4, hp4⟩ := hv4'.st
                have hok4 := (hbu4 0 (by omega)).ok
                have c1 := hv4'.bq.cell
                have c3 := hB4.cell
                unfold rCells at c3
                have hnx := next_any (rg4 0) ((k + 1 : Nat) : Int) W3 hok4 hv4'.tab
                have HNX4 : Hid (NX p0 0 B (k + 1) ((rg4 0).next ((k + 1 : Nat) : Int))) := Lib.hid ((hbu4 0 (by omega)).nx (c := k + 1) hB64 hp4 (by rw [nxo_snoc]; omega))
                have HK1 : ((k + 1 : Nat) : Int) = (k : Int) + 1 := by omega
                rw [HK1] at hnx HNX4
                unfold Bits.val pairV at hnx
                clear hle hR hy hbu4 hp4 HK1
                gi_wp2_with fail
                refine ⟨trivial, CallsIn.mono (callsIn_wide.2 hnx) ?_⟩
                rintro e W5 ⟨rfl, hx5⟩
                have hJ5 := hJb _ _ _ hJ4 hx5
                clear hnx hx5 c1 c3 hok4 hB4 hv4' hJ4
                generalize (rg4 0).next ((k : Int) + 1) = o4 at *
                gi_wp2_with fail
                go_roundw
                case rel => exact ⟨k + 1, pre2 ++ [0 * B + k], o4, by omega, by rw [nxo_snoc]; omega, Lib.hid (by rw [nxo_snoc]; exact fun o' g1 g2 _ => absurd g1 (by omega)), rfl, rfl, HNX4, hJ5⟩
                case measure =>
                  rcases o4 with _ | x4
                  · simp [mzN, intOf]; omega
                  · obtain ⟨k4, rfl, g1, g2, _⟩ := HNX4.out.some x4 rfl
                    simp [mzN, intOf]; omega
              · gi_wp2_with fail
                (try rw [Exit.noGoto_ret])
                refine bodyPost_ret (results_none rfl _ _ _) rfl ?_
                exact ⟨⟨_, rfl⟩, .inr ⟨_, hJx3⟩⟩
            · have HF : Hid (Free B base now p0 (nxo pre2) ((0 + 1) * B)) := Lib.hid (hfr2.out.late HGP.out hB0 hkB (by omega))
              have hle2 : nxo pre2 ≤ (0 + 1) * B := by omega
              have hnle : ¬ begN B base 0 k ≤ now := hle
              clear hbg hfr2 HNX2 HGP HPK
              gi_wp2_with fail
              go_roundw
              case rel => exact ⟨0 + 1, pre2, by omega, by go_num, hle2, HF, hJ3⟩
              case measure => simp [intOf]
      · skip
        have hv := hV _ _ hJ
        obtain ⟨rg, p, nn, cas, hB, hbu, hp⟩ := hv.st
        have hok := (hbu 1 (by omega)).ok
        have c1 := hv.bq.cell
        have c3 := hB.cell
        unfold rCells at c3
        have hnx := next_any (rg 1) 0 wr hok hv.tab
        have HNX : Hid (NX p0 1 B 0 ((rg 1).next 0)) := Lib.hid ((hbu 1 (by omega)).nx (c := 0) hB64 hp (by omega))
        unfold Bits.val pairV at hnx
        gi_wp2_with fail
        refine ⟨trivial, CallsIn.mono (callsIn_wide.2 hnx) ?_⟩
        rintro e W2 ⟨rfl, hx⟩
        have hJ2 := hJb _ _ _ hJ hx
        clear hnx hx c1 c3 hok hbu hp hB hv hJ
        generalize (rg 1).next 0 = o0 at *
        gi_wp2_with fail
        gi_loopw [5, 6] (fun x y wr2 => ∃ (c : Nat) (pre2 : List Nat) (o : Option Int), c ≤ B ∧ nxo pre2 ≤ 1 * B + c ∧ Hid (Free B base now p0 (nxo pre2) (1 * B + c)) ∧ x = .int .i64 (o.getD 0) ∧ y = .bool o.isSome ∧ Hid (NX p0 1 B c o) ∧ J pre2 wr2) (fun x y _ => mzN B x y)
        case atStart => exact ⟨0, pre, o0, Nat.zero_le _, hno, hfree, rfl, rfl, HNX, hJ2⟩
        case round =>
          clear hfree hno HNX hJ2
          obtain ⟨c, pre2, o, hc, hno2, hfr2, rfl, rfl, hnx2, hJ2⟩ := hrel
          rcases o with _ | x
          · simp only [Option.getD_none, Option.isSome_none]
            have HF : Hid (Free B base now p0 (nxo pre2) ((1 + 1) * B)) := Lib.hid (hfr2.out.rest (hnx2.out.none rfl))
            have hle2 : nxo pre2 ≤ (1 + 1) * B := by omega
            have hJ3 := hJd _ _ hJ2
            have hmix : Tryz.prog.follows .mixedOrders = true := by kernel_rfl
            clear hnx2 hfr2 hJ2
            gi_wp2_with fail
            refine wpIn_wide.2 ?_
            go_big_region_o
            clear hmix
            generalize wr.drew = wr3 at *
            gi_wp2_with fail
            go_roundw
            case rel => exact ⟨1 + 1, pre2, by omega, by go_num, hle2, HF, hJ3⟩
            case measure => simp [intOf]
          · obtain ⟨k, rfl, hck, hkB, hpk, hgap⟩ := hnx2.out.some x rfl
            simp only [Option.getD_some, Option.isSome_some]
            have hv2 := hV _ _ hJ2
            obtain ⟨rg2, p2, n2, cas2, hB2, hbu2, hp2⟩ := hv2.st
            have c1 := hv2.bq.cell
            have c2 := hv2.bn.cell
            have c3 := hB2.cell
            unfold rCells at c3
            have hbe := dbegin_u z hb 1 k (by omega) hkB
            have hbg := bgN_at (l := 1) hkB base
            have HNX2 := Lib.hid hnx2.out
            have HGP := Lib.hid hgap
            have HPK := Lib.hid hpk
            clear hbu2 hp2 hnx2 hgap hpk
            gi_wp2_with fail
            refine wpIn_wide.2 (still_all (by kernel_rfl) (by kernel_rfl) ?_)
            iterate 12 still_step
            still_call (flip (hbe _))
            repeat still_step
            refine wpStill_nil ?_
            have hJ3 := hJd _ _ hJ2
            clear hJ2 c1 c2 c3 hB2 hv2 hbe
            generalize wr.drew = w3 at *
            by_cases hle : begN B base 1 k ≤ now
            · have hG : Hid (BegG B base now p0 pre2 (1 * B + k)) := Lib.hid ⟨by omega, slot_lt hB0 (by omega) hkB, HPK.out, by rw [hbg]; exact hle, fun o' g1 g2 g3 => hfr2.out.pass HGP.out o' g1 g2 g3⟩
              obtain ⟨fn, tmps, assign, body, hy, hR⟩ := hY pre2 (1 * B + k) w3 hJ3 hG.out
              have HQ1 : (((1 * B + k) / B : Nat) : Int) = (1 : Int) := by rw [Nat.mul_comm, Nat.mul_add_div hB0, Nat.div_eq_of_lt hkB]; rfl
              have HQ2 : (1 * B + k) % B = k := by rw [Nat.mul_comm, Nat.mul_add_mod, Nat.mod_eq_of_lt hkB]
              rw [HQ1, HQ2] at hy
              clear HQ1 HQ2 hbg
              gi_wp2_with fail
              refine hR.mono ?_
              rintro e W3 (⟨rfl, hJ4⟩ | ⟨rfl, hJx3⟩)
              · have hv4' := hV _ _ hJ4
                obtain ⟨rg4, p4, n4, cas4, hB4, hbu4, hp4⟩ := hv4'.st
                have hok4 := (hbu4 1 (by omega)).ok
                have c1 := hv4'.bq.cell
                have c3 := hB4.cell
                unfold rCells at c3
                have hnx := next_any (rg4 1) ((k + 1 : Nat) : Int) W3 hok4 hv4'.tab
                have HNX4 : Hid (NX p0 1 B (k + 1) ((rg4 1).next ((k + 1 : Nat) : Int))) := Lib.hid ((hbu4 1 (by omega)).nx (c := k + 1) hB64 hp4 (by rw [nxo_snoc]; omega))
                have HK1 : ((k + 1 : Nat) : Int) = (k : Int) + 1 := by omega
                rw [HK1] at hnx HNX4
                unfold Bits.val pairV at hnx
                clear hle hR hy hbu4 hp4 HK1
                gi_wp2_with fail
                refine ⟨trivial, CallsIn.mono (callsIn_wide.2 hnx) ?_⟩
                rintro e W5 ⟨rfl, hx5⟩
                have hJ5 := hJb _ _ _ hJ4 hx5
                clear hnx hx5 c1 c3 hok4 hB4 hv4' hJ4
                generalize (rg4 1).next ((k : Int) + 1) = o4 at *
                gi_wp2_with fail
                go_roundw
                case rel => exact ⟨k + 1, pre2 ++ [1 * B + k], o4, by omega, by rw [nxo_snoc]; omega, Lib.hid (by rw [nxo_snoc]; exact fun o' g1 g2 _ => absurd g1 (by omega)), rfl, rfl, HNX4, hJ5⟩
                case measure =>
                  rcases o4 with _ | x4
                  · simp [mzN, intOf]; omega
                  · obtain ⟨k4, rfl, g1, g2, _⟩ := HNX4.out.some x4 rfl
                    simp [mzN, intOf]; omega
              · gi_wp2_with fail
                (try rw [Exit.noGoto_ret])
                refine bodyPost_ret (results_none rfl _ _ _) rfl ?_
                exact ⟨⟨_, rfl⟩, .inr ⟨_, hJx3⟩⟩
            · have HF : Hid (Free B base now p0 (nxo pre2) ((1 + 1) * B)) := Lib.hid (hfr2.out.late HGP.out hB0 hkB (by omega))
              have hle2 : nxo pre2 ≤ (1 + 1) * B := by omega
              have hnle : ¬ begN B base 1 k ≤ now := hle
              clear hbg hfr2 HNX2 HGP HPK
              gi_wp2_with fail
              go_roundw
              case rel => exact ⟨1 + 1, pre2, by omega, by go_num, hle2, HF, hJ3⟩
              case measure => simp [intOf]
      · skip
        have hv := hV _ _ hJ
        obtain ⟨rg, p, nn, cas, hB, hbu, hp⟩ := hv.st
        have hok := (hbu 2 (by omega)).ok
        have c1 := hv.bq.cell
        have c3 := hB.cell
        unfold rCells at c3
        have hnx := next_any (rg 2) 0 wr hok hv.tab
        have HNX : Hid (NX p0 2 B 0 ((rg 2).next 0)) := Lib.hid ((hbu 2 (by omega)).nx (c := 0) hB64 hp (by omega))
        unfold Bits.val pairV at hnx
        gi_wp2_with fail
        refine ⟨trivial, CallsIn.mono (callsIn_wide.2 hnx) ?_⟩
        rintro e W2 ⟨rfl, hx⟩
        have hJ2 := hJb _ _ _ hJ hx
        clear hnx hx c1 c3 hok hbu hp hB hv hJ
        generalize (rg 2).next 0 = o0 at *
        gi_wp2_with fail
        gi_loopw [5, 6] (fun x y wr2 => ∃ (c : Nat) (pre2 : List Nat) (o : Option Int), c ≤ B ∧ nxo pre2 ≤ 2 * B + c ∧ Hid (Free B base now p0 (nxo pre2) (2 * B + c)) ∧ x = .int .i64 (o.getD 0) ∧ y = .bool o.isSome ∧ Hid (NX p0 2 B c o) ∧ J pre2 wr2) (fun x y _ => mzN B x y)
        case atStart => exact ⟨0, pre, o0, Nat.zero_le _, hno, hfree, rfl, rfl, HNX, hJ2⟩
        case round =>
          clear hfree hno HNX hJ2
          obtain ⟨c, pre2, o, hc, hno2, hfr2, rfl, rfl, hnx2, hJ2⟩ := hrel
          rcases o with _ | x
          · simp only [Option.getD_none, Option.isSome_none]
            have HF : Hid (Free B base now p0 (nxo pre2) ((2 + 1) * B)) := Lib.hid (hfr2.out.rest (hnx2.out.none rfl))
            have hle2 : nxo pre2 ≤ (2 + 1) * B := by omega
            have hJ3 := hJd _ _ hJ2
            have hmix : Tryz.prog.follows .mixedOrders = true := by kernel_rfl
            clear hnx2 hfr2 hJ2
            gi_wp2_with fail
            refine wpIn_wide.2 ?_
            go_big_region_o
            clear hmix
            generalize wr.drew = wr3 at *
            gi_wp2_with fail
            go_roundw
            case rel => exact ⟨2 + 1, pre2, by omega, by go_num, hle2, HF, hJ3⟩
            case measure => simp [intOf]
          · obtain ⟨k, rfl, hck, hkB, hpk, hgap⟩ := hnx2.out.some x rfl
            simp only [Option.getD_some, Option.isSome_some]
            have hv2 := hV _ _ hJ2
            obtain ⟨rg2, p2, n2, cas2, hB2, hbu2, hp2⟩ := hv2.st
            have c1 := hv2.bq.cell
            have c2 := hv2.bn.cell
            have c3 := hB2.cell
            unfold rCells at c3
            have hbe := dbegin_u z hb 2 k (by omega) hkB
            have hbg := bgN_at (l := 2) hkB base
            have HNX2 := Lib.hid hnx2.out
            have HGP := Lib.hid hgap
            have HPK := Lib.hid hpk
            clear hbu2 hp2 hnx2 hgap hpk
            gi_wp2_with fail
            refine wpIn_wide.2 (still_all (by kernel_rfl) (by kernel_rfl) ?_)
            iterate 12 still_step
            still_call (flip (hbe _))
            repeat still_step
            refine wpStill_nil ?_
            have hJ3 := hJd _ _ hJ2
            clear hJ2 c1 c2 c3 hB2 hv2 hbe
            generalize wr.drew = w3 at *
            by_cases hle : begN B base 2 k ≤ now
            · have hG : Hid (BegG B base now p0 pre2 (2 * B + k)) := Lib.hid ⟨by omega, slot_lt hB0 (by omega) hkB, HPK.out, by rw [hbg]; exact hle, fun o' g1 g2 g3 => hfr2.out.pass HGP.out o' g1 g2 g3⟩
              obtain ⟨fn, tmps, assign, body, hy, hR⟩ := hY pre2 (2 * B + k) w3 hJ3 hG.out
              have HQ1 : (((2 * B + k) / B : Nat) : Int) = (2 : Int) := by rw [Nat.mul_comm, Nat.mul_add_div hB0, Nat.div_eq_of_lt hkB]; rfl
              have HQ2 : (2 * B + k) % B = k := by rw [Nat.mul_comm, Nat.mul_add_mod, Nat.mod_eq_of_lt hkB]
              rw [HQ1, HQ2] at hy
              clear HQ1 HQ2 hbg
              gi_wp2_with fail
              refine hR.mono ?_
              rintro e W3 (⟨rfl, hJ4⟩ | ⟨rfl, hJx3⟩)
              · have hv4' := hV _ _ hJ4
                obtain ⟨rg4, p4, n4, cas4, hB4, hbu4, hp4⟩ := hv4'.st
                have hok4 := (hbu4 2 (by omega)).ok
                have c1 := hv4'.bq.cell
                have c3 := hB4.cell
                unfold rCells at c3
                have hnx := next_any (rg4 2) ((k + 1 : Nat) : Int) W3 hok4 hv4'.tab
                have HNX4 : Hid (NX p0 2 B (k + 1) ((rg4 2).next ((k + 1 : Nat) : Int))) := Lib.hid ((hbu4 2 (by omega)).nx (c := k + 1) hB64 hp4 (by rw [nxo_snoc]; omega))
                have HK1 : ((k + 1 : Nat) : Int) = (k : Int) + 1 := by omega
                rw [HK1] at hnx HNX4
                unfold Bits.val pairV at hnx
                clear hle hR hy hbu4 hp4 HK1
                gi_wp2_with fail
                refine ⟨trivial, CallsIn.mono (callsIn_wide.2 hnx) ?_⟩
                rintro e W5 ⟨rfl, hx5⟩
                have hJ5 := hJb _ _ _ hJ4 hx5
                clear hnx hx5 c1 c3 hok4 hB4 hv4' hJ4
                generalize (rg4 2).next ((k : Int) + 1) = o4 at *
                gi_wp2_with fail
                go_roundw
                case rel => exact ⟨k + 1, pre2 ++ [2 * B + k], o4, by omega, by rw [nxo_snoc]; omega, Lib.hid (by rw [nxo_snoc]; exact fun o' g1 g2 _ => absurd g1 (by omega)), rfl, rfl, HNX4, hJ5⟩
                case measure =>
                  rcases o4 with _ | x4
                  · simp [mzN, intOf]; omega
                  · obtain ⟨k4, rfl, g1, g2, _⟩ := HNX4.out.some x4 rfl
                    simp [mzN, intOf]; omega
              · gi_wp2_with fail
                (try rw [Exit.noGoto_ret])
                refine bodyPost_ret (results_none rfl _ _ _) rfl ?_
                exact ⟨⟨_, rfl⟩, .inr ⟨_, hJx3⟩⟩
            · have HF : Hid (Free B base now p0 (nxo pre2) ((2 + 1) * B)) := Lib.hid (hfr2.out.late HGP.out hB0 hkB (by omega))
              have hle2 : nxo pre2 ≤ (2 + 1) * B := by omega
              have hnle : ¬ begN B base 2 k ≤ now := hle
              clear hbg hfr2 HNX2 HGP HPK
              gi_wp2_with fail
              go_roundw
              case rel => exact ⟨2 + 1, pre2, by omega, by go_num, hle2, HF, hJ3⟩
              case measure => simp [intOf]
      · skip
        have hv := hV _ _ hJ
        obtain ⟨rg, p, nn, cas, hB, hbu, hp⟩ := hv.st
        have hok := (hbu 3 (by omega)).ok
        have c1 := hv.bq.cell
        have c3 := hB.cell
        unfold rCells at c3
        have hnx := next_any (rg 3) 0 wr hok hv.tab
        have HNX : Hid (NX p0 3 B 0 ((rg 3).next 0)) := Lib.hid ((hbu 3 (by omega)).nx (c := 0) hB64 hp (by omega))
        unfold Bits.val pairV at hnx
        gi_wp2_with fail
        refine ⟨trivial, CallsIn.mono (callsIn_wide.2 hnx) ?_⟩
        rintro e W2 ⟨rfl, hx⟩
        have hJ2 := hJb _ _ _ hJ hx
        clear hnx hx c1 c3 hok hbu hp hB hv hJ
        generalize (rg 3).next 0 = o0 at *
        gi_wp2_with fail
        gi_loopw [5, 6] (fun x y wr2 => ∃ (c : Nat) (pre2 : List Nat) (o : Option Int), c ≤ B ∧ nxo pre2 ≤ 3 * B + c ∧ Hid (Free B base now p0 (nxo pre2) (3 * B + c)) ∧ x = .int .i64 (o.getD 0) ∧ y = .bool o.isSome ∧ Hid (NX p0 3 B c o) ∧ J pre2 wr2) (fun x y _ => mzN B x y)
        case atStart => exact ⟨0, pre, o0, Nat.zero_le _, hno, hfree, rfl, rfl, HNX, hJ2⟩
        case round =>
          clear hfree hno HNX hJ2
          obtain ⟨c, pre2, o, hc, hno2, hfr2, rfl, rfl, hnx2, hJ2⟩ := hrel
          rcases o with _ | x
          · simp only [Option.getD_none, Option.isSome_none]
            have HF : Hid (Free B base now p0 (nxo pre2) ((3 + 1) * B)) := Lib.hid (hfr2.out.rest (hnx2.out.none rfl))
            have hle2 : nxo pre2 ≤ (3 + 1) * B := by omega
            have hJ3 := hJd _ _ hJ2
            have hmix : Tryz.prog.follows .mixedOrders = true := by kernel_rfl
            clear hnx2 hfr2 hJ2
            gi_wp2_with fail
            refine wpIn_wide.2 ?_
            go_big_region_o
            clear hmix
            generalize wr.drew = wr3 at *
            gi_wp2_with fail
            go_roundw
            case rel => exact ⟨3 + 1, pre2, by omega, by go_num, hle2, HF, hJ3⟩
            case measure => simp [intOf]
          · obtain ⟨k, rfl, hck, hkB, hpk, hgap⟩ := hnx2.out.some x rfl
            simp only [Option.getD_some, Option.isSome_some]
            have hv2 := hV _ _ hJ2
            obtain ⟨rg2, p2, n2, cas2, hB2, hbu2, hp2⟩ := hv2.st
            have c1 := hv2.bq.cell
            have c2 := hv2.bn.cell
            have c3 := hB2.cell
            unfold rCells at c3
            have hbe := dbegin_u z hb 3 k (by omega) hkB
            have hbg := bgN_at (l := 3) hkB base
            have HNX2 := Lib.hid hnx2.out
            have HGP := Lib.hid hgap
            have HPK := Lib.hid hpk
            clear hbu2 hp2 hnx2 hgap hpk
            gi_wp2_with fail
            refine wpIn_wide.2 (still_all (by kernel_rfl) (by kernel_rfl) ?_)
            iterate 12 still_step
            still_call (flip (hbe _))
            repeat still_step
            refine wpStill_nil ?_
            have hJ3 := hJd _ _ hJ2
            clear hJ2 c1 c2 c3 hB2 hv2 hbe
            generalize wr.drew = w3 at *
            by_cases hle : begN B base 3 k ≤ now
            · have hG : Hid (BegG B base now p0 pre2 (3 * B + k)) := Lib.hid ⟨by omega, slot_lt hB0 (by omega) hkB, HPK.out, by rw [hbg]; exact hle, fun o' g1 g2 g3 => hfr2.out.pass HGP.out o' g1 g2 g3⟩
              obtain ⟨fn, tmps, assign, body, hy, hR⟩ := hY pre2 (3 * B + k) w3 hJ3 hG.out
              have HQ1 : (((3 * B + k) / B : Nat) : Int) = (3 : Int) := by rw [Nat.mul_comm, Nat.mul_add_div hB0, Nat.div_eq_of_lt hkB]; rfl
              have HQ2 : (3 * B + k) % B = k := by rw [Nat.mul_comm, Nat.mul_add_mod, Nat.mod_eq_of_lt hkB]
              rw [HQ1, HQ2] at hy
              clear HQ1 HQ2 hbg
              gi_wp2_with fail
              refine hR.mono ?_
              rintro e W3 (⟨rfl, hJ4⟩ | ⟨rfl, hJx3⟩)
              · have hv4' := hV _ _ hJ4
                obtain ⟨rg4, p4, n4, cas4, hB4, hbu4, hp4⟩ := hv4'.st
                have hok4 := (hbu4 3 (by omega)).ok
                have c1 := hv4'.bq.cell
                have c3 := hB4.cell
                unfold rCells at c3
                have hnx := next_any (rg4 3) ((k + 1 : Nat) : Int) W3 hok4 hv4'.tab
                have HNX4 : Hid (NX p0 3 B (k + 1) ((rg4 3).next ((k + 1 : Nat) : Int))) := Lib.hid ((hbu4 3 (by omega)).nx (c := k + 1) hB64 hp4 (by rw [nxo_snoc]; omega))
                have HK1 : ((k + 1 : Nat) : Int) = (k : Int) + 1 := by omega
                rw [HK1] at hnx HNX4
                unfold Bits.val pairV at hnx
                clear hle hR hy hbu4 hp4 HK1
                gi_wp2_with fail
                refine ⟨trivial, CallsIn.mono (callsIn_wide.2 hnx) ?_⟩
                rintro e W5 ⟨rfl, hx5⟩
                have hJ5 := hJb _ _ _ hJ4 hx5
                clear hnx hx5 c1 c3 hok4 hB4 hv4' hJ4
                generalize (rg4 3).next ((k : Int) + 1) = o4 at *
                gi_wp2_with fail
                go_roundw
                case rel => exact ⟨k + 1, pre2 ++ [3 * B + k], o4, by omega, by rw [nxo_snoc]; omega, Lib.hid (by rw [nxo_snoc]; exact fun o' g1 g2 _ => absurd g1 (by omega)), rfl, rfl, HNX4, hJ5⟩
                case measure =>
                  rcases o4 with _ | x4
                  · simp [mzN, intOf]; omega
                  · obtain ⟨k4, rfl, g1, g2, _⟩ := HNX4.out.some x4 rfl
                    simp [mzN, intOf]; omega
              · gi_wp2_with fail
                (try rw [Exit.noGoto_ret])
                refine bodyPost_ret (results_none rfl _ _ _) rfl ?_
                exact ⟨⟨_, rfl⟩, .inr ⟨_, hJx3⟩⟩
            · have HF : Hid (Free B base now p0 (nxo pre2) ((3 + 1) * B)) := Lib.hid (hfr2.out.late HGP.out hB0 hkB (by omega))
              have hle2 : nxo pre2 ≤ (3 + 1) * B := by omega
              have hnle : ¬ begN B base 3 k ≤ now := hle
              clear hbg hfr2 HNX2 HGP HPK
              gi_wp2_with fail
              go_roundw
              case rel => exact ⟨3 + 1, pre2, by omega, by go_num, hle2, HF, hJ3⟩
              case measure => simp [intOf]
    · obtain rfl : v = 4 := by omega
      have hfin : Hid (BegS B base now p0 pre) := Lib.hid (fun o' h1 h2 h3 => hfree.out o' h1 h2 h3)
      gi_wp2_with fail
      go_end0
      exact ⟨⟨_, rfl⟩, .inl ⟨pre, hfin.out, hJ⟩⟩
theorem beg_seq (n : Nat) (hn : 1 ≤ n) (q bq bn tb c P b B : Nat) (base now : Int) (p0 : Nat → Bool) (z : RSz P b B) (hb : U64 base) (hw : U64 now) (w : World) :
    SeqI Fence.wide n Tryz.prog 103 #[.pointer (some ⟨bq, 0, none⟩), .pointer (some ⟨bn, 0, none⟩)] (fun o : Nat => #[Value.int .i64 (o / B : Nat), Value.int .i64 (o % B : Nat)]) (BegV q bq bn tb c P b B base now p0) (BegG B base now p0) (BegS B base now p0) w :=
  fun l J Jx W _ hA _ hV hY h0 => beg1_in n hn l q bq bn tb c P b B base now p0 z hb hw J Jx (abides_drew hA) (abides_below hA) hV hY W h0
end Go.Proofs.YtckkfbepclogcaaGreatDoor
