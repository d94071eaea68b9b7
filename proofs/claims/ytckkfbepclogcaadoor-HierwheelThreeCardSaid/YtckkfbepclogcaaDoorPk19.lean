/- Part 19: the texts HBet HDueA HNew Ref10 RefW HDo HWk HBlt Rnew Rbeg LawHL LawHS, laid end to end by a program. -/
import Derived.WalkMore
import Derived.Lib.QuietBelow
import Derived.BigRegion
import Derived.Test.YtckkfbepclogcaaDoorPk17
import Derived.Test.YtckkfbepclogcaaDoorPk18
import Derived.Test.YtckkfbepclogcaaDoorPk1
import Derived.Test.YtckkfbepclogcaaDoorPk5
import Derived.Test.YtckkfbepclogcaaDoorPk21
import Derived.Test.YtckkfbepclogcaaDoorPk3
namespace Go.Proofs.YtckkfbepclogcaaDoor
open Go.RowKit Go.Shelf Go.Sort
attribute [local go_sem] Oper.semAt_some
theorem hbetween_any (q : Nat) (now : Int) (w : World) : Calls Tryd.prog 55 #[.pointer (some ⟨q, 0, none⟩), .int .u64 now] w fun e w' =>
    e = .returned (.func (.func 83) #[] #[.pointer (some ⟨w.heap.size + 1, 0, none⟩), .pointer (some ⟨w.heap.size, 0, none⟩)]) ∧ w' = (w.alloc (.cells #[.pointer (some ⟨q, 0, none⟩)] 25)).alloc (.cells #[.int .u64 now] 22) := by
  go_enter Tryd.func55, Tryd.ntmps55
  go_wp2
  go_ret
  exact ⟨by simp, rfl⟩
/-- Behind the last one. -/
def nxo (pre : List Nat) : Nat := (pre.getLast?.map fun o => o + 1).getD 0
theorem nxo_nil : nxo [] = 0 := rfl
theorem nxo_snoc (pre : List Nat) (o : Nat) : nxo (pre ++ [o]) = o + 1 := by simp [nxo]
/-- What the iterator sees of the wheel: which slots ahead have something is as it was. -/
structure BetV (q bq bn tb c P S : Nat) (base now : Int) (p0 : Nat → Bool) (pre : List Nat) (W : World) : Prop where
  bq : Blk W bq 25 #[.pointer (some ⟨q, 0, none⟩)]
  bn : Blk W bn 22 #[.int .u64 now]
  tab : TabAt W
  st : ∃ (b : Bits) (p : Nat → Bool) (n lk : Int), Blk W q 54 #[.slice (some ⟨tb, 0, none⟩) P P, .pointer (some ⟨c, 0, none⟩), .int .i64 n, .int .i64 S, .int .i64 lk, .int .u64 b.w0, .int .u64 b.w1, .int .u64 b.w2, .int .u64 b.w3, .int .u64 base] ∧
    Busy S b p ∧ ∀ o, nxo pre ≤ o → o < S → p (slotN S base o) = p0 (slotN S base o)
def BetG (S : Nat) (base now : Int) (p0 : Nat → Bool) (pre : List Nat) (o : Nat) : Prop :=
  nxo pre ≤ o ∧ o < spanN S base now ∧ p0 (slotN S base o) = true ∧ ∀ o', nxo pre ≤ o' → o' < o → p0 (slotN S base o') = false
def BetS (S : Nat) (base now : Int) (p0 : Nat → Bool) (xs : List Nat) : Prop := ∀ o', nxo xs ≤ o' → o' < spanN S base now → p0 (slotN S base o') = false
theorem below_grown {w w' : World} (h : Below w.heap.size w w') : w.grownBy w' none := ⟨h.os, h.tape, h.output, h.size, fun k hk _ => h.block k hk⟩
theorem abides_below {β : Type} {B : Nat} {J : β → World → Prop} (h : AbidesFrom B J) : ∀ pre W W', J pre W → Below W.heap.size W W' → J pre W' := fun pre W W' hJ hb => h pre W W' none hJ (below_grown hb) (fun _ e => by cases e)
theorem hslot_blk (q S : Nat) (x0 x1 x2 x4 x5 x6 x7 x8 x9 : Value) (a : Int) (w : World) (h : Blk w q 54 #[x0, x1, x2, .int .i64 S, x4, x5, x6, x7, x8, x9]) (hS : 0 < S) (hS2 : S ≤ 256) (h0 : 0 ≤ a) (h1 : a ≤ 18446744073709551615) :
    Calls Tryd.prog 56 #[.pointer (some ⟨q, 0, none⟩), .int .u64 a] w fun e w' => e = .returned (.int .i64 ((a % S).toNat : Nat)) ∧ w = w' := by
  have hc := h.cell
  have hm0 := Int.emod_nonneg a (show (S : Int) ≠ 0 by omega)
  have hm1 := Int.emod_lt_of_pos a (show (0 : Int) < S by omega)
  have HW := Lib.hid (show (((a % S).toNat : Nat) : Int) = a % S by omega)
  have e1 : IntKind.u64.wrap (S : Int) = S := IntWalk.u64_in _ (by omega)
  have e2 : IntKind.i64.wrap (a % S) = a % S := IntWalk.i64_in _ (by omega)
  rw [HW.out]
  go_enter Tryd.func56, Tryd.ntmps56
  go_wp2
  go_ret
  exact ⟨rfl, rfl⟩
theorem scope_in {n : Nat} {P : Program} {c : Code} {Q : Exit → Go.Act → World → Prop} {a : Go.Act} {w : World} (h : c.wpIn Fence.wide n P (Exit.noGoto Q) a w) : (Code.scope c).wpIn Fence.wide n P Q a w := wpIn_wide.2 (wp_scope_straight ((wpIn_wide (n := n)).1 h))
theorem span_le (S : Nat) (base now : Int) : spanN S base now ≤ S := by
  unfold spanN
  split
  · exact Nat.zero_le _
  · omega
set_option maxRecDepth 100000 in
set_option maxHeartbeats 4000000 in
theorem hbet1_in (n : Nat) (hn : 1 ≤ n) (l q bq bn tb c P S : Nat) (base now : Int) (p0 : Nat → Bool) (z : HSz P S) (hb : U64 base) (hw : U64 now) (J Jx : List Nat → World → Prop) (hJd : ∀ pre W, J pre W → J pre W.drew) (hJb : ∀ pre W W', J pre W → Below W.heap.size W W' → J pre W')
    (hV : ∀ pre W, J pre W → BetV q bq bn tb c P S base now p0 pre W)
    (hY : ∀ pre x W, J pre W → BetG S base now p0 pre x → YieldAt Fence.wide (n - 1) Tryd.prog l #[.int .i64 (slotN S base x : Nat)] W fun e W' =>
      (e = .returned (.bool true) ∧ J (pre ++ [x]) W') ∨ (e = .returned (.bool false) ∧ Jx (pre ++ [x]) W'))
    (W : World) (hJ0 : J [] W) :
    CallsIn Fence.wide n Tryd.prog 83 #[.func (.yield l) #[] #[], .pointer (some ⟨bn, 0, none⟩), .pointer (some ⟨bq, 0, none⟩)] W fun e W' => (∃ v, e = .returned v) ∧
      ((∃ xs, BetS S base now p0 xs ∧ J xs W') ∨ ∃ pre, Jx pre W') := by
  have hS := z.hS
  have hS2 := z.hS2
  obtain ⟨b0, b1⟩ := hb
  obtain ⟨w0, w1⟩ := hw
  have hv := hV _ _ hJ0
  obtain ⟨b, p, nn, lk, hB, hbu, hp⟩ := hv.st
  have c1 := hv.bq.cell
  have c2 := hv.bn.cell
  have c3 := hB.cell
  clear hbu hp
  refine callsIn_of_wp Tryd.func83 rfl trivial ?_ rfl
  simp only [Tryd.ntmps83, List.size_toArray, List.length_cons, List.length_nil, Nat.reduceAdd, Nat.reduceSub, Array.replicate_succ, Array.replicate_zero, List.push_toArray, List.append_toArray, List.nil_append, List.cons_append]
  refine scope_in ?_
  gi_wp2_with fail
  refine wpIn_wide.2 (still_all (by kernel_rfl) (by kernel_rfl) ?_)
  repeat still_step
  refine wpStill_nil ?_
  replace hJ0 := hJd _ _ hJ0
  by_cases hlt : now ≤ base
  · have hsp : BetS S base now p0 [] := fun o' _ h => by
      unfold spanN at h
      rw [if_pos hlt] at h
      omega
    gi_wp2
    (try rw [Exit.noGoto_ret])
    refine bodyPost_ret (results_none rfl _ _ _) rfl ?_
    exact ⟨⟨_, rfl⟩, .inl ⟨_, hsp, hJ0⟩⟩
  · have hspn : Hid (spanN S base now = min (now - base).toNat S) := Lib.hid (by unfold spanN; rw [if_neg hlt])
    have e1 : IntKind.u64.wrap (now - base) = now - base := IntWalk.u64_in _ (by omega)
    have e2 : IntKind.u64.wrap (S : Int) = S := IntWalk.u64_in _ (by omega)
    gi_wp2_with fail
    refine wpIn_wide.2 (still_all (by kernel_rfl) (by kernel_rfl) ?_)
    repeat still_step
    refine wpStill_nil ?_
    have e3 : IntKind.i64.wrap (min (now - base) (S : Int)) = ((spanN S base now : Nat) : Int) := by
      rw [hspn.out, IntWalk.i64_in _ (by omega)]
      omega
    rw [e3]
    have hms := span_le S base now
    generalize hme : spanN S base now = m at *
    replace hJ0 := hJd _ _ hJ0
    have e4 : IntKind.u64.wrap (base + 1) = base + 1 := IntWalk.u64_in _ (by omega)
    have hsl := hslot_blk q S _ _ _ _ _ _ _ _ _ (base + 1) W.drew.drew.drew hB.drew.drew.drew hS hS2 (by omega) (by omega)
    rw [show ((base + 1) % (S : Int)).toNat = slotN S base 0 from by unfold slotN; rw [show base + 1 + ((0 : Nat) : Int) = base + 1 by omega]] at hsl
    have hme' := Lib.hid hme
    clear hme hspn e1 e2 e3
    gi_wp2_with fail
    refine wpIn_wide.2 (still_all (by kernel_rfl) (by kernel_rfl) ?_)
    iterate 6 still_step
    still_call (flip hsl)
    repeat still_step
    refine wpStill_nil ?_
    replace hJ0 := hJd _ _ hJ0
    clear e4 hsl c1 c2 c3 hB hv
    generalize W.drew.drew.drew = W0 at *
    have hf0 := slotN_lt hS base 0
    generalize hfe : slotN S base 0 = f at *
    have hfe' := Lib.hid hfe
    gi_wp2_with fail
    refine wpIn_label ?_
    gi_wp2_with fail
    gi_loopw [6] (fun p wr => ∃ (o : Nat) (pre : List Nat), o ≤ 2 * S ∧ p = .int .i64 o ∧ nxo pre ≤ o ∧ Hid (∀ o', nxo pre ≤ o' → o' < o → o' < m → p0 (slotN S base o') = false) ∧ J pre wr) (fun p _ => 2 * S - (intOf p).toNat)
    case atStart => exact ⟨0, [], Nat.zero_le _, rfl, Nat.le_refl _, Lib.hid (fun o' _ h => absurd h (by omega)), hJ0⟩
    case round =>
      clear hJ0
      obtain ⟨o, pre, ho2, rfl, hno, hfree, hJ⟩ := hrel
      by_cases hom : o < m
      · have hv := hV _ _ hJ
        obtain ⟨b, p, nn, lk, hB, hbu, hp⟩ := hv.st
        have c1 := hv.bq.cell
        have c3 := hB.cell
        have hom2 : (o : Int) < (m : Int) := by omega
        have hmod := Nat.mod_lt (f + o) hS
        have e6 : ((f : Int) + (o : Int)) % (S : Int) = (((f + o) % S : Nat) : Int) := by rw [Int.natCast_emod, Int.natCast_add]
        gi_wp2_with fail
        rw [e6]
        have HA : Hid (slotN S base o = (f + o) % S) := Lib.hid (by rw [slotN_of hS, hfe'.out])
        clear e6
        generalize (f + o) % S = a at *
        have hrd : ∀ d os, Calls Tryd.prog 84 #[.agg #[.int .u64 b.w0, .int .u64 b.w1, .int .u64 b.w2, .int .u64 b.w3], .int .i64 a, .int .i64 S] (grow (redrawn wr d) os) fun e w'' => e = .returned (pairV (b.round a S)) ∧ ∃ p : Regrown, w'' = grow (redrawn wr p.d) p.os := fun d os =>
          Calls.regrown_of (round_any b a S _ hbu.ok (hv.tab.below (below_regrown wr d os) (glob_lt hv.tab)))
        have hRo := hbu.round hS2 hmod
        have k0 := cell_regrown (c1 0)
        have k3 := cell_regrown (c3 3)
        have k5 := cell_regrown (c3 5)
        have k6 := cell_regrown (c3 6)
        have k7 := cell_regrown (c3 7)
        have k8 := cell_regrown (c3 8)
        clear hB hbu hv c1 c3
        refine wpIn_wide.2 ?_
        cases hr : b.round a S with
        | none =>
          rw [hr] at hrd
          unfold pairV at hrd
          refine wp_region_quiet_below (by kernel_rfl) (by kernel_rfl) ?_
          repeat (quiet_step (exact hrd _ _))
          refine wpQuiet_nil ?_
          intro _ hw'
          obtain ⟨⟨dq, osq⟩, hw''⟩ := hw'
          subst hw''
          have hJ2 := hJb _ _ _ hJ (below_regrown wr dq osq)
          generalize grow (redrawn wr dq) osq = w2 at *
          clear hrd hJ k0 k3 k5 k6 k7 k8
          have hfin : Hid (BetS S base now p0 pre) := Lib.hid (fun o' h1 h2 => by
            rw [hme'.out] at h2
            rw [← hp o' h1 (by omega)]
            exact hRo.1 hr _ (slotN_lt hS base o'))
          clear hRo hp hr
          gi_wp2_with fail
          rw [Exit.noGoto_normal]
          go_end0
          exact ⟨⟨_, rfl⟩, .inl ⟨pre, hfin.out, hJ2⟩⟩
        | some x =>
          obtain ⟨k, rfl, hkS, hpk, hgap⟩ := hRo.2 x hr
          rw [hr] at hrd
          unfold pairV at hrd
          refine wp_region_quiet_below (by kernel_rfl) (by kernel_rfl) ?_
          repeat (quiet_step (exact hrd _ _))
          refine wpQuiet_nil ?_
          intro _ hw'
          obtain ⟨⟨dq, osq⟩, hw''⟩ := hw'
          subst hw''
          have hJ2 := hJb _ _ _ hJ (below_regrown wr dq osq)
          generalize grow (redrawn wr dq) osq = w2 at *
          clear hrd hJ k0 k3 k5 k6 k7 k8 hRo hr
          have hv2 := hV _ _ hJ2
          obtain ⟨b2, p2, n2, lk2, hB2, _, _⟩ := hv2.st
          have c1 := hv2.bq.cell
          have c3 := hB2.cell
          have hdS := Nat.mod_lt (k + S - a) hS
          have e7 : ((k : Int) - (a : Int) + (S : Int)) % (S : Int) = (((k + S - a) % S : Nat) : Int) := by
            rw [show (k : Int) - (a : Int) + (S : Int) = ((k + S - a : Nat) : Int) by omega, Int.natCast_emod]
          have e8 : ((k : Int) - (a : Int) + (S : Int)).tmod (S : Int) = (((k + S - a) % S : Nat) : Int) := by
            rw [show (k : Int) - (a : Int) + (S : Int) = ((k + S - a : Nat) : Int) by omega, Int.ofNat_tmod]
          have e9 : 0 ≤ (k : Int) - (a : Int) + (S : Int) := by omega
          have hkey : Hid ((a + (k + S - a) % S) % S = k) := Lib.hid (by
            rw [Nat.add_mod_mod, show a + (k + S - a) = k + S by omega, Nat.add_mod_right, Nat.mod_eq_of_lt hkS])
          clear hv2
          generalize (k + S - a) % S = d at *
          gi_wp2_with fail
          refine wpIn_wide.2 (still_all (by kernel_rfl) (by kernel_rfl) ?_)
          have f0 : ¬ S = 0 := by omega
          have f1 : IntKind.i64.wrap ((k : Int) - (a : Int)) = (k : Int) - (a : Int) := IntWalk.i64_in _ (by omega)
          have f2 : IntKind.i64.wrap ((k : Int) - (a : Int) + (S : Int)) = (k : Int) - (a : Int) + (S : Int) := IntWalk.i64_in _ (by omega)
          have f3 : IntKind.i64.wrap ((o : Int) + (d : Int)) = (o : Int) + (d : Int) := IntWalk.i64_in _ (by omega)
          repeat still_step
          refine wpStill_nil ?_
          clear f0 f1 f2 f3
          replace hJ2 := hJd _ _ hJ2
          clear c1 c3 hB2 e7 e8 e9
          generalize w2.drew = w3 at *
          have hfree2 : Hid (∀ o', nxo pre ≤ o' → o' < o + d → o' < m → p0 (slotN S base o') = false) := Lib.hid (fun o' h1 h2 h3 => by
            by_cases hoo : o' < o
            · exact hfree.out o' h1 hoo h3
            · rw [← hp o' h1 (by omega)]
              have := hgap (o' - o) (by omega)
              rw [← HA.out] at this
              have e8 : slotN S base o' = (slotN S base o + (o' - o)) % S := by
                rw [slotN_of hS base o', slotN_of hS base o, Nat.mod_add_mod]
                congr 1
                omega
              rw [e8]
              exact this)
          by_cases hod : o + d < m
          · have hG : Hid (BetG S base now p0 pre (o + d)) := Lib.hid (by
              refine ⟨by omega, by rw [hme'.out]; exact hod, ?_, fun o' h1 h2 => hfree2.out o' h1 h2 (by omega)⟩
              have e8 : slotN S base (o + d) = k := by
                rw [slotN_of hS base (o + d), ← hkey.out, ← HA.out, slotN_of hS base o, Nat.mod_add_mod]
                congr 1
                omega
              rw [← hp _ (by omega) (by omega), e8]
              exact hpk)
            have HK : Hid (slotN S base (o + d) = k) := Lib.hid (by
              rw [slotN_of hS base (o + d), ← hkey.out, ← HA.out, slotN_of hS base o, Nat.mod_add_mod]
              congr 1
              omega)
            obtain ⟨fn, tmps, assign, body, hy, hR⟩ := hY pre (o + d) w3 hJ2 hG.out
            rw [HK.out] at hy
            clear hp hgap hV
            gi_wp2_with fail
            refine hR.mono ?_
            rintro e W3 (⟨rfl, hJ3⟩ | ⟨rfl, hJx3⟩)
            · have hW : Hid (nxo (pre ++ [o + d]) ≤ o + d + 1 ∧ ∀ o', nxo (pre ++ [o + d]) ≤ o' → o' < o + d + 1 → o' < m → p0 (slotN S base o') = false) := Lib.hid (by
                rw [nxo_snoc]
                exact ⟨Nat.le_refl _, fun o' h1 h2 => absurd h1 (by omega)⟩)
              gi_wp2_with fail
              go_roundw
              case rel => exact ⟨o + d + 1, pre ++ [o + d], by omega, by go_num, hW.out.1, Lib.hid hW.out.2, hJ3⟩
              case measure => simp [intOf]; omega
            · gi_wp2_with fail
              (try rw [Exit.noGoto_ret])
              refine bodyPost_ret (results_none rfl _ _ _) rfl ?_
              exact ⟨⟨_, rfl⟩, .inr ⟨_, hJx3⟩⟩
          · clear hp hgap
            gi_wp2_with fail
            go_roundw
            case rel => exact ⟨o + d, pre, by omega, by go_num, by omega, hfree2, hJ2⟩
            case measure => simp [intOf]; omega
      · have hfin : Hid (BetS S base now p0 pre) := Lib.hid (fun o' h1 h2 => by
          rw [hme'.out] at h2
          exact hfree.out o' h1 (by omega) h2)
        gi_wp2_with fail
        rw [Exit.noGoto_normal]
        go_end0
        exact ⟨⟨_, rfl⟩, .inl ⟨pre, hfin.out, hJ⟩⟩
theorem hbet_seq (n : Nat) (hn : 1 ≤ n) (q bq bn tb c P S : Nat) (base now : Int) (p0 : Nat → Bool) (z : HSz P S) (hb : U64 base) (hw : U64 now) (w : World) :
    SeqI Fence.wide n Tryd.prog 83 #[.pointer (some ⟨bn, 0, none⟩), .pointer (some ⟨bq, 0, none⟩)] (fun o : Nat => #[Value.int .i64 (slotN S base o : Nat)]) (BetV q bq bn tb c P S base now p0) (BetG S base now p0) (BetS S base now p0) w :=
  fun l J Jx W _ hA _ hV hY h0 => hbet1_in n hn l q bq bn tb c P S base now p0 z hb hw J Jx (abides_drew hA) (abides_below hA) hV hY W h0
end Go.Proofs.YtckkfbepclogcaaDoor
namespace Go.Proofs.YtckkfbepclogcaaDoor
open Go.RowKit Go.Shelf
attribute [local go_sem] Oper.semAt_some
theorem Took.trans {P N : Nat} {f : Int → Timer → Nat} {s0 s s2 : HSt} {D : Timer → Prop} {l l2 : List Timer} (h : Took P N f s0 D l s) (k : Took P N f s D l2 s2) : Took P N f s0 D (l ++ l2) s2 :=
  ⟨k.ok, k.tm.trans h.tm, k.base.trans h.base, by
    rw [List.append_assoc]
    exact (List.Perm.append_left l k.perm).trans h.perm, fun x hx => by
      rcases List.mem_append.1 hx with hx | hx
      · exact h.due x hx
      · exact k.due x hx, fun i hi j hj => h.sub i hi j (k.sub i hi j hj)⟩
theorem Gone.one_more {P S : Nat} {s0 s s2 : HSt} {now : Int} {l l2 : List Timer} {looked off : Nat} (h : Gone P S s0 now off l s looked) (hS : 0 < S) (ho : off < S) (hb : busyAt s0 (slotN S s0.base off) = true) (d : DueOf P S s (slotN S s0.base off) now l2 s2) :
    Gone P S s0 now (off + 1) (l ++ l2) s2 (looked + 1) := h.one hS ho hb (h.took.trans d.took) d.took.sub d.left d.else_
/-- What a turn of a block that holds no cells keeps. -/
def CK (w w' : World) : Prop := ∀ (g : Nat) (o : Obj), w.heap[g]? = some o → o.isCells = true → w'.heap[g]? = w.heap[g]?
theorem ck_of {w w' : World} {row : Option Nat} (hg : w.grownBy w' row) (hr : ∀ r, row = some r → ∃ o : Obj, w.heap[r]? = some o ∧ o.isCells = false) : CK w w' := fun _ _ ho hc => grownBy_keeps_cells hg hr ho hc
section
variable {w w' : World} {q tb c nb P S N g : Nat} {s : HSt} {b : Bits} {lk : Int}
theorem Blk.ck {t : TypeId} {cs : Array Value} (h : Blk w g t cs) (k : CK w w') : Blk w' g t cs := (k g _ h rfl).trans h
theorem CM.ck {inn : Nat → Option Nat} {L : Nat → List Nat} (h : CM w c nb P N inn L) (k : CK w w') : CM w' c nb P N inn L := by
  obtain ⟨nx, pv, h1, h2⟩ := h.st
  exact ⟨nx, pv, ⟨h1.blk.ck k, h1.nod.ck k⟩, h2⟩
theorem HM.ck (h : HM w q tb c nb P S s b lk) (k : CK w w') : HM w' q tb c nb P S s b lk := ⟨h.blk.ck k, h.tms.ck k, h.ch.ck k, h.busy, h.ok⟩
theorem own_cells {base : Nat} {v : Value} {l : List Timer} (h : OwnT w base v l) : ∀ g, v.ownBlock = some g → ∃ o : Obj, w.heap[g]? = some o ∧ o.isCells = true := by
  intro g hg
  rcases h.2 with ⟨rfl, _⟩ | ⟨g', cap, cur, rfl, _, hh, _⟩
  · cases hg
  · simp only [Value.ownBlock, Option.some.injEq] at hg
    subst hg
    exact ⟨_, hh, rfl⟩
theorem OwnT.ck {base : Nat} {v : Value} {l : List Timer} (h : OwnT w base v l) (k : CK w w') : OwnT w' base v l := ownsRow_keep h fun g _ hgo => by
  obtain ⟨o, ho, hc⟩ := own_cells h g hgo
  exact k g o ho hc
theorem TabAt.ck (h : TabAt w) (k : CK w w') : TabAt w' := fun j hj => by
  obtain ⟨o, ho, hc⟩ := cells_of_cell (h j hj)
  exact (World.cell?_of_block (k _ o ho hc)).trans (h j hj)
end
theorem keeps_chg {B : Nat} {T : Nat → Prop} {w w' : World} (h : Chg T w w') (hc : ∀ k o, T k → w.heap[k]? = some o → o.isCells = true) : KeepsFrom B w w' :=
  ⟨h.size, fun k o _ hk ho => by
    have hlt := (Array.getElem?_eq_some_iff.1 hk).1
    by_cases hT : T k
    · rw [hc k o hT hk] at ho; cases ho
    · exact (h.block k hlt hT).trans hk⟩
theorem chg_ownFrom {β : Type} {B : Nat} {T : Nat → Prop} {w : World} (hB : w.heap.size ≤ B) : OwnFrom B (fun (_ : β) W => Chg T w W) := fun _ X Y row hs hg hr =>
  ⟨hg.os.trans hs.os, hg.tape.trans hs.tape, hg.output.trans hs.output, Nat.le_trans hs.size hg.size, fun k hk hn => (hg.block k (Nat.lt_of_lt_of_le hk hs.size) (fun e => by have := (hr k e.symm).1; omega)).trans (hs.block k hk hn)⟩
/-- What lies between two rounds. -/
structure DueI (q bq bn aq an g5 tb c nb P S base0 : Nat) (s0 : HSt) (now : Int) (w : World) (pre : List Nat) (W : World) : Prop where
  bq : Blk W bq 25 #[.pointer (some ⟨q, 0, none⟩)]
  bn : Blk W bn 22 #[.int .u64 now]
  aq : Blk W aq 25 #[.pointer (some ⟨q, 0, none⟩)]
  an : Blk W an 22 #[.int .u64 now]
  tab : TabAt W
  chg : Chg (HS q tb nb) w W
  span : nxo pre ≤ spanN S s0.base now
  st : ∃ s b l v lk, HM W q tb c nb P S s b (lk : Nat) ∧ Gone P S s0 now (nxo pre) l s lk ∧ Blk W g5 29 #[v] ∧ OwnT W base0 v l
theorem DueI.view {q bq bn aq an g5 tb c nb P S base0 : Nat} {s0 : HSt} {now : Int} {w : World} {pre : List Nat} {W : World} (h : DueI q bq bn aq an g5 tb c nb P S base0 s0 now w pre W) : BetV q bq bn tb c P S s0.base now (busyAt s0) pre W := by
  obtain ⟨s, b, l, v, lk, hm, hg, h5, ho⟩ := h.st
  refine ⟨h.bq, h.bn, h.tab, b, busyAt s, (s.pend P).length, lk, ?_, hm.busy, ?_⟩
  · have := hm.blk
    rw [hg.took.base] at this
    exact this
  · intro o h1 h2
    unfold busyAt
    rw [hg.ahead o h1 h2]
theorem DueI.own {q bq bn aq an g5 tb c nb P S base0 B : Nat} {s0 : HSt} {now : Int} {w : World} (hB : w.heap.size ≤ B) : OwnFrom B (DueI q bq bn aq an g5 tb c nb P S base0 s0 now w) := fun pre X Y row hs hg hr => by
  have k := ck_of hg (fun r e => (hr r e).2)
  obtain ⟨s, b, l, v, lk, hm, hgo, h5, ho⟩ := hs.st
  exact ⟨hs.bq.ck k, hs.bn.ck k, hs.aq.ck k, hs.an.ck k, hs.tab.ck k, chg_ownFrom hB pre X Y row hs.chg hg hr, hs.span, s, b, l, v, lk, hm.ck k, hgo, h5.ck k, ho.ck k⟩
theorem no_exit {F : Fence} {n : Nat} {P : Program} {c : Code} {K : Go.Act → World → Prop} {Q : Exit → Go.Act → World → Prop} {a : Go.Act} {w : World} (h : c.wpIn F n P (Exit.then K (fun _ _ _ => False)) a w) : c.wpIn F n P (Exit.then K Q) a w :=
  wpIn_mono h fun e a w hq => by cases e <;> first | exact hq | exact hq.elim
theorem busy_at0 {s : HSt} {b : Int} : busyAt { s with base := b } = busyAt s := rfl
theorem HM.look {w : World} {q tb c nb P S : Nat} {s : HSt} {b : Bits} {lk : Int} (h : HM w q tb c nb P S s b lk) (x : Int) : HM (w.setCell ⟨q, 4, none⟩ (.int .i64 x)) q tb c nb P S s b x := by
  have k : Chg (fun g => g = q) w (w.setCell ⟨q, 4, none⟩ (.int .i64 x)) := (Chg.refl (fun g => g = q) w).setCell (fun _ => rfl) _
  exact ⟨h.blk.put 4 _, h.tms.chg k (fun e => h.qtb e.symm), h.ch.chg k (fun e => h.qc e.symm) (fun e => h.qnb e.symm), h.busy, h.ok⟩
theorem OwnT.chg {w w' : World} {base : Nat} {v : Value} {l : List Timer} {T : Nat → Prop} (h : OwnT w base v l) (k : Chg T w w') (hn : ∀ g, v.ownBlock = some g → ¬ T g) : OwnT w' base v l :=
  ownsRow_keep h fun g hg hgo => k.block g hg (hn g hgo)
theorem own_blk {w : World} {base : Nat} {v : Value} {l : List Timer} (h : OwnT w base v l) : ∀ g, v.ownBlock = some g → ∃ cur, Blk w g 37 cur := by
  intro g hg
  rcases h.2 with ⟨rfl, _⟩ | ⟨g', cap, cur, rfl, _, hh, _⟩
  · cases hg
  · simp only [Value.ownBlock, Option.some.injEq] at hg
    subst hg
    exact ⟨cur, hh⟩
theorem HM.tabne {w : World} {q tb c nb P S : Nat} {s : HSt} {b : Bits} {lk : Int} (h : HM w q tb c nb P S s b lk) (hT : TabAt w) : 0 ≠ q ∧ 0 ≠ tb ∧ 0 ≠ nb := by
  have h0 := hT 0 (by omega)
  refine ⟨fun e => ?_, fun e => ?_, fun e => ?_⟩
  · have h1 := h.blk.cell 0
    rw [← e, h0] at h1
    cases h1
  · have h1 := h.tms.cell 0
    rw [← e, h0] at h1
    by_cases hP : 0 < P
    · have h2 := tmC_at P s.tm 0 hP
      rw [Nat.zero_mul] at h2
      rw [h2] at h1
      cases h1
    · rw [Array.getElem?_eq_none (by rw [tmC_size]; omega)] at h1
      cases h1
  · obtain ⟨nx, pv, h3, _⟩ := h.ch.st
    have h1 := h3.nod.cell 0
    rw [← e, h0] at h1
    have h2 := nodeC_nx (P + (S + 1)) nx pv s.inn 0 (by omega)
    rw [Nat.zero_mul] at h2
    rw [h2] at h1
    cases h1
theorem TabAt.chg {w w' : World} {T : Nat → Prop} (h : TabAt w) (k : Chg T w w') (hn : ¬ T 0) : TabAt w' := fun j hj => (k.cell (p := ⟨0, j, none⟩) (glob_lt h) hn).trans (h j hj)
/-- The facts of Due's first statement. -/
def FDu (q tb c nb P S base0 : Nat) (s : HSt) (lk now : Int) : Nat → Value → World → Prop := fun k v w => match k with
  | 3 => v = .pointer (some ⟨q, 3, none⟩)
  | 4 => v = .int .i64 S
  | 5 => v = .int .u64 now
  | 6 => ∃ l' s' b', HM w q tb c nb P S s' b' lk ∧ OwnT w base0 v l' ∧ DueOf P S s S now l' s'
  | 7 => ∃ g, v = .pointer (some ⟨g, 0, none⟩) ∧ base0 ≤ g ∧ Blk w g 29 #[.slice none 0 0]
  | _ => v = .pointer (some ⟨q, 0, none⟩)
structure SDu (q bq bn tb c nb P S base0 : Nat) (s : HSt) (b : Bits) (lk now : Int) (w0 : World) (ph : Bool) (w : World) : Prop where
  bq : Blk w bq 25 #[.pointer (some ⟨q, 0, none⟩)]
  bn : Blk w bn 22 #[.int .u64 now]
  tab : TabAt w
  chg : Chg (HS q tb nb) w0 w
  size : base0 ≤ w.heap.size
  st : ∃ s' b', HM w q tb c nb P S s' b' lk ∧ (ph = false → s' = s ∧ b' = b)
def RDu (q tb c nb P S : Nat) (lk : Int) : Nat → World → World → Prop := fun i w w' =>
  if i = 6 then w.heap.size ≤ w'.heap.size ∧ Chg (fun g => g = q ∨ g = nb) w w' ∧ ∃ s' b', HM w' q tb c nb P S s' b' lk else Below w.heap.size w w'
section
variable {q bq bn tb c nb P S base0 : Nat} {s : HSt} {b : Bits} {lk now : Int} {w0 : World}
theorem FDu.keep (hq : q < base0) (hn : nb < base0) : ∀ i j v w w', j ≠ i → FDu q tb c nb P S base0 s lk now j v w → RDu q tb c nb P S lk i w w' → FDu q tb c nb P S base0 s lk now j v w' := by
  intro i j v w w' hji h k
  unfold FDu at *
  unfold RDu at k
  split at h
  · exact h
  · exact h
  · exact h
  · rw [if_neg (by omega)] at k
    obtain ⟨l', s', b', h1, h2, h3⟩ := h
    exact ⟨l', s', b', h1.below k, h2.below k (Nat.le_refl _), h3⟩
  · obtain ⟨g, e, hg, hb⟩ := h
    refine ⟨g, e, hg, ?_⟩
    split at k
    · exact hb.chg k.2.1 (by omega)
    · exact hb.below k hb.lt
  · exact h
theorem SDu.keep (hq : q < w0.heap.size) (hn : nb < w0.heap.size) (hbq : w0.heap.size ≤ bq) (hbn : w0.heap.size ≤ bn) : ∀ i ph w w', (i = 6 → ph = false) → SDu q bq bn tb c nb P S base0 s b lk now w0 ph w → RDu q tb c nb P S lk i w w' → SDu q bq bn tb c nb P S base0 s b lk now w0 (ph || decide (i = 6)) w' := by
  intro i ph w w' _ h k
  unfold RDu at k
  obtain ⟨s1, b1, hm, he⟩ := h.st
  split at k
  · rename_i hi
    obtain ⟨k1, k2, s', b', hm'⟩ := k
    have ht := hm.tabne h.tab
    refine ⟨h.bq.chg k2 (by omega), h.bn.chg k2 (by omega), h.tab.chg k2 (fun e => by rcases e with e | e; exact ht.1 e; exact ht.2.2 e), h.chg.trans k2 (fun _ _ e => by rcases e with e | e; exact .inl e; exact .inr (.inr e)), Nat.le_trans h.size k1, s', b', hm', fun e => ?_⟩
    rw [decide_eq_true hi, Bool.or_true] at e
    cases e
  · rename_i hi
    rw [decide_eq_false hi, Bool.or_false]
    exact ⟨h.bq.below k h.bq.lt, h.bn.below k h.bn.lt, h.tab.below k (glob_lt h.tab), h.chg.trans (Chg.of_same k (HS q tb nb)) (fun _ _ e => e), Nat.le_trans h.size k.size, s1, b1, hm.below k, he⟩
theorem RDu.size : ∀ i w w', RDu q tb c nb P S lk i w w' → w.heap.size ≤ w'.heap.size := by
  intro i w w' k
  unfold RDu at k
  split at k
  · exact k.1
  · exact k.size
end
set_option linter.unusedSimpArgs false in
set_option maxRecDepth 100000 in
set_option maxHeartbeats 4000000 in
theorem hDue_in (q tb c nb P S : Nat) (s : HSt) (b : Bits) (lk now : Int) (m : List Timer) (w : World) (h : HM w q tb c nb P S s b lk) (hp : PRel P s.on s.tm m) (z : HSz P S) (hb : U64 s.base) (hw : U64 now) (hT : TabAt w) :
    CallsIn Fence.wide 3 Tryd.prog 28 #[.pointer (some ⟨q, 0, none⟩), .int .u64 now] w fun e w' => ∃ v, e = .returned v ∧ OwnT w' w.heap.size v (dueL m now true) ∧ HQ w' q tb c nb P S (max s.base now) (lookL m s.base S now) (dueL m now false) ∧ Chg (HS q tb nb) w w' := by
  have hS := z.hS
  have hS2 := z.hS2
  have hP := z.hP
  obtain ⟨l0, l1, l2, l3⟩ := h.lts
  have hbx := two_new w (.cells #[.pointer (some ⟨q, 0, none⟩)] 25) (.cells #[.int .u64 now] 22)
  have hB1 : Blk ((w.alloc (.cells #[.pointer (some ⟨q, 0, none⟩)] 25)).alloc (.cells #[.int .u64 now] 22)) w.heap.size 25 #[.pointer (some ⟨q, 0, none⟩)] := (Blk.new _ _ _).alloc _
  have hB2 : Blk ((w.alloc (.cells #[.pointer (some ⟨q, 0, none⟩)] 25)).alloc (.cells #[.int .u64 now] 22)) (w.heap.size + 1) 22 #[.int .u64 now] := alloc2_at _ _ _ _
  have h1 := h.below hbx
  have hT1 : TabAt ((w.alloc (.cells #[.pointer (some ⟨q, 0, none⟩)] 25)).alloc (.cells #[.int .u64 now] 22)) := hT.below hbx (glob_lt hT)
  have hsz : ((w.alloc (.cells #[.pointer (some ⟨q, 0, none⟩)] 25)).alloc (.cells #[.int .u64 now] 22)).heap.size = w.heap.size + 1 + 1 := by simp
  refine callsIn_of_wp_marks Tryd.func28 rfl trivial ?_ rfl
  simp only [Tryd.ntmps28, List.size_toArray, List.length_cons, List.length_nil, Nat.reduceAdd, Nat.reduceSub, Array.replicate_succ, Array.replicate_zero, List.push_toArray, List.append_toArray, List.nil_append, List.cons_append]
  gi_wp2_with fail
  generalize (w.alloc (.cells #[.pointer (some ⟨q, 0, none⟩)] 25)).alloc (.cells #[.int .u64 now] 22) = W1 at *
  refine no_exit (wpIn_wide.2 ?_)
  have hk0 : SDu q w.heap.size (w.heap.size + 1) tb c nb P S (w.heap.size + 1 + 1) s b lk now w false W1.drew := ⟨hB1.drew, hB2.drew, hT1, (Chg.of_same hbx _).drew, by rw [← hsz]; exact Nat.le_refl _, s, b, h1.drew, fun _ => ⟨rfl, rfl⟩⟩
  clear hB1 hB2 h1 hT1 hbx
  refine region_facts_turn 8 6 (by kernel_rfl) (fun _ => false) (FDu q tb c nb P S (w.heap.size + 1 + 1) s lk now) (SDu q w.heap.size (w.heap.size + 1) tb c nb P S (w.heap.size + 1 + 1) s b lk now w) (RDu q tb c nb P S lk) (List.range' 7 7 ++ [5]) (by kernel_rfl) (by kernel_rfl) (by kernel_rfl) (by decide) (by kernel_rfl) (by kernel_rfl) (FDu.keep (by omega) (by omega)) (SDu.keep l0 l3 (Nat.le_refl _) (by omega)) RDu.size hk0 ?_ ?_
  · intro fr hfr
    have f2 : fr.getD 2 undef = .pointer (some ⟨w.heap.size, 0, none⟩) := by rw [hfr]; rfl
    have f3 : fr.getD 3 undef = .pointer (some ⟨w.heap.size + 1, 0, none⟩) := by rw [hfr]; rfl
    clear hfr
    iterate 6
      refine ⟨⟨trivial, ?_⟩, ?_⟩
      · intro ρ w' ph _ hρ hd hS
        simp only [DepF, Region.binds, dat, Nat.reduceLT, Nat.reduceAdd, FDu, forall_const, and_true, true_and] at hd
        have hcon := hρ.con
        have e2 := (hρ.slot 2 (by kernel_rfl)).trans f2
        have e3 := (hρ.slot 3 (by kernel_rfl)).trans f3
        have hc1 := hS.bq.cell
        have hc2 := hS.bn.cell
        obtain ⟨s1, b1, hm1, _⟩ := hS.st
        have hc3 := hm1.blk.cell
        go_simp
        simp only [GoodP, FDu, RDu]
        first
          | exact ⟨trivial, by rw [if_neg (by decide)]; exact Below.refl _ _, fun h => absurd h (by decide)⟩
          | exact ⟨rfl, by rw [if_neg (by decide)]; exact Below.refl _ _, fun h => absurd h (by decide)⟩
    refine ⟨⟨trivial, ?_⟩, ?_⟩
    · intro ρ w' ph hph hρ hd hS
      simp only [DepF, Region.binds, dat, Nat.reduceLT, Nat.reduceAdd, FDu, forall_const, and_true, true_and] at hd
      have hcon := hρ.con
      rw [execOp_call_fn _ _ _ _ _ _ _ _ _ (hρ.fn _)]
      obtain ⟨s1, b1, hm1, he⟩ := hS.st
      obtain ⟨rfl, rfl⟩ := he (hph rfl)
      go_simp
      simp only [GoodP]
      have hsz' := hS.size
      refine (hdue_any q tb c nb P S S (w.heap.size + 1 + 1) s1 b1 lk now (.slice none 0 0) [] w' hm1 z (by omega) (OwnT.nil _ _) (by simp) (by omega) (by omega) (by omega) (by omega) hsz').mono ?_
      rintro e w'' ⟨v', l', s', b', rfl, hm', ho, hd', hk, _⟩
      refine ⟨v', rfl, ⟨l', s', b', hm', by simpa using ho, hd'⟩, ?_, fun h => absurd h (by decide)⟩
      unfold RDu
      rw [if_pos rfl]
      refine ⟨hk.size, hk.mono (fun k _ e => ?_), s', b', hm'⟩
      rcases e with e | e | e
      · exact .inl e
      · exact .inr e
      · cases e
    refine ⟨⟨trivial, ?_⟩, ?_⟩
    · intro ρ w' ph _ hρ hd hS
      have hsz' := hS.size
      go_simp
      simp only [GoodP, FDu, RDu]
      exact ⟨⟨_, rfl, hsz', Blk.new _ _ _⟩, by rw [if_neg (by decide)]; exact (Below.refl _ _).alloc (Nat.le_refl _) _, fun h => absurd h (by decide)⟩
    trivial
  · intro vs w2 hs hF _
    obtain ⟨l', s', b', hm2, ho2, hd2⟩ : ∃ l' s' b', HM w2 q tb c nb P S s' b' lk ∧ OwnT w2 (w.heap.size + 1 + 1) (vs 6) l' ∧ DueOf P S s S now l' s' := hF 6 (by decide)
    obtain ⟨g5, v7, hg5, hB5⟩ : ∃ g, vs 7 = .pointer (some ⟨g, 0, none⟩) ∧ w.heap.size + 1 + 1 ≤ g ∧ Blk w2 g 29 #[.slice none 0 0] := hF 7 (by decide)
    have v0 : vs 0 = .pointer (some ⟨q, 0, none⟩) := hF 0 (by decide)
    have v5 : vs 5 = .int .u64 now := hF 5 (by decide)
    obtain ⟨A2, c2, v6, _⟩ := ho2.at
    clear hF
    simp only [List.range'_succ, List.range'_zero, List.cons_append, List.nil_append, List.append_nil, setAll, List.setIfInBounds_toArray, List.set_cons_zero, List.set_cons_succ, Nat.reduceAdd]
    rw [v6, v7]
    rw [v6] at ho2
    simp only [List.drop_succ_cons, List.drop_zero]
    clear v6 v7 hk0
    have hB1 := hs.bq
    have hB2 := hs.bn
    have hT2 := hs.tab
    have hch2 := hs.chg
    have hz5 := hB5.frozen
    have hc5 := hB5.cell
    have hl5 := hB5.lt
    have hk5 : Chg (fun g => g = g5) w2 (w2.setCell ⟨g5, 0, none⟩ (.slice A2 l'.length c2)) := (Chg.refl (fun g => g = g5) w2).setCell (fun _ => rfl) _
    have hn5 : ∀ g, (Value.slice A2 l'.length c2).ownBlock = some g → ¬ g = g5 := fun g e e2 => by
      subst e2
      obtain ⟨cur, hcur⟩ := own_blk ho2 g e
      exact hcur.ne hB5 (by decide) rfl
    have hm3 := hm2.chg hk5 (by omega) (by omega) (by omega) (by omega)
    have ho3 := ho2.chg hk5 hn5
    have hA1 := hB1.chg hk5 (by omega)
    have hA2 := hB2.chg hk5 (by omega)
    have hT3 := hT2.chg hk5 (fun e => by have := glob_lt hT; omega)
    have hA5 : Blk (w2.setCell ⟨g5, 0, none⟩ (.slice A2 l'.length c2)) g5 29 #[.slice A2 l'.length c2] := hB5.put 0 _
    have hch3 : Chg (HS q tb nb) w (w2.setCell ⟨g5, 0, none⟩ (.slice A2 l'.length c2)) := hch2.setCell (fun e => by simp only at e; omega) _
    clear hs
    go_wp2_with fail
    clear hz5 hc5 hl5 hk5 hn5 hm2 ho2 hB1 hB2 hT2 hB5 hch2
    generalize w2.setCell ⟨g5, 0, none⟩ (.slice A2 l'.length c2) = w3 at *
    have hm4 := hm3.look 0
    have hk4 : Chg (fun g => g = q) w3 (w3.setCell ⟨q, 4, none⟩ (.int .i64 0)) := (Chg.refl (fun g => g = q) w3).setCell (fun _ => rfl) _
    have ho4 := ho3.chg hk4 (fun g e e2 => by have := own_base ho3 g e; omega)
    have hA1' := hA1.chg hk4 (by omega)
    have hA2' := hA2.chg hk4 (by omega)
    have hT4 := hT3.chg hk4 (fun e => (hm3.tabne hT3).1 e)
    have hA5' := hA5.chg hk4 (by omega)
    have hch4 : Chg (HS q tb nb) w (w3.setCell ⟨q, 4, none⟩ (.int .i64 0)) := hch3.trans hk4 (fun _ _ e => .inl e)
    have hc1 := hA1.cell
    have hc2' := hA2.cell
    have hqc := hm3.blk.cell
    have hqz := hm3.blk.frozen
    have hql := hm3.blk.lt
    have hbt := hbetween_any q now (w3.setCell ⟨q, 4, none⟩ (.int .i64 0))
    gi_wp2_with (refine ⟨trivial, ?_⟩; gi_at_call 55; refine (callsIn_wide.2 hbt).mono ?_; rintro e w' ⟨rfl, rfl⟩)
    clear hbt hqc hqz hql hc1 hc2' hm3 ho3 hA1 hA2 hT3 hA5 hch3 hk4
    have hs4 : (w3.setCell ⟨q, 4, none⟩ (.int .i64 0)).heap.size = w3.heap.size := by simp
    generalize w3.setCell ⟨q, 4, none⟩ (.int .i64 0) = w4 at *
    rw [← hs4]
    have hb4 := two_new w4 (.cells #[.pointer (some ⟨q, 0, none⟩)] 25) (.cells #[.int .u64 now] 22)
    have hC1 : Blk ((w4.alloc (.cells #[.pointer (some ⟨q, 0, none⟩)] 25)).alloc (.cells #[.int .u64 now] 22)) w4.heap.size 25 #[.pointer (some ⟨q, 0, none⟩)] := (Blk.new _ _ _).alloc _
    have hC2 : Blk ((w4.alloc (.cells #[.pointer (some ⟨q, 0, none⟩)] 25)).alloc (.cells #[.int .u64 now] 22)) (w4.heap.size + 1) 22 #[.int .u64 now] := alloc2_at _ _ _ _
    have hpl : (s.pend P).length ≤ P := pendL_le _ _ _
    have hst : DueI q w4.heap.size (w4.heap.size + 1) w.heap.size (w.heap.size + 1) g5 tb c nb P S (w.heap.size + 1 + 1) s now w [] ((w4.alloc (.cells #[.pointer (some ⟨q, 0, none⟩)] 25)).alloc (.cells #[.int .u64 now] 22)) :=
      ⟨hC1, hC2, hA1'.below hb4 hA1'.lt, hA2'.below hb4 hA2'.lt, hT4.below hb4 (glob_lt hT4), hch4.trans (Chg.of_same hb4 (HS q tb nb)) (fun _ _ e => e), Nat.zero_le _, s', b', l', _, 0, hm4.below hb4, Gone.start hd2.took hd2.left hd2.else_ hS, hA5'.below hb4 hA5'.lt, ho4.below hb4 (Nat.le_refl _)⟩
    have hsw : w.heap.size ≤ ((w4.alloc (.cells #[.pointer (some ⟨q, 0, none⟩)] 25)).alloc (.cells #[.int .u64 now] 22)).heap.size := hst.chg.size
    have hg5w : g5 < w4.heap.size := hA5'.lt
    clear hC1 hC2 hb4 hm4 ho4 hA1' hA2' hT4 hA5' hch4
    generalize (w4.alloc (.cells #[.pointer (some ⟨q, 0, none⟩)] 25)).alloc (.cells #[.int .u64 now] 22) = w5 at *
    refine range_I rfl (by omega) (gf := 83) (lb := #[.pointer (some ⟨w4.heap.size + 1, 0, none⟩), .pointer (some ⟨w4.heap.size, 0, none⟩)]) rfl trivial (enters_of Tryd.func83 (by kernel_rfl) rfl)
      (hbet_seq 2 (by omega) q w4.heap.size (w4.heap.size + 1) tb c P S s.base now (busyAt s) z hb hw w5) (Nat.le_refl _) (fun _ => rfl)
      (DueI q w4.heap.size (w4.heap.size + 1) w.heap.size (w.heap.size + 1) g5 tb c nb P S (w.heap.size + 1 + 1) s now w) (fun _ _ _ => False) (DueI.own hsw) (fun _ _ _ _ _ h _ _ => h) (fun pre W h => h.view) hst ?a1 ?assign ?body ?done ?stop
    case assign =>
      intro l x W K hK
      gi_wp2
      exact hK
    case stop =>
      rintro D e pre W hD h hK
      exact h.elim
    case body =>
      rintro l pre x W hI ⟨hG1, hG2, hG3, hG4⟩
      obtain ⟨s1, b1, m1, v1, lk1, hm, hg, h5, ho⟩ := hI.st
      have hxS : x < S := Nat.lt_of_lt_of_le hG2 (span_le S s.base now)
      have hg2 := hg.pass hS hG1 (by omega) hG4
      have hml := hg2.took.len
      have hm2 := hm.look ((lk1 : Int) + 1)
      have hk4 : Chg (fun g => g = q) W (W.setCell ⟨q, 4, none⟩ (.int .i64 ((lk1 : Int) + 1))) := (Chg.refl (fun g => g = q) W).setCell (fun _ => rfl) _
      have hlkS : lk1 ≤ S := by
        rw [hg.looked]
        refine Nat.le_trans List.countP_le_length ?_
        have := span_le S s.base now
        have := hI.span
        simp; omega
      have hc1 := hI.aq.cell
      have hc2' := hI.an.cell
      have hqc := hm.blk.cell
      have hqz := hm.blk.frozen
      have hql := hm.blk.lt
      have h5c := h5.cell
      have hqg : q ≠ g5 := by omega
      obtain ⟨A1, c1, rfl, _⟩ := ho.at
      have hWs := hI.an.lt
      have ho4 := ho.chg hk4 (fun g e e2 => by have := own_base ho g e; omega)
      have hsl := slotN_lt hS s.base x
      have hdu := hdue_any q tb c nb P S (slotN S s.base x) (w.heap.size + 1 + 1) s1 b1 ((lk1 : Int) + 1) now (.slice A1 m1.length c1) m1 _ hm2 z (by omega) ho4 (by omega) (by omega) (by omega) (by omega) (by omega) (Nat.le_trans hWs hk4.size)
      have hne : ∀ g t cs, Blk W g t cs → t ≠ 37 → (Value.slice A1 m1.length c1).ownBlock ≠ some g := fun g t cs hb ht e => by
        obtain ⟨cur, hcur⟩ := own_blk ho g e
        exact hcur.ne hb (fun e => ht e.symm) rfl
      obtain ⟨nx, pv, hcn, _⟩ := hm.ch.st
      have hnodb := hcn.nod
      gi_wp2_with fail
      refine ⟨trivial, CallsIn.mono ((callsIn_wide (n := 0)).2 hdu) ?_⟩
      rintro e W2 ⟨v2, m2, s2, b2, rfl, hm3, ho3, hd3, hk3, han⟩
      obtain ⟨A3, c3, rfl, _⟩ := ho3.at
      have hkA : Chg (fun g => g = q ∨ g = nb ∨ (Value.slice A1 m1.length c1).ownBlock = some g) W W2 := hk4.mono (S' := fun g => g = q ∨ g = nb ∨ (Value.slice A1 m1.length c1).ownBlock = some g) (fun _ _ e => .inl e) |>.trans hk3 (fun _ _ e => e)
      have h52 := h5.chg hkA (fun e => by rcases e with e | e | e; omega; omega; exact hne _ _ _ h5 (by decide) e)
      have h5c2 := h52.cell
      have h5z2 := h52.frozen
      have h5l2 := h52.lt
      clear hdu hc1 hc2' hqc hqz hql h5c
      gi_wp2_with fail
      rw [List.length_append] at ho3
      have hkB : Chg (fun g => g = g5) W2 (W2.setCell ⟨g5, 0, none⟩ (.slice A3 (m1.length + m2.length) c3)) := (Chg.refl (fun g => g = g5) W2).setCell (fun _ => rfl) _
      have h5B : Blk (W2.setCell ⟨g5, 0, none⟩ (.slice A3 (m1.length + m2.length) c3)) g5 29 #[.slice A3 (m1.length + m2.length) c3] := h52.put 0 _
      have hkT : Chg (fun g => (g = q ∨ g = nb ∨ (Value.slice A1 m1.length c1).ownBlock = some g) ∨ g = g5) W (W2.setCell ⟨g5, 0, none⟩ (.slice A3 (m1.length + m2.length) c3)) :=
        (hkA.mono (S' := fun g => (g = q ∨ g = nb ∨ (Value.slice A1 m1.length c1).ownBlock = some g) ∨ g = g5) (fun _ _ e => .inl e)).trans hkB (fun _ _ e => .inr e)
      have ht := hm.tabne hI.tab
      have hbk : ∀ {g t cs}, Blk W g t cs → t ≠ 37 → g ≠ q → g ≠ nb → g ≠ g5 → Blk (W2.setCell ⟨g5, 0, none⟩ (.slice A3 (m1.length + m2.length) c3)) g t cs := fun hb ht h1 h2 h3 => hb.chg hkT (fun e => by
        rcases e with (e | e | e) | e
        · exact h1 e
        · exact h2 e
        · exact hne _ _ _ hb ht e
        · exact h3 e)
      have hbas := own_base ho
      have ho5 : OwnT (W2.setCell ⟨g5, 0, none⟩ (.slice A3 (m1.length + m2.length) c3)) (w.heap.size + 1 + 1) (.slice A3 (m1.length + m2.length) c3) (m1 ++ m2) := ho3.chg hkB (fun g e e2 => by
        subst e2
        obtain ⟨cur, hcur⟩ := own_blk ho3 g e
        exact hcur.ne h52 (by decide) rfl)
      have hm5 := hm3.chg hkB (by omega) (by omega) (by omega) (by omega)
      refine ⟨keeps_chg hkT (fun k o e hk => ?_), ?_⟩
      · rcases e with (e | e | e) | e
        · subst e
          rw [hm.blk] at hk
          cases hk
          rfl
        · subst e
          rw [hnodb] at hk
          cases hk
          rfl
        · obtain ⟨cur, hcur⟩ := own_blk ho k e
          rw [hcur] at hk
          cases hk
          rfl
        · subst e
          rw [h5] at hk
          cases hk
          rfl
      · refine ⟨hbk hI.bq (by decide) (by omega) (by omega) (by omega), hbk hI.bn (by decide) (by omega) (by omega) (by omega), hbk hI.aq (by decide) (by omega) (by omega) (by omega), hbk hI.an (by decide) (by omega) (by omega) (by omega), hI.tab.chg hkT (fun e => ?_), hI.chg.trans hkT (fun k hk e => ?_), ?_, s2, b2, m1 ++ m2, _, lk1 + 1, ?_, ?_, h5B, ho5⟩
        · rcases e with (e | e | e) | e
          · exact ht.1 e
          · exact ht.2.2 e
          · have := hbas _ e
            have := glob_lt hT
            omega
          · have := glob_lt hT
            omega
        · rcases e with (e | e | e) | e
          · exact .inl e
          · exact .inr (.inr e)
          · have := hbas _ e
            omega
          · omega
        · rw [nxo_snoc]
          omega
        · rw [show ((lk1 + 1 : Nat) : Int) = (lk1 : Int) + 1 by omega]
          exact hm5
        · rw [nxo_snoc]
          exact hg2.one_more hS hxS hG3 hd3
    case done =>
      rintro D xs W hD hS' hI hK
      obtain ⟨s1, b1, m1, v1, lk1, hm, hg, h5, ho⟩ := hI.st
      have hg2 := hg.pass hS hI.span (span_le S s.base now) (fun o h1 h2 => hS' o h1 h2)
      have hfin := hg2.done hS h.ok hp
      have hml := hg2.took.len
      have hc1 := hI.aq.cell
      have hc2' := hI.an.cell
      have hqc := hm.blk.cell
      have hqz := hm.blk.frozen
      have hql := hm.blk.lt
      have h5c := h5.cell
      have hsb : s1.base = s.base := hg2.took.base
      rw [hsb] at hqc
      have hKd : W.drew.heap[D]? = some (.deferred (some [])) := hK
      have hDq : D ≠ q := by
        have := hst.an.lt
        omega
      have hnd := hfin.1
      have hk9 : Chg (fun g => g = q) W ((W.setCell ⟨q, 9, none⟩ (.int .u64 (max s.base now))).drew) := ((Chg.refl (fun g => g = q) W).setCell (fun _ => rfl) _).drew
      have hm9 : HM ((W.setCell ⟨q, 9, none⟩ (.int .u64 (max s.base now))).drew) q tb c nb P S { s1 with base := max s.base now } b1 lk1 :=
        ⟨(hm.blk.put 9 _).drew, hm.tms.chg hk9 (fun e => hm.qtb e.symm), hm.ch.chg hk9 (fun e => hm.qc e.symm) (fun e => hm.qnb e.symm), hm.busy, hnd⟩
      have ho9 := ho.chg hk9 (fun g e e2 => by have := own_base ho g e; omega)
      have h59 := h5.chg hk9 (by omega)
      have hch9 := hI.chg.trans hk9 (fun _ _ e => .inl e)
      have hK9 : ((W.setCell ⟨q, 9, none⟩ (.int .u64 (max s.base now))).drew).heap[D]? = some (.deferred (some [])) := (Below.heap_setCell _ _ _ _ hDq).trans hK
      have hso := osort_any v1 m1 _ ho9.lat (by omega)
      have hv1 := ho.at
      obtain ⟨A1, c1, rfl, _⟩ := hv1
      have h59c := h59.cell
      gi_wp2_with fail
      refine wpIn_wide.2 (still_tail 7 (by kernel_rfl) (by kernel_rfl) ?_)
      simp only [List.take_succ_cons, List.take_zero, List.drop_succ_cons, List.drop_zero]
      repeat still_step
      refine wpStill_nil ?_
      go_wp2_with fail
      gi_wp2_with (refine ⟨trivial, ?_⟩; gi_at_call 53; refine (callsIn_wide.2 hso).mono ?_; rintro e W3 ⟨v3, rfl, ho3, hx3⟩)
      have hDl := (Array.getElem?_eq_some_iff.1 hK9).1
      have hK3 : W3.heap[D]? = some (.deferred (some [])) := (hx3.block D hDl).trans hK9
      have kk : CK W3 (W3.putObj D (.deferred none)) := ck_of (grownBy_putObj' _ D (.deferred none)) (fun r e => by cases e; exact ⟨_, hK3, rfl⟩)
      have hszW : w.heap.size ≤ ((W.setCell ⟨q, 9, none⟩ (.int .u64 (max s.base now))).drew).heap.size := hch9.size
      have ho4 : OwnT (W3.putObj D (.deferred none)) w.heap.size v3 (dueL m now true) := by
        rw [← hfin.2.2.1]
        exact (ho3.mono hszW).ck kk
      have hq4 : HQ (W3.putObj D (.deferred none)) q tb c nb P S (max s.base now) (lookL m s.base S now : Nat) (dueL m now false) := by
        rw [← hfin.2.2.2]
        exact ⟨{ s1 with base := max s.base now }, b1, (hm9.below hx3).ck kk, hfin.2.1, rfl⟩
      have hch3 : Chg (HS q tb nb) w W3 := hch9.trans (Chg.of_same hx3 (HS q tb nb)) (fun _ _ e => e)
      have hch4 : Chg (HS q tb nb) w (W3.putObj D (.deferred none)) := chg_ownFrom (β := Unit) (Nat.le_refl w.heap.size) () W3 _ (some D) hch3 (grownBy_putObj' _ D (.deferred none)) (fun r e => by cases e; exact ⟨Nat.le_trans hsw hD, _, hK3, rfl⟩)
      refine ⟨by simp, .inl ⟨_, _, rfl, run_takeDeferred hK3, ?_⟩⟩
      exact ⟨_, results_tmp rfl _ _ _, v3, rfl, ho4, hq4, hch4⟩
theorem hq_due (q tb c nb P S : Nat) (base lk now : Int) (m : List Timer) (w : World) (h : HQ w q tb c nb P S base lk m) (z : HSz P S) (hb : U64 base) (hw : U64 now) (hT : TabAt w) :
    Calls Tryd.prog 28 #[.pointer (some ⟨q, 0, none⟩), .int .u64 now] w fun e w' => ∃ v, e = .returned v ∧ OwnT w' w.heap.size v (dueL m now true) ∧ HQ w' q tb c nb P S (max base now) (lookL m base S now) (dueL m now false) ∧ Chg (HS q tb nb) w w' := by
  obtain ⟨s, b, hm, hp, rfl⟩ := h.ex
  exact (callsIn_wide (n := 3)).1 (hDue_in q tb c nb P S s b lk now m w hm hp z hb hw hT)
end Go.Proofs.YtckkfbepclogcaaDoor
namespace Go.Proofs.YtckkfbepclogcaaDoor
open Go.RowKit
def slotsN (bits : Int) : Nat := 4 * 2 ^ bits.toNat
/-- What is asked of the places and of the bits. -/
def NewOk (P bits : Int) : Prop := ¬ P < 0 ∧ ¬ 1024 < P ∧ ¬ bits < 1 ∧ ¬ 6 < bits
instance (P bits : Int) : Decidable (NewOk P bits) := inferInstanceAs (Decidable (¬ P < 0 ∧ ¬ 1024 < P ∧ ¬ bits < 1 ∧ ¬ 6 < bits))
def nilE (e : Int) : Value := .tuple #[.pointer none, .int .i64 e]
theorem hnew_bad (P bits base : Int) (w : World) (h : ¬ NewOk P bits) :
    Calls Tryd.prog 13 #[.int .i64 P, .int .i64 bits, .int .u64 base] w fun e w' => e = .returned (nilE 1) ∧ w = w' := by
  have hx : P < 0 ∨ (¬ P < 0 ∧ 1024 < P) ∨ (¬ P < 0 ∧ ¬ 1024 < P ∧ bits < 1) ∨ (¬ P < 0 ∧ ¬ 1024 < P ∧ ¬ bits < 1 ∧ 6 < bits) := by
    unfold NewOk at h
    omega
  clear h
  rcases hx with h | ⟨h1, h2⟩ | ⟨h1, h2, h3⟩ | ⟨h1, h2, h3, h4⟩
  · go_enter Tryd.func13, Tryd.ntmps13
    go_wp2
    refine bodyPost_ret (v := nilE 1) (by simp [results, Tryd.results13, go_sem, nilE]) rfl ⟨rfl, rfl⟩
  · go_enter Tryd.func13, Tryd.ntmps13
    go_wp2
    refine bodyPost_ret (v := nilE 1) (by simp [results, Tryd.results13, go_sem, nilE]) rfl ⟨rfl, rfl⟩
  · go_enter Tryd.func13, Tryd.ntmps13
    go_wp2
    refine bodyPost_ret (v := nilE 1) (by simp [results, Tryd.results13, go_sem, nilE]) rfl ⟨rfl, rfl⟩
  · go_enter Tryd.func13, Tryd.ntmps13
    go_wp2
    refine bodyPost_ret (v := nilE 1) (by simp [results, Tryd.results13, go_sem, nilE]) rfl ⟨rfl, rfl⟩
set_option maxRecDepth 100000 in
set_option maxHeartbeats 1000000 in
theorem hnew_1 (P : Nat) (base : Int) (w : World) (hP : P ≤ 1024) :
    Calls Tryd.prog 13 #[.int .i64 P, .int .i64 1, .int .u64 base] w fun e w' => ∃ q tb c nb, e = .returned (.tuple #[.pointer (some ⟨q, 0, none⟩), .int .i64 0]) ∧ HQ w' q tb c nb P 8 base 0 [] ∧ Below w.heap.size w w' ∧ w.heap.size ≤ q ∧ w.heap.size ≤ tb ∧ w.heap.size ≤ c ∧ w.heap.size ≤ nb := by
  obtain ⟨i0, hi, hz0, hz1, hz2⟩ := info_parts info_timer
  have hcn : Calls Tryd.prog 46 #[.int .i64 P, .int .i64 (8 + 1)] w _ := cnew_ok P (8 + 1) w hP (by omega)
  have hP' : ¬ (P : Int) < 0 := by omega
  go_enter Tryd.func13, Tryd.ntmps13
  go_upto_region 7 with (go_at_call 46; refine hcn.mono ?_; rintro e w1 ⟨c, nb, rfl, hc, hn, hC, hb⟩)
  clear hcn
  have hsz := hb.size
  go_wp2_with (at_make; refine wpList_make_full _ rfl _ _ 29 rfl w.heap.size 37 i0 (.agg #[.int .u64 0, .int .u64 0, .int .i64 0]) 3 Tryd.underlying29 hi hz0 hz1 .i64 .i64 _ _ P rfl rfl rfl rfl (by rw [hz2]; omega) (by unfold maxLen; omega) hsz ?_)
  intro w2 hown hgr
  have hb2 := grown_below hgr
  have hT0 : Blk w2 w1.heap.size 37 (tmC P (fun _ => Timer.zero)) := by
    rw [← made_tms]
    exact made_blk hown
  have hC2 := hC.below hb2
  have hsz2 := hb2.size
  have hlt := hT0.lt
  clear hown hgr hi hz0 hz1 hz2 hC
  go_wp2
  refine bodyPost_ret (v := .tuple #[.pointer (some ⟨w2.heap.size, 0, none⟩), .int .i64 0]) (by simp [results, Tryd.results13, go_sem]) rfl ?_
  refine ⟨w2.heap.size, w1.heap.size, c, nb, rfl, ⟨HSt.new base (fun _ => Timer.zero), Bits.zero, ⟨?_, ?_, ?_, ?_, ?_⟩, ?_, rfl⟩, (hb.trans (Below.mono hb2 hsz)).alloc (by omega) _, by omega, by omega, hc, hn⟩
  · have : ((HSt.new base (fun _ => Timer.zero)).pend P).length = 0 := by simp [HSt.pend, HSt.on, HSt.new, pendL]
    rw [this]
    exact Blk.new _ _ _
  · exact hT0.alloc _
  · exact hC2.below ((Below.refl _ _).alloc (Nat.le_refl _) _)
  · exact (Busy.zero 8).congr fun k _ => rfl
  · exact HOk.new P _ _ base _
  · exact PRel.new P _
set_option maxRecDepth 100000 in
set_option maxHeartbeats 1000000 in
theorem hnew_2 (P : Nat) (base : Int) (w : World) (hP : P ≤ 1024) :
    Calls Tryd.prog 13 #[.int .i64 P, .int .i64 2, .int .u64 base] w fun e w' => ∃ q tb c nb, e = .returned (.tuple #[.pointer (some ⟨q, 0, none⟩), .int .i64 0]) ∧ HQ w' q tb c nb P 16 base 0 [] ∧ Below w.heap.size w w' ∧ w.heap.size ≤ q ∧ w.heap.size ≤ tb ∧ w.heap.size ≤ c ∧ w.heap.size ≤ nb := by
  obtain ⟨i0, hi, hz0, hz1, hz2⟩ := info_parts info_timer
  have hcn : Calls Tryd.prog 46 #[.int .i64 P, .int .i64 (16 + 1)] w _ := cnew_ok P (16 + 1) w hP (by omega)
  have hP' : ¬ (P : Int) < 0 := by omega
  go_enter Tryd.func13, Tryd.ntmps13
  go_upto_region 7 with (go_at_call 46; refine hcn.mono ?_; rintro e w1 ⟨c, nb, rfl, hc, hn, hC, hb⟩)
  clear hcn
  have hsz := hb.size
  go_wp2_with (at_make; refine wpList_make_full _ rfl _ _ 29 rfl w.heap.size 37 i0 (.agg #[.int .u64 0, .int .u64 0, .int .i64 0]) 3 Tryd.underlying29 hi hz0 hz1 .i64 .i64 _ _ P rfl rfl rfl rfl (by rw [hz2]; omega) (by unfold maxLen; omega) hsz ?_)
  intro w2 hown hgr
  have hb2 := grown_below hgr
  have hT0 : Blk w2 w1.heap.size 37 (tmC P (fun _ => Timer.zero)) := by
    rw [← made_tms]
    exact made_blk hown
  have hC2 := hC.below hb2
  have hsz2 := hb2.size
  have hlt := hT0.lt
  clear hown hgr hi hz0 hz1 hz2 hC
  go_wp2
  refine bodyPost_ret (v := .tuple #[.pointer (some ⟨w2.heap.size, 0, none⟩), .int .i64 0]) (by simp [results, Tryd.results13, go_sem]) rfl ?_
  refine ⟨w2.heap.size, w1.heap.size, c, nb, rfl, ⟨HSt.new base (fun _ => Timer.zero), Bits.zero, ⟨?_, ?_, ?_, ?_, ?_⟩, ?_, rfl⟩, (hb.trans (Below.mono hb2 hsz)).alloc (by omega) _, by omega, by omega, hc, hn⟩
  · have : ((HSt.new base (fun _ => Timer.zero)).pend P).length = 0 := by simp [HSt.pend, HSt.on, HSt.new, pendL]
    rw [this]
    exact Blk.new _ _ _
  · exact hT0.alloc _
  · exact hC2.below ((Below.refl _ _).alloc (Nat.le_refl _) _)
  · exact (Busy.zero 16).congr fun k _ => rfl
  · exact HOk.new P _ _ base _
  · exact PRel.new P _
set_option maxRecDepth 100000 in
set_option maxHeartbeats 1000000 in
theorem hnew_3 (P : Nat) (base : Int) (w : World) (hP : P ≤ 1024) :
    Calls Tryd.prog 13 #[.int .i64 P, .int .i64 3, .int .u64 base] w fun e w' => ∃ q tb c nb, e = .returned (.tuple #[.pointer (some ⟨q, 0, none⟩), .int .i64 0]) ∧ HQ w' q tb c nb P 32 base 0 [] ∧ Below w.heap.size w w' ∧ w.heap.size ≤ q ∧ w.heap.size ≤ tb ∧ w.heap.size ≤ c ∧ w.heap.size ≤ nb := by
  obtain ⟨i0, hi, hz0, hz1, hz2⟩ := info_parts info_timer
  have hcn : Calls Tryd.prog 46 #[.int .i64 P, .int .i64 (32 + 1)] w _ := cnew_ok P (32 + 1) w hP (by omega)
  have hP' : ¬ (P : Int) < 0 := by omega
  go_enter Tryd.func13, Tryd.ntmps13
  go_upto_region 7 with (go_at_call 46; refine hcn.mono ?_; rintro e w1 ⟨c, nb, rfl, hc, hn, hC, hb⟩)
  clear hcn
  have hsz := hb.size
  go_wp2_with (at_make; refine wpList_make_full _ rfl _ _ 29 rfl w.heap.size 37 i0 (.agg #[.int .u64 0, .int .u64 0, .int .i64 0]) 3 Tryd.underlying29 hi hz0 hz1 .i64 .i64 _ _ P rfl rfl rfl rfl (by rw [hz2]; omega) (by unfold maxLen; omega) hsz ?_)
  intro w2 hown hgr
  have hb2 := grown_below hgr
  have hT0 : Blk w2 w1.heap.size 37 (tmC P (fun _ => Timer.zero)) := by
    rw [← made_tms]
    exact made_blk hown
  have hC2 := hC.below hb2
  have hsz2 := hb2.size
  have hlt := hT0.lt
  clear hown hgr hi hz0 hz1 hz2 hC
  go_wp2
  refine bodyPost_ret (v := .tuple #[.pointer (some ⟨w2.heap.size, 0, none⟩), .int .i64 0]) (by simp [results, Tryd.results13, go_sem]) rfl ?_
  refine ⟨w2.heap.size, w1.heap.size, c, nb, rfl, ⟨HSt.new base (fun _ => Timer.zero), Bits.zero, ⟨?_, ?_, ?_, ?_, ?_⟩, ?_, rfl⟩, (hb.trans (Below.mono hb2 hsz)).alloc (by omega) _, by omega, by omega, hc, hn⟩
  · have : ((HSt.new base (fun _ => Timer.zero)).pend P).length = 0 := by simp [HSt.pend, HSt.on, HSt.new, pendL]
    rw [this]
    exact Blk.new _ _ _
  · exact hT0.alloc _
  · exact hC2.below ((Below.refl _ _).alloc (Nat.le_refl _) _)
  · exact (Busy.zero 32).congr fun k _ => rfl
  · exact HOk.new P _ _ base _
  · exact PRel.new P _
set_option maxRecDepth 100000 in
set_option maxHeartbeats 1000000 in
theorem hnew_4 (P : Nat) (base : Int) (w : World) (hP : P ≤ 1024) :
    Calls Tryd.prog 13 #[.int .i64 P, .int .i64 4, .int .u64 base] w fun e w' => ∃ q tb c nb, e = .returned (.tuple #[.pointer (some ⟨q, 0, none⟩), .int .i64 0]) ∧ HQ w' q tb c nb P 64 base 0 [] ∧ Below w.heap.size w w' ∧ w.heap.size ≤ q ∧ w.heap.size ≤ tb ∧ w.heap.size ≤ c ∧ w.heap.size ≤ nb := by
  obtain ⟨i0, hi, hz0, hz1, hz2⟩ := info_parts info_timer
  have hcn : Calls Tryd.prog 46 #[.int .i64 P, .int .i64 (64 + 1)] w _ := cnew_ok P (64 + 1) w hP (by omega)
  have hP' : ¬ (P : Int) < 0 := by omega
  go_enter Tryd.func13, Tryd.ntmps13
  go_upto_region 7 with (go_at_call 46; refine hcn.mono ?_; rintro e w1 ⟨c, nb, rfl, hc, hn, hC, hb⟩)
  clear hcn
  have hsz := hb.size
  go_wp2_with (at_make; refine wpList_make_full _ rfl _ _ 29 rfl w.heap.size 37 i0 (.agg #[.int .u64 0, .int .u64 0, .int .i64 0]) 3 Tryd.underlying29 hi hz0 hz1 .i64 .i64 _ _ P rfl rfl rfl rfl (by rw [hz2]; omega) (by unfold maxLen; omega) hsz ?_)
  intro w2 hown hgr
  have hb2 := grown_below hgr
  have hT0 : Blk w2 w1.heap.size 37 (tmC P (fun _ => Timer.zero)) := by
    rw [← made_tms]
    exact made_blk hown
  have hC2 := hC.below hb2
  have hsz2 := hb2.size
  have hlt := hT0.lt
  clear hown hgr hi hz0 hz1 hz2 hC
  go_wp2
  refine bodyPost_ret (v := .tuple #[.pointer (some ⟨w2.heap.size, 0, none⟩), .int .i64 0]) (by simp [results, Tryd.results13, go_sem]) rfl ?_
  refine ⟨w2.heap.size, w1.heap.size, c, nb, rfl, ⟨HSt.new base (fun _ => Timer.zero), Bits.zero, ⟨?_, ?_, ?_, ?_, ?_⟩, ?_, rfl⟩, (hb.trans (Below.mono hb2 hsz)).alloc (by omega) _, by omega, by omega, hc, hn⟩
  · have : ((HSt.new base (fun _ => Timer.zero)).pend P).length = 0 := by simp [HSt.pend, HSt.on, HSt.new, pendL]
    rw [this]
    exact Blk.new _ _ _
  · exact hT0.alloc _
  · exact hC2.below ((Below.refl _ _).alloc (Nat.le_refl _) _)
  · exact (Busy.zero 64).congr fun k _ => rfl
  · exact HOk.new P _ _ base _
  · exact PRel.new P _
set_option maxRecDepth 100000 in
set_option maxHeartbeats 1000000 in
theorem hnew_5 (P : Nat) (base : Int) (w : World) (hP : P ≤ 1024) :
    Calls Tryd.prog 13 #[.int .i64 P, .int .i64 5, .int .u64 base] w fun e w' => ∃ q tb c nb, e = .returned (.tuple #[.pointer (some ⟨q, 0, none⟩), .int .i64 0]) ∧ HQ w' q tb c nb P 128 base 0 [] ∧ Below w.heap.size w w' ∧ w.heap.size ≤ q ∧ w.heap.size ≤ tb ∧ w.heap.size ≤ c ∧ w.heap.size ≤ nb := by
  obtain ⟨i0, hi, hz0, hz1, hz2⟩ := info_parts info_timer
  have hcn : Calls Tryd.prog 46 #[.int .i64 P, .int .i64 (128 + 1)] w _ := cnew_ok P (128 + 1) w hP (by omega)
  have hP' : ¬ (P : Int) < 0 := by omega
  go_enter Tryd.func13, Tryd.ntmps13
  go_upto_region 7 with (go_at_call 46; refine hcn.mono ?_; rintro e w1 ⟨c, nb, rfl, hc, hn, hC, hb⟩)
  clear hcn
  have hsz := hb.size
  go_wp2_with (at_make; refine wpList_make_full _ rfl _ _ 29 rfl w.heap.size 37 i0 (.agg #[.int .u64 0, .int .u64 0, .int .i64 0]) 3 Tryd.underlying29 hi hz0 hz1 .i64 .i64 _ _ P rfl rfl rfl rfl (by rw [hz2]; omega) (by unfold maxLen; omega) hsz ?_)
  intro w2 hown hgr
  have hb2 := grown_below hgr
  have hT0 : Blk w2 w1.heap.size 37 (tmC P (fun _ => Timer.zero)) := by
    rw [← made_tms]
    exact made_blk hown
  have hC2 := hC.below hb2
  have hsz2 := hb2.size
  have hlt := hT0.lt
  clear hown hgr hi hz0 hz1 hz2 hC
  go_wp2
  refine bodyPost_ret (v := .tuple #[.pointer (some ⟨w2.heap.size, 0, none⟩), .int .i64 0]) (by simp [results, Tryd.results13, go_sem]) rfl ?_
  refine ⟨w2.heap.size, w1.heap.size, c, nb, rfl, ⟨HSt.new base (fun _ => Timer.zero), Bits.zero, ⟨?_, ?_, ?_, ?_, ?_⟩, ?_, rfl⟩, (hb.trans (Below.mono hb2 hsz)).alloc (by omega) _, by omega, by omega, hc, hn⟩
  · have : ((HSt.new base (fun _ => Timer.zero)).pend P).length = 0 := by simp [HSt.pend, HSt.on, HSt.new, pendL]
    rw [this]
    exact Blk.new _ _ _
  · exact hT0.alloc _
  · exact hC2.below ((Below.refl _ _).alloc (Nat.le_refl _) _)
  · exact (Busy.zero 128).congr fun k _ => rfl
  · exact HOk.new P _ _ base _
  · exact PRel.new P _
set_option maxRecDepth 100000 in
set_option maxHeartbeats 1000000 in
theorem hnew_6 (P : Nat) (base : Int) (w : World) (hP : P ≤ 1024) :
    Calls Tryd.prog 13 #[.int .i64 P, .int .i64 6, .int .u64 base] w fun e w' => ∃ q tb c nb, e = .returned (.tuple #[.pointer (some ⟨q, 0, none⟩), .int .i64 0]) ∧ HQ w' q tb c nb P 256 base 0 [] ∧ Below w.heap.size w w' ∧ w.heap.size ≤ q ∧ w.heap.size ≤ tb ∧ w.heap.size ≤ c ∧ w.heap.size ≤ nb := by
  obtain ⟨i0, hi, hz0, hz1, hz2⟩ := info_parts info_timer
  have hcn : Calls Tryd.prog 46 #[.int .i64 P, .int .i64 (256 + 1)] w _ := cnew_ok P (256 + 1) w hP (by omega)
  have hP' : ¬ (P : Int) < 0 := by omega
  go_enter Tryd.func13, Tryd.ntmps13
  go_upto_region 7 with (go_at_call 46; refine hcn.mono ?_; rintro e w1 ⟨c, nb, rfl, hc, hn, hC, hb⟩)
  clear hcn
  have hsz := hb.size
  go_wp2_with (at_make; refine wpList_make_full _ rfl _ _ 29 rfl w.heap.size 37 i0 (.agg #[.int .u64 0, .int .u64 0, .int .i64 0]) 3 Tryd.underlying29 hi hz0 hz1 .i64 .i64 _ _ P rfl rfl rfl rfl (by rw [hz2]; omega) (by unfold maxLen; omega) hsz ?_)
  intro w2 hown hgr
  have hb2 := grown_below hgr
  have hT0 : Blk w2 w1.heap.size 37 (tmC P (fun _ => Timer.zero)) := by
    rw [← made_tms]
    exact made_blk hown
  have hC2 := hC.below hb2
  have hsz2 := hb2.size
  have hlt := hT0.lt
  clear hown hgr hi hz0 hz1 hz2 hC
  go_wp2
  refine bodyPost_ret (v := .tuple #[.pointer (some ⟨w2.heap.size, 0, none⟩), .int .i64 0]) (by simp [results, Tryd.results13, go_sem]) rfl ?_
  refine ⟨w2.heap.size, w1.heap.size, c, nb, rfl, ⟨HSt.new base (fun _ => Timer.zero), Bits.zero, ⟨?_, ?_, ?_, ?_, ?_⟩, ?_, rfl⟩, (hb.trans (Below.mono hb2 hsz)).alloc (by omega) _, by omega, by omega, hc, hn⟩
  · have : ((HSt.new base (fun _ => Timer.zero)).pend P).length = 0 := by simp [HSt.pend, HSt.on, HSt.new, pendL]
    rw [this]
    exact Blk.new _ _ _
  · exact hT0.alloc _
  · exact hC2.below ((Below.refl _ _).alloc (Nat.le_refl _) _)
  · exact (Busy.zero 256).congr fun k _ => rfl
  · exact HOk.new P _ _ base _
  · exact PRel.new P _
theorem slotsN_ok {P bits : Int} (h : NewOk P bits) : HSz P.toNat (slotsN bits) := by
  obtain ⟨h1, h2, h3, h4⟩ := h
  have hb : bits = 1 ∨ bits = 2 ∨ bits = 3 ∨ bits = 4 ∨ bits = 5 ∨ bits = 6 := by omega
  rcases hb with rfl | rfl | rfl | rfl | rfl | rfl <;> exact ⟨by omega, by decide, by decide⟩
theorem hnew_ok (P bits base : Int) (w : World) (h : NewOk P bits) :
    Calls Tryd.prog 13 #[.int .i64 P, .int .i64 bits, .int .u64 base] w fun e w' => ∃ q tb c nb, e = .returned (.tuple #[.pointer (some ⟨q, 0, none⟩), .int .i64 0]) ∧ HQ w' q tb c nb P.toNat (slotsN bits) base 0 [] ∧ Below w.heap.size w w' ∧ w.heap.size ≤ q ∧ w.heap.size ≤ tb ∧ w.heap.size ≤ c ∧ w.heap.size ≤ nb := by
  obtain ⟨h1, h2, h3, h4⟩ := h
  have hb : bits = 1 ∨ bits = 2 ∨ bits = 3 ∨ bits = 4 ∨ bits = 5 ∨ bits = 6 := by omega
  obtain ⟨n, rfl⟩ := Int.eq_ofNat_of_zero_le (show 0 ≤ P by omega)
  rcases hb with rfl | rfl | rfl | rfl | rfl | rfl
  · exact hnew_1 n base w (by omega)
  · exact hnew_2 n base w (by omega)
  · exact hnew_3 n base w (by omega)
  · exact hnew_4 n base w (by omega)
  · exact hnew_5 n base w (by omega)
  · exact hnew_6 n base w (by omega)
end Go.Proofs.YtckkfbepclogcaaDoor
namespace Go.Proofs.YtckkfbepclogcaaDoor
open Go.RowKit
theorem slot_step (k x : Nat) (h : x = 4 * 2 ^ k) : 2 * x = 4 * 2 ^ (k + 1) := by rw [h, Nat.pow_succ]; omega
theorem slots_small (n k : Nat) (hk : k ≤ n) (hn : n ≤ 6) : 4 * 2 ^ k ≤ 256 := by
  have : 2 ^ k ≤ 2 ^ 6 := Nat.pow_le_pow_right (by omega) (by omega)
  omega
theorem rslots_any (n : Nat) (w : World) (hn : n ≤ 6) :
    Calls Tryd.prog 29 #[.int .i64 n] w fun e w' => e = .returned (.int .u64 (slotsN n : Nat)) ∧ w = w' := by
  go_enter Tryd.func29, Tryd.ntmps29
  go_wp2
  go_loop [3, 4] (fun v i => ∃ k x : Nat, k ≤ n ∧ i = .int .i64 k ∧ v = .int .u64 x ∧ x ≤ 256 ∧ Hid (x = 4 * 2 ^ k)) (fun _ i => n - (intOf i).toNat)
  case atStart => exact ⟨0, 4, by omega, rfl, rfl, by omega, Lib.hid rfl⟩
  case round =>
    obtain ⟨k, x, hk, rfl, rfl, hx, hX⟩ := hrel
    by_cases hlt : k < n
    · have h1 := slot_step k x hX.out
      have h2 := slots_small n (k + 1) (by omega) hn
      rw [← h1] at h2
      have H1 := Lib.hid h1
      clear h1
      go_wp2
      go_round
      case rel => exact ⟨k + 1, 2 * x, by omega, by go_num, by go_num, h2, H1⟩
      case measure => simp [intOf]; omega
    · obtain rfl : k = n := by omega
      have HS := Lib.hid (show slotsN k = x by unfold slotsN; rw [Int.toNat_natCast, hX.out])
      go_wp2
      go_ret
      exact ⟨by rw [HS.out]; rfl, rfl⟩
/-- Bools in memory. -/
def boolC (n : Nat) (p : Nat → Bool) : Array Value := (Array.range n).map fun k => Value.bool (p k)
theorem boolC_size (n : Nat) (p : Nat → Bool) : (boolC n p).size = n := by simp [boolC]
theorem boolC_get (n : Nat) (p : Nat → Bool) (k : Nat) (h : k < n) : (boolC n p)[k]? = some (.bool (p k)) := by
  unfold boolC
  rw [Array.getElem?_map]
  simp [h]
theorem boolC_congr {n : Nat} {p p' : Nat → Bool} (h : ∀ k, k < n → p k = p' k) : boolC n p = boolC n p' := by
  apply Array.ext_getElem?
  intro t
  by_cases ht : t < n
  · rw [boolC_get _ _ _ ht, boolC_get _ _ _ ht, h t ht]
  · rw [Array.getElem?_eq_none (by rw [boolC_size]; omega), Array.getElem?_eq_none (by rw [boolC_size]; omega)]
theorem boolC_set (n : Nat) (p : Nat → Bool) (j : Nat) (h : j < n) : (boolC n p).setIfInBounds j (.bool true) = boolC n (updB p j true) := by
  apply Array.ext_getElem?
  intro t
  rw [Array.getElem?_setIfInBounds, boolC_size]
  by_cases ht : t < n
  · rw [boolC_get _ _ _ ht, boolC_get _ _ _ ht]
    by_cases hj : j = t
    · subst hj
      rw [if_pos rfl, if_pos h, updB_at]
    · rw [if_neg hj, updB_ne _ _ (fun e => hj e.symm)]
  · rw [Array.getElem?_eq_none (by rw [boolC_size]; omega), Array.getElem?_eq_none (by rw [boolC_size]; omega), if_neg (by omega)]
theorem made_bools (n : Nat) : madeCells #[.bool false] (n * 1) = boolC n (fun _ => false) := by
  unfold madeCells boolC
  rw [Nat.mul_one]
  refine Array.map_congr_left fun t _ => ?_
  simp [Nat.mod_one]
theorem info_bool : (Tryd.prog.info? 4).map (fun i => (i.zero, i.size, i.bytes)) = some (some (.bool false), 1, 1) := by kernel_rfl
/-- Is slot k looked into for one of m? -/
def lkC (base : Int) (S : Nat) (now : Int) (x : Timer) (k : Nat) : Bool := decide (base < x.at_ ∧ (x.at_ - base - 1) % S < now - base ∧ x.at_ % S = (k : Int))
def lkB (base : Int) (S : Nat) (now : Int) (m : List Timer) (k : Nat) : Bool := m.any fun x => lkC base S now x k
theorem lkB_snoc (base : Int) (S : Nat) (now : Int) (m : List Timer) (x : Timer) (k : Nat) : lkB base S now (m ++ [x]) k = (lkB base S now m k || lkC base S now x k) := by simp [lkB]
theorem lkB_yes {base : Int} {S : Nat} {now : Int} {m : List Timer} {x : Timer} (hS : 0 < S) (h1 : base < x.at_) (h2 : (x.at_ - base - 1) % S < now - base) (k : Nat) (_hk : k < S) : updB (lkB base S now m) (x.at_ % S).toNat true k = lkB base S now (m ++ [x]) k := by
  have hm0 := Int.emod_nonneg x.at_ (show (S : Int) ≠ 0 by omega)
  rw [lkB_snoc]
  by_cases hk : k = (x.at_ % S).toNat
  · subst hk
    rw [updB_at]
    have : lkC base S now x (x.at_ % S).toNat = true := decide_eq_true ⟨h1, h2, by omega⟩
    rw [this, Bool.or_true]
  · rw [updB_ne _ _ hk]
    have : lkC base S now x k = false := decide_eq_false fun h => hk (by omega)
    rw [this, Bool.or_false]
theorem lkB_no {base : Int} {S : Nat} {now : Int} {m : List Timer} {x : Timer} (h : ¬ (base < x.at_ ∧ (x.at_ - base - 1) % S < now - base)) (k : Nat) : lkB base S now m k = lkB base S now (m ++ [x]) k := by
  rw [lkB_snoc]
  have : lkC base S now x k = false := decide_eq_false fun e => h ⟨e.1, e.2.1⟩
  rw [this, Bool.or_false]
theorem lookL_eq (m : List Timer) (base : Int) (S : Nat) (now : Int) (h : ¬ now ≤ base) : lookL m base S now = (List.range S).countP (lkB base S now m) := by
  unfold lookL
  rw [if_neg h]
  rfl
def wV (P : Int) (v : Value) (bits base lk : Int) : Value := .agg #[.int .i64 P, v, .int .i64 bits, .int .u64 base, .int .i64 lk]
theorem count_succ (_S k : Nat) (p : Nat → Bool) : (List.range (k + 1)).countP p = (List.range k).countP p + if p k = true then 1 else 0 := by
  rw [List.range_succ, List.countP_append]
  by_cases h : p k = true <;> simp [h]
set_option maxRecDepth 100000 in
set_option maxHeartbeats 4000000 in
theorem rlooked_any (P : Int) (v : Value) (m : List Timer) (n : Nat) (base lk now : Int) (w : World) (h : LAt w v m) (hl : m.length ≤ 100000) (hn : n ≤ 6) (hb : U64 base) (hw : U64 now) (hf : ∀ x ∈ m, U64 x.at_) :
    Calls Tryd.prog 49 #[wV P v n base lk, .int .u64 now] w fun e w' => e = .returned (.int .i64 (lookL m base (slotsN n) now : Nat)) ∧ Below w.heap.size w w' := by
  obtain ⟨b0, b1⟩ := hb
  obtain ⟨w0, w1⟩ := hw
  obtain ⟨A, c, rfl, hT, hlc, hm, _⟩ := h
  unfold maxLen at hm
  have q0 : Blk (w.alloc (.cells #[.int .i64 P, .slice A m.length c, .int .i64 n, .int .u64 base, .int .i64 lk] 33)) w.heap.size 33 #[.int .i64 P, .slice A m.length c, .int .i64 n, .int .u64 base, .int .i64 lk] := Blk.new _ _ _
  have hb0 : Below w.heap.size w (w.alloc (.cells #[.int .i64 P, .slice A m.length c, .int .i64 n, .int .u64 base, .int .i64 lk] 33)) := alloc_kept' w _
  unfold wV
  by_cases hnb : now ≤ base
  · have HL := Lib.hid (show lookL m base (slotsN n) now = 0 by unfold lookL; rw [if_pos hnb])
    clear q0 hT
    go_enter Tryd.func49, Tryd.ntmps49
    go_wp2
    go_ret
    exact ⟨by rw [HL.out]; rfl, hb0⟩
  · have HL := Lib.hid (lookL_eq m base (slotsN n) now hnb)
    have hS6 : slotsN n ≤ 256 := slots_small n n (Nat.le_refl _) hn
    have hS0 : 0 < slotsN n := by
      unfold slotsN
      have := Nat.two_pow_pos (n : Int).toNat
      omega
    have hsl := rslots_any n (w.alloc (.cells #[.int .i64 P, .slice A m.length c, .int .i64 n, .int .u64 base, .int .i64 lk] 33)).drew hn
    generalize slotsN n = S at *
    obtain ⟨i0, hi, hz0, hz1, hz2⟩ := info_parts info_bool
    have e1 : IntKind.u64.wrap (now - base) = now - base := IntWalk.u64_in _ (by omega)
    have e2 : IntKind.i64.wrap (S : Int) = S := IntWalk.i64_in _ (by omega)
    go_enter Tryd.func49, Tryd.ntmps49
    go_wp2_with fail
    refine still_all (by kernel_rfl) (by kernel_rfl) ?_
    iterate 2 still_step
    still_call (flip hsl)
    repeat still_step
    refine wpStill_nil ?_
    replace q0 := q0.drew
    replace hb0 := hb0.drew
    have hl0 := q0.lt
    clear hsl
    generalize w.alloc (.cells #[.int .i64 P, .slice A m.length c, .int .i64 n, .int .u64 base, .int .i64 lk] 33) = wx at *
    go_wp2_with (at_make; refine wpList_make_full _ rfl _ _ 133 rfl w.heap.size 4 i0 (.bool false) 1 Tryd.underlying133 hi hz0 hz1 .i64 .i64 _ _ S rfl rfl (by first | rfl | exact e2) (by first | rfl | exact e2) (by rw [hz2]; omega) (by unfold maxLen; omega) (hb0.size) ?_)
    intro w2 hown hgr
    have hb2 := grown_below hgr
    have hG0 : Blk w2 wx.heap.size 4 (boolC S (lkB base S now [])) := by
      rw [show boolC S (lkB base S now []) = madeCells #[.bool false] S from by have := made_bools S; rw [Nat.mul_one] at this; exact this.symm]
      exact made_blk hown
    have hsx : w.heap.size < wx.heap.size := hl0
    have hb3 : Below w.heap.size w w2 := hb0.trans (Below.mono hb2 hb0.size)
    have q2 := q0.below hb2 hl0
    clear hown hgr hi hz0 hz1 hz2 hb0 hb2 q0 hl0 e1
    generalize wx.heap.size = g at *
    clear wx
    go_wp2_with fail
    go_loopw [8] (fun i wr => ∃ k : Nat, k ≤ m.length ∧ i = .int .i64 k ∧ Blk wr g 4 (boolC S (lkB base S now (m.take k))) ∧ Blk wr w.heap.size 33 #[.int .i64 P, .slice A m.length c, .int .i64 n, .int .u64 base, .int .i64 lk] ∧ Below w.heap.size w wr) (fun i _ => m.length - (intOf i).toNat)
    case atStart => exact ⟨0, Nat.zero_le _, rfl, hG0, q2, hb3⟩
    case round =>
      clear hG0 q2 hb3
      obtain ⟨k, hk, rfl, hG, q2, hb⟩ := hrel
      have qc := q2.cell
      by_cases hlt : k < m.length
      · obtain ⟨b, o, rfl, hbb, c0, _, _⟩ := (hT.below hb (Nat.le_refl _)) k hlt
        obtain ⟨x0, x1⟩ := hf _ (List.getElem_mem hlt)
        have hyes := fun h1 h2 => lkB_yes (base := base) (S := S) (now := now) (m := m.take k) (x := m[k]'hlt) hS0 h1 h2
        have hno := fun h => lkB_no (base := base) (S := S) (now := now) (m := m.take k) (x := m[k]'hlt) h
        rw [← take_snoc m k hlt] at hyes hno
        have hset := fun j hj => boolC_set S (lkB base S now (m.take k)) j hj
        have hzz := hG.frozen
        have hlg := hG.lt
        have hgne : g ≠ w.heap.size := by omega
        generalize m[k] = x at *
        have hm0 := Int.emod_nonneg x.at_ (show (S : Int) ≠ 0 by omega)
        have hm1 := Int.emod_lt_of_pos x.at_ (show (0 : Int) < S by omega)
        have gj := (hG.cell (x.at_ % S).toNat).trans (boolC_get S (lkB base S now (m.take k)) (x.at_ % S).toNat (by omega))
        have e7 : IntKind.i64.wrap (x.at_ % (S : Int)) = x.at_ % (S : Int) := IntWalk.i64_in _ (by omega)
        by_cases h1 : base < x.at_
        · have e5 : IntKind.u64.wrap (x.at_ - base) = x.at_ - base := IntWalk.u64_in _ (by omega)
          have e6 : IntKind.u64.wrap (x.at_ - base - 1) = x.at_ - base - 1 := IntWalk.u64_in _ (by omega)
          by_cases h2 : (x.at_ - base - 1) % (S : Int) < now - base
          · have hs1 := hset (x.at_ % S).toNat (by omega)
            have hC : boolC S (updB (lkB base S now (m.take k)) (x.at_ % S).toNat true) = boolC S (lkB base S now (m.take (k + 1))) := boolC_congr fun k' hk' => hyes h1 h2 k' hk'
            have fin : ∀ w3, w3 = wr.setCell ⟨g, (x.at_ % S).toNat, none⟩ (.bool true) → Blk w3 g 4 (boolC S (lkB base S now (m.take (k + 1)))) ∧ Blk w3 w.heap.size 33 #[.int .i64 P, .slice (some ⟨b, o, none⟩) m.length c, .int .i64 n, .int .u64 base, .int .i64 lk] ∧ Below w.heap.size w w3 := by
              rintro w3 rfl
              refine ⟨?_, q2.far (by simp; omega) _, hb.setCell (by simp; omega) _⟩
              rw [← hC, ← hs1]
              exact hG.put _ _
            clear hset hs1 hC hyes hno hG q2 hb hf
            go_wp2_with fail
            go_roundw
            case rel => exact ⟨k + 1, by omega, by go_num, fin _ rfl⟩
            case measure => simp [intOf]; omega
          · have hC : boolC S (lkB base S now (m.take k)) = boolC S (lkB base S now (m.take (k + 1))) := boolC_congr fun k' _ => hno (fun h => h2 h.2) k'
            rw [hC] at hG
            clear hset hC hyes hno hf
            go_wp2_with fail
            go_roundw
            case rel => exact ⟨k + 1, by omega, by go_num, hG, q2, hb⟩
            case measure => simp [intOf]; omega
        · have hC : boolC S (lkB base S now (m.take k)) = boolC S (lkB base S now (m.take (k + 1))) := boolC_congr fun k' _ => hno (fun h => h1 h.1) k'
          rw [hC] at hG
          clear hset hC hyes hno hf
          go_wp2_with fail
          go_roundw
          case rel => exact ⟨k + 1, by omega, by go_num, hG, q2, hb⟩
          case measure => simp [intOf]; omega
      · have ht : m.take k = m := List.take_of_length_le (by omega)
        rw [ht] at hG
        have hcs := fun k => count_succ S k (lkB base S now m)
        generalize hpe : lkB base S now m = p at *
        clear hT hf ht
        go_wp2_with fail
        go_loop [10, 11] (fun v i => ∃ k : Nat, k ≤ S ∧ i = .int .i64 k ∧ v = .int .i64 ((List.range k).countP p : Nat)) (fun _ i => S - (intOf i).toNat)
        case atStart => exact ⟨0, Nat.zero_le _, rfl, rfl⟩
        case round =>
          obtain ⟨k2, hk2, rfl, rfl⟩ := hrel
          have hle : (List.range k2).countP p ≤ k2 := Nat.le_trans List.countP_le_length (by simp)
          by_cases hlt2 : k2 < S
          · have gk := (hG.cell k2).trans (boolC_get S p k2 hlt2)
            have hc2 := hcs k2
            cases hpk : p k2 with
            | true =>
              rw [hpk] at gk hc2
              rw [if_pos rfl] at hc2
              have HC2 := Lib.hid hc2
              clear hc2 hcs
              generalize (List.range k2).countP p = z at *
              go_wp2_with fail
              go_round
              case rel => exact ⟨k2 + 1, by omega, by go_num, by rw [HC2.out]; go_num⟩
              case measure => simp [intOf]; omega
            | false =>
              rw [hpk] at gk hc2
              rw [if_neg (by simp), Nat.add_zero] at hc2
              have HC2 := Lib.hid hc2
              clear hc2 hcs
              generalize (List.range k2).countP p = z at *
              go_wp2_with fail
              go_round
              case rel => exact ⟨k2 + 1, by omega, by go_num, by rw [HC2.out]; rfl⟩
              case measure => simp [intOf]; omega
          · obtain rfl : k2 = S := by omega
            go_wp2_with fail
            go_ret
            exact ⟨by rw [HL.out]; rfl, hb⟩
end Go.Proofs.YtckkfbepclogcaaDoor
namespace Go.Proofs.YtckkfbepclogcaaDoor
open Go.RowKit
def wE (P : Int) (v : Value) (bits base lk e : Int) : Value := .tuple #[wV P v bits base lk, .int .i64 e]
/-- Five cells of a block are written. -/
theorem Blk.put5 {w : World} {g : Nat} {t : TypeId} {a b c d e : Value} (h : Blk w g t #[a, b, c, d, e]) (v0 v1 v2 v3 v4 : Value) :
    Blk (((((w.setCell ⟨g, 0, none⟩ v0).setCell ⟨g, 1, none⟩ v1).setCell ⟨g, 2, none⟩ v2).setCell ⟨g, 3, none⟩ v3).setCell ⟨g, 4, none⟩ v4) g t #[v0, v1, v2, v3, v4] := by
  have := ((((h.put 0 v0).put 1 v1).put 2 v2).put 3 v3).put 4 v4
  simpa using this
theorem below_put5 {w w' : World} {n g : Nat} (h : Below n w w') (hg : n ≤ g) (v0 v1 v2 v3 v4 : Value) :
    Below n w (((((w'.setCell ⟨g, 0, none⟩ v0).setCell ⟨g, 1, none⟩ v1).setCell ⟨g, 2, none⟩ v2).setCell ⟨g, 3, none⟩ v3).setCell ⟨g, 4, none⟩ v4) :=
  ((((h.setCell hg v0).setCell hg v1).setCell hg v2).setCell hg v3).setCell hg v4
set_option maxRecDepth 100000 in
theorem wnew_bad (P bits base : Int) (w : World) (h : ¬ NewOk P bits) :
    Calls Tryd.prog 14 #[.int .i64 P, .int .i64 bits, .int .u64 base] w fun e w' => e = .returned (wE 0 (.slice none 0 0) 0 0 0 1) ∧ Below w.heap.size w w' := by
  have hb0 : ∀ o, Below w.heap.size w (w.alloc o) := fun o => alloc_kept' w o
  by_cases hP : P < 0 ∨ (¬ P < 0 ∧ 1024 < P)
  · have hn := fun o => rnew_bad P (w.alloc o) hP
    clear h hP
    go_enter Tryd.func14, Tryd.ntmps14
    go_wp2_with fail
    refine (hn _).mono ?_
    rintro e w1 ⟨rfl, hb1⟩
    have hb2 := (hb0 _).trans (Below.mono hb1 (hb0 (.cells #[.int .i64 0, .slice none 0 0, .int .i64 0, .int .u64 0, .int .i64 0] 33)).size)
    have q0 := (Blk.new w 33 #[.int .i64 0, .slice none 0 0, .int .i64 0, .int .u64 0, .int .i64 0]).below hb1 (by simp)
    have HB := Lib.hid hb2
    have HQ0 := Lib.hid q0
    have hc := q0.cell
    have hz := q0.frozen
    have hl := q0.lt
    clear hb1 hb2 q0 hn hb0
    unfold qE qV
    go_wp2_with fail
    have q1 := HQ0.out.put5 (.int .i64 0) (.slice none 0 0) (.int .i64 0) (.int .u64 0) (.int .i64 0)
    have hc1 := q1.cell
    refine bodyPost_ret (v := wE 0 (.slice none 0 0) 0 0 0 1) ?_ rfl ⟨rfl, (below_put5 HB.out (Nat.le_refl _) (.int .i64 0) (.slice none 0 0) (.int .i64 0) (.int .u64 0) (.int .i64 0)).alloc (by simp; omega) _⟩
    simp [results, Tryd.results14, go_sem, wE, wV, hc1, hl]
  · have hn := fun o => rnew_ok P (w.alloc o) (by omega)
    unfold NewOk at h
    by_cases h1 : bits < 1
    · clear h hP
      go_enter Tryd.func14, Tryd.ntmps14
      go_wp2_with fail
      refine (hn _).mono ?_
      rintro e w1 ⟨rfl, hb1⟩
      have hb2 := (hb0 _).trans (Below.mono hb1 (hb0 (.cells #[.int .i64 0, .slice none 0 0, .int .i64 0, .int .u64 0, .int .i64 0] 33)).size)
      have q0 := (Blk.new w 33 #[.int .i64 0, .slice none 0 0, .int .i64 0, .int .u64 0, .int .i64 0]).below hb1 (by simp)
      have HB := Lib.hid hb2
      have HQ0 := Lib.hid q0
      have hc := q0.cell
      have hz := q0.frozen
      have hl := q0.lt
      clear hb1 hb2 q0 hn hb0
      unfold qE qV
      go_wp2_with fail
      have q1 := HQ0.out.put5 (.int .i64 0) (.slice none 0 0) (.int .i64 0) (.int .u64 0) (.int .i64 0)
      have hc1 := q1.cell
      refine bodyPost_ret (v := wE 0 (.slice none 0 0) 0 0 0 1) ?_ rfl ⟨rfl, (below_put5 HB.out (Nat.le_refl _) (.int .i64 0) (.slice none 0 0) (.int .i64 0) (.int .u64 0) (.int .i64 0)).alloc (by simp; omega) _⟩
      simp [results, Tryd.results14, go_sem, wE, wV, hc1, hl]
    · have h2 : 6 < bits := by omega
      clear h hP
      go_enter Tryd.func14, Tryd.ntmps14
      go_wp2_with fail
      refine (hn _).mono ?_
      rintro e w1 ⟨rfl, hb1⟩
      have hb2 := (hb0 _).trans (Below.mono hb1 (hb0 (.cells #[.int .i64 0, .slice none 0 0, .int .i64 0, .int .u64 0, .int .i64 0] 33)).size)
      have q0 := (Blk.new w 33 #[.int .i64 0, .slice none 0 0, .int .i64 0, .int .u64 0, .int .i64 0]).below hb1 (by simp)
      have HB := Lib.hid hb2
      have HQ0 := Lib.hid q0
      have hc := q0.cell
      have hz := q0.frozen
      have hl := q0.lt
      clear hb1 hb2 q0 hn hb0
      unfold qE qV
      go_wp2_with fail
      have q1 := HQ0.out.put5 (.int .i64 0) (.slice none 0 0) (.int .i64 0) (.int .u64 0) (.int .i64 0)
      have hc1 := q1.cell
      refine bodyPost_ret (v := wE 0 (.slice none 0 0) 0 0 0 1) ?_ rfl ⟨rfl, (below_put5 HB.out (Nat.le_refl _) (.int .i64 0) (.slice none 0 0) (.int .i64 0) (.int .u64 0) (.int .i64 0)).alloc (by simp; omega) _⟩
      simp [results, Tryd.results14, go_sem, wE, wV, hc1, hl]
set_option maxRecDepth 100000 in
theorem wnew_ok (P bits base : Int) (w : World) (h : NewOk P bits) :
    Calls Tryd.prog 14 #[.int .i64 P, .int .i64 bits, .int .u64 base] w fun e w' => e = .returned (wE P (.slice none 0 0) bits base 0 0) ∧ Below w.heap.size w w' := by
  have hb0 : ∀ o, Below w.heap.size w (w.alloc o) := fun o => alloc_kept' w o
  obtain ⟨h1, h2, h3, h4⟩ := h
  have hn := fun o => rnew_ok P (w.alloc o) ⟨h1, h2⟩
  go_enter Tryd.func14, Tryd.ntmps14
  go_wp2_with fail
  refine (hn _).mono ?_
  rintro e w1 ⟨rfl, hb1⟩
  have hb2 := (hb0 _).trans (Below.mono hb1 (hb0 (.cells #[.int .i64 0, .slice none 0 0, .int .i64 0, .int .u64 0, .int .i64 0] 33)).size)
  have q0 := (Blk.new w 33 #[.int .i64 0, .slice none 0 0, .int .i64 0, .int .u64 0, .int .i64 0]).below hb1 (by simp)
  have HB := Lib.hid hb2
  have HQ0 := Lib.hid q0
  have hc := q0.cell
  have hz := q0.frozen
  have hl := q0.lt
  clear hb1 hb2 q0 hn hb0
  unfold qE qV
  go_wp2_with fail
  have q1 := HQ0.out.put5 (.int .i64 P) (.slice none 0 0) (.int .i64 bits) (.int .u64 base) (.int .i64 0)
  have hc1 := q1.cell
  refine bodyPost_ret (v := wE P (.slice none 0 0) bits base 0 0) ?_ rfl ⟨rfl, (below_put5 HB.out (Nat.le_refl _) (.int .i64 P) (.slice none 0 0) (.int .i64 bits) (.int .u64 base) (.int .i64 0)).alloc (by simp; omega) _⟩
  simp [results, Tryd.results14, go_sem, wE, wV, hc1, hl]
/-- The four boxes of Do. -/
structure BoxW (ws xs : Array Value) (w : World) (w' : World) : Prop where
  b0 : Blk w' w.heap.size 33 ws
  b1 : Blk w' (w.heap.size + 1) 43 xs
  b2 : Blk w' (w.heap.size + 1 + 1) 33 #[.int .i64 0, .slice none 0 0, .int .i64 0, .int .u64 0, .int .i64 0]
  b3 : Blk w' (w.heap.size + 1 + 1 + 1) 39 #[.int .i64 0, .int .u64 0, .int .u64 0, .int .i64 0, .slice none 0 0]
  below : Below w.heap.size w w'
theorem BoxW.new (ws xs : Array Value) (w : World) : BoxW ws xs w ((((w.alloc (.cells ws 33)).alloc (.cells xs 43)).alloc (.cells #[.int .i64 0, .slice none 0 0, .int .i64 0, .int .u64 0, .int .i64 0] 33)).alloc (.cells #[.int .i64 0, .int .u64 0, .int .u64 0, .int .i64 0, .slice none 0 0] 39)) :=
  ⟨(((Blk.new _ _ _).alloc _).alloc _).alloc _, ((alloc2_at _ _ _ _).alloc _).alloc _, (alloc3_at _ _ _ _ _).alloc _, alloc4_at _ _ _ _ _ _, four_new _ _ _ _ _⟩
theorem BoxW.kept {ws xs : Array Value} {w x y : World} (h : BoxW ws xs w x) (k : Below x.heap.size x y) : BoxW ws xs w y :=
  ⟨h.b0.below k h.b0.lt, h.b1.below k h.b1.lt, h.b2.below k h.b2.lt, h.b3.below k h.b3.lt, h.below.trans (Below.mono k h.below.size)⟩
theorem BoxW.alloc {ws xs : Array Value} {w x : World} (h : BoxW ws xs w x) (o : Obj) : BoxW ws xs w (x.alloc o) := h.kept (alloc_kept' x o)
/-- The three boxes behind the call. -/
structure BoxX (qs ts ns : Array Value) (g : Nat) (w' : World) : Prop where
  c0 : Blk w' g 31 qs
  c1 : Blk w' (g + 1) 39 ts
  c2 : Blk w' (g + 1 + 1) 33 ns
theorem BoxX.new (qs ts ns : Array Value) (w : World) : BoxX qs ts ns w.heap.size (((w.alloc (.cells qs 31)).alloc (.cells ts 39)).alloc (.cells ns 33)) :=
  ⟨((Blk.new _ _ _).alloc _).alloc _, (alloc2_at _ _ _ _).alloc _, alloc3_at _ _ _ _ _⟩
theorem LAt.form {w : World} {v : Value} {l : List Timer} (h : LAt w v l) : ∃ A n c, v = .slice A n c := by
  obtain ⟨A, c, rfl, _⟩ := h
  exact ⟨A, _, c, rfl⟩
theorem LAt.put5 {w : World} {v : Value} {l : List Timer} (h : LAt w v l) {g : Nat} (hg : ∀ k, blkOf v = some k → k ≠ g) (v0 v1 v2 v3 v4 : Value) :
    LAt (((((w.setCell ⟨g, 0, none⟩ v0).setCell ⟨g, 1, none⟩ v1).setCell ⟨g, 2, none⟩ v2).setCell ⟨g, 3, none⟩ v3).setCell ⟨g, 4, none⟩ v4) v l :=
  ((((h.setCell ⟨g, 0, none⟩ v0 hg).setCell ⟨g, 1, none⟩ v1 hg).setCell ⟨g, 2, none⟩ v2 hg).setCell ⟨g, 3, none⟩ v3 hg).setCell ⟨g, 4, none⟩ v4 hg
theorem Blk.far5 {w : World} {b : Nat} {t : TypeId} {cs : Array Value} (h : Blk w b t cs) {g : Nat} (hg : b ≠ g) (v0 v1 v2 v3 v4 : Value) :
    Blk (((((w.setCell ⟨g, 0, none⟩ v0).setCell ⟨g, 1, none⟩ v1).setCell ⟨g, 2, none⟩ v2).setCell ⟨g, 3, none⟩ v3).setCell ⟨g, 4, none⟩ v4) b t cs :=
  ((((h.far (p := ⟨g, 0, none⟩) hg v0).far (p := ⟨g, 1, none⟩) hg v1).far (p := ⟨g, 2, none⟩) hg v2).far (p := ⟨g, 3, none⟩) hg v3).far (p := ⟨g, 4, none⟩) hg v4
/-- What stands behind both stores. -/
structure FinW (w x W : World) (g2 g3 : Nat) (y0 y1 y2 y3 y4 z0 z1 z2 z3 z4 : Value) : Prop where
  b2 : Blk W g2 33 #[y0, y1, y2, y3, y4]
  b3 : Blk W g3 39 #[z0, z1, z2, z3, z4]
  below : Below w.heap.size w W
  keep : ∀ v l, LAt x v l → (∀ g, blkOf v = some g → g ≠ g2 ∧ g ≠ g3) → LAt W v l
theorem finW {w x : World} {g2 g3 : Nat} {o0 o1 o2 o3 o4 p0 p1 p2 p3 p4 : Value} (y0 y1 y2 y3 y4 z0 z1 z2 z3 z4 : Value) (h2 : Blk x g2 33 #[o0, o1, o2, o3, o4]) (h3 : Blk x g3 39 #[p0, p1, p2, p3, p4]) (hb : Below w.heap.size w x) (hne : g2 ≠ g3) (l2 : w.heap.size ≤ g2) (l3 : w.heap.size ≤ g3) :
    FinW w x ((((((((((x.setCell ⟨g2, 0, none⟩ y0).setCell ⟨g2, 1, none⟩ y1).setCell ⟨g2, 2, none⟩ y2).setCell ⟨g2, 3, none⟩ y3).setCell ⟨g2, 4, none⟩ y4).setCell ⟨g3, 0, none⟩ z0).setCell ⟨g3, 1, none⟩ z1).setCell ⟨g3, 2, none⟩ z2).setCell ⟨g3, 3, none⟩ z3).setCell ⟨g3, 4, none⟩ z4).drew g2 g3 y0 y1 y2 y3 y4 z0 z1 z2 z3 z4 ∧
    FinW w x ((((((((((x.setCell ⟨g3, 0, none⟩ z0).setCell ⟨g3, 1, none⟩ z1).setCell ⟨g3, 2, none⟩ z2).setCell ⟨g3, 3, none⟩ z3).setCell ⟨g3, 4, none⟩ z4).setCell ⟨g2, 0, none⟩ y0).setCell ⟨g2, 1, none⟩ y1).setCell ⟨g2, 2, none⟩ y2).setCell ⟨g2, 3, none⟩ y3).setCell ⟨g2, 4, none⟩ y4).drew g2 g3 y0 y1 y2 y3 y4 z0 z1 z2 z3 z4 :=
  ⟨⟨((h2.put5 y0 y1 y2 y3 y4).far5 hne z0 z1 z2 z3 z4).drew, ((h3.far5 hne.symm y0 y1 y2 y3 y4).put5 z0 z1 z2 z3 z4).drew, (below_put5 (below_put5 hb l2 y0 y1 y2 y3 y4) l3 z0 z1 z2 z3 z4).drew, fun _ _ h hg => ((h.put5 (fun k hk => (hg k hk).1) y0 y1 y2 y3 y4).put5 (fun k hk => (hg k hk).2) z0 z1 z2 z3 z4).on (Below.refl _ _).drew⟩,
   ⟨((h2.far5 hne z0 z1 z2 z3 z4).put5 y0 y1 y2 y3 y4).drew, ((h3.put5 z0 z1 z2 z3 z4).far5 hne.symm y0 y1 y2 y3 y4).drew, (below_put5 (below_put5 hb l3 z0 z1 z2 z3 z4) l2 y0 y1 y2 y3 y4).drew, fun _ _ h hg => ((h.put5 (fun k hk => (hg k hk).2) z0 z1 z2 z3 z4).put5 (fun k hk => (hg k hk).1) y0 y1 y2 y3 y4).on (Below.refl _ _).drew⟩⟩
def baseN (base : Int) (a : Act) : Int := if a.kind = 3 then max base a.now else base
def lookN (m : List Timer) (base : Int) (S : Nat) (lk : Int) (a : Act) : Int := if a.kind = 3 then (lookL m base S a.now : Nat) else lk
set_option maxRecDepth 100000 in
set_option maxHeartbeats 4000000 in
theorem wdo_rest (P : Int) (v : Value) (m : List Timer) (n : Nat) (base lk : Int) (a : Act) (w : World) (h : LAt w v m) (hl : m.length ≤ 100000) (h3 : ¬ a.kind = 3) :
    Calls Tryd.prog 15 #[wV P v n base lk, a.val] w fun e w' => ∃ v' u, e = .returned (.tuple #[wV P v' n base lk, tV (doE P m a) (doT P m a) u]) ∧ LAt w' v' (doL P m a) ∧ LAt w' u (doD m a) ∧ Below w.heap.size w w' ∧ FreshV w v v' ∧ FreshV w (.slice none 0 0) u := by
  have hV := h.blk
  have k0 := BoxW.new #[.int .i64 P, v, .int .i64 n, .int .u64 base, .int .i64 lk] #[.int .i64 a.kind, .int .u64 a.t.at_, .int .u64 a.t.seq, .int .i64 a.t.place, .int .u64 a.now] w
  have hdo := rdo_any P v m a _ (h.on k0.below) hl
  unfold qV Act.val at hdo
  unfold wV Act.val
  generalize a.kind = kd at *
  go_enter Tryd.func15, Tryd.ntmps15
  go_wp2_with fail
  refine hdo.mono ?_
  rintro e w1 ⟨v1, u1, rfl, hv1, hu1, hx1, hf1, hf2⟩
  have k1 := k0.kept hx1
  obtain ⟨A1, n1, c1, rfl⟩ := hv1.form
  obtain ⟨A2, n2, c2, rfl⟩ := hu1.form
  have e1 := k1.b1.cell
  have e2 := k1.b0.cell
  have l0 := k1.b0.lt
  have l1 := k1.b1.lt
  clear hdo k0
  unfold doV tV qV
  generalize hx : doT P m a = x at *
  generalize hy : doE P m a = y at *
  go_upto_region 6 with fail
  have q0 := BoxX.new #[.int .i64 P, .slice A1 n1 c1] #[.int .i64 y, .int .u64 x.at_, .int .u64 x.seq, .int .i64 x.place, .slice A2 n2 c2] #[.int .i64 P, .slice A1 n1 c1, .int .i64 n, .int .u64 base, .int .i64 lk] w1
  have k2 := ((k1.alloc (.cells #[.int .i64 P, .slice A1 n1 c1] 31)).alloc (.cells #[.int .i64 y, .int .u64 x.at_, .int .u64 x.seq, .int .i64 x.place, .slice A2 n2 c2] 39)).alloc (.cells #[.int .i64 P, .slice A1 n1 c1, .int .i64 n, .int .u64 base, .int .i64 lk] 33)
  have l4 := k1.b3.lt
  clear k1 e1 e2 l0 l1
  have hM1 := ((hv1.on (alloc_kept' _ (.cells #[.int .i64 P, .slice A1 n1 c1] 31))).on (alloc_kept' _ (.cells #[.int .i64 y, .int .u64 x.at_, .int .u64 x.seq, .int .i64 x.place, .slice A2 n2 c2] 39))).on (alloc_kept' _ (.cells #[.int .i64 P, .slice A1 n1 c1, .int .i64 n, .int .u64 base, .int .i64 lk] 33))
  have hM2 := ((hu1.on (alloc_kept' _ (.cells #[.int .i64 P, .slice A1 n1 c1] 31))).on (alloc_kept' _ (.cells #[.int .i64 y, .int .u64 x.at_, .int .u64 x.seq, .int .i64 x.place, .slice A2 n2 c2] 39))).on (alloc_kept' _ (.cells #[.int .i64 P, .slice A1 n1 c1, .int .i64 n, .int .u64 base, .int .i64 lk] 33))
  generalize ((w1.alloc (.cells #[.int .i64 P, .slice A1 n1 c1] 31)).alloc (.cells #[.int .i64 y, .int .u64 x.at_, .int .u64 x.seq, .int .i64 x.place, .slice A2 n2 c2] 39)).alloc (.cells #[.int .i64 P, .slice A1 n1 c1, .int .i64 n, .int .u64 base, .int .i64 lk] 33) = w2 at *
  have e1 := q0.c1.cell
  have e2 := q0.c2.cell
  have z0 := k2.b2.cell
  have z1 := k2.b3.cell
  have z2 := k2.b2.frozen
  have z3 := k2.b3.frozen
  have l2 := k2.b2.lt
  have l3 := k2.b3.lt
  have l5 := q0.c2.lt
  have n1' : w1.heap.size + 1 ≠ w.heap.size + 1 + 1 := by omega
  have n2' : w1.heap.size + 1 + 1 ≠ w.heap.size + 1 + 1 := by omega
  have n3' : w1.heap.size + 1 ≠ w.heap.size + 1 + 1 + 1 := by omega
  have n4' : w1.heap.size + 1 + 1 ≠ w.heap.size + 1 + 1 + 1 := by omega
  have n5' : w.heap.size + 1 + 1 ≠ w.heap.size + 1 + 1 + 1 := by omega
  have m1' := n1'.symm
  have m2' := n2'.symm
  have m3' := n3'.symm
  have m4' := n4'.symm
  have m5' := n5'.symm
  have fin : Hid (∀ W, FinW w w2 W (w.heap.size + 1 + 1) (w.heap.size + 1 + 1 + 1) (.int .i64 P) (.slice A1 n1 c1) (.int .i64 n) (.int .u64 base) (.int .i64 lk) (.int .i64 y) (.int .u64 x.at_) (.int .u64 x.seq) (.int .i64 x.place) (.slice A2 n2 c2) → LAt W (.slice A1 n1 c1) (doL P m a) ∧ LAt W (.slice A2 n2 c2) (doD m a) ∧ Below w.heap.size w W ∧ FreshV w v (.slice A1 n1 c1) ∧ FreshV w (.slice none 0 0) (.slice A2 n2 c2)) := Lib.hid (by
    intro W hF
    refine ⟨hF.keep _ _ hM1 ?_, hF.keep _ _ hM2 ?_, hF.below, ?_, ?_⟩
    · intro g hg
      rcases hf1 g hg with h | h
      · have := hV g h; omega
      · simp at h; omega
    · intro g hg
      rcases hf2 g hg with h | h
      · cases h
      · simp at h; omega
    · intro g hg
      rcases hf1 g hg with h | h
      · exact .inl h
      · right; simp at h; omega
    · intro g hg
      rcases hf2 g hg with h | h
      · exact .inl h
      · right; simp at h; omega)
  have hFW := Lib.hid (finW (w := w) (.int .i64 P) (.slice A1 n1 c1) (.int .i64 n) (.int .u64 base) (.int .i64 lk) (.int .i64 y) (.int .u64 x.at_) (.int .u64 x.seq) (.int .i64 x.place) (.slice A2 n2 c2) k2.b2 k2.b3 k2.below n5' (by omega) (by omega))
  clear hx1 hv1 hu1 h hf1 hf2 k2 q0 l4 hM1 hM2 hV
  generalize w.heap.size + 1 + 1 + 1 = g3 at *
  generalize w.heap.size + 1 + 1 = g2 at *
  generalize w1.heap.size + 1 + 1 = h2 at *
  generalize w1.heap.size + 1 = h1 at *
  have HX := Lib.hid hx
  have HY := Lib.hid hy
  clear hx hy
  go_region
  all_goals
    go_wp2_with fail
    first
    | (have hW := hFW.out.1
       have s2 := hW.b2.cell
       have s3 := hW.b3.cell
       refine bodyPost_ret (v := .tuple #[.agg #[.int .i64 P, .slice A1 n1 c1, .int .i64 n, .int .u64 base, .int .i64 lk], .agg #[.int .i64 y, .int .u64 x.at_, .int .u64 x.seq, .int .i64 x.place, .slice A2 n2 c2]]) ?_ rfl ⟨.slice A1 n1 c1, .slice A2 n2 c2, by rw [HX.out, HY.out]; rfl, fin.out _ hW⟩
       simp [results, Tryd.results15, go_sem, s2, s3])
    | (have hW := hFW.out.2
       have s2 := hW.b2.cell
       have s3 := hW.b3.cell
       refine bodyPost_ret (v := .tuple #[.agg #[.int .i64 P, .slice A1 n1 c1, .int .i64 n, .int .u64 base, .int .i64 lk], .agg #[.int .i64 y, .int .u64 x.at_, .int .u64 x.seq, .int .i64 x.place, .slice A2 n2 c2]]) ?_ rfl ⟨.slice A1 n1 c1, .slice A2 n2 c2, by rw [HX.out, HY.out]; rfl, fin.out _ hW⟩
       simp [results, Tryd.results15, go_sem, s2, s3])
set_option maxRecDepth 100000 in
set_option maxHeartbeats 4000000 in
theorem wdo_due (P : Int) (v : Value) (m : List Timer) (n : Nat) (base lk : Int) (a : Act) (w : World) (h : LAt w v m) (hl : m.length ≤ 100000) (h3 : a.kind = 3) (hn : n ≤ 6) (hb : U64 base) (hw : U64 a.now) (hf : ∀ x ∈ m, U64 x.at_) :
    Calls Tryd.prog 15 #[wV P v n base lk, a.val] w fun e w' => ∃ v' u, e = .returned (.tuple #[wV P v' n (max base a.now) (lookL m base (slotsN n) a.now : Nat), tV (doE P m a) (doT P m a) u]) ∧ LAt w' v' (doL P m a) ∧ LAt w' u (doD m a) ∧ Below w.heap.size w w' ∧ FreshV w v v' ∧ FreshV w (.slice none 0 0) u := by
  have hV := h.blk
  have k0 := BoxW.new #[.int .i64 P, v, .int .i64 n, .int .u64 base, .int .i64 lk] #[.int .i64 a.kind, .int .u64 a.t.at_, .int .u64 a.t.seq, .int .i64 a.t.place, .int .u64 a.now] w
  have hdo := rdo_any P v m a _ (h.on k0.below) hl
  obtain ⟨A0, n0, c0, rfl⟩ := h.form
  unfold qV Act.val at hdo
  unfold wV Act.val
  rw [h3] at hdo k0 ⊢
  go_enter Tryd.func15, Tryd.ntmps15
  go_wp2_with fail
  refine hdo.mono ?_
  rintro e w1 ⟨v1, u1, rfl, hv1, hu1, hx1, hf1, hf2⟩
  have k1 := k0.kept hx1
  obtain ⟨A1, n1, c1, rfl⟩ := hv1.form
  obtain ⟨A2, n2, c2, rfl⟩ := hu1.form
  have e1 := k1.b1.cell
  have e2 := k1.b0.cell
  have l0 := k1.b0.lt
  have l1 := k1.b1.lt
  have h0 := (h.on k0.below).on hx1
  clear hdo k0
  unfold doV tV qV
  generalize hx : doT P m a = x at *
  generalize hy : doE P m a = y at *
  go_upto_region 4 with fail
  have q0 := BoxX.new #[.int .i64 P, .slice A1 n1 c1] #[.int .i64 y, .int .u64 x.at_, .int .u64 x.seq, .int .i64 x.place, .slice A2 n2 c2] #[.int .i64 P, .slice A1 n1 c1, .int .i64 n, .int .u64 base, .int .i64 lk] w1
  have k2 := ((k1.alloc (.cells #[.int .i64 P, .slice A1 n1 c1] 31)).alloc (.cells #[.int .i64 y, .int .u64 x.at_, .int .u64 x.seq, .int .i64 x.place, .slice A2 n2 c2] 39)).alloc (.cells #[.int .i64 P, .slice A1 n1 c1, .int .i64 n, .int .u64 base, .int .i64 lk] 33)
  have l4 := k1.b3.lt
  clear k1 e1 e2 l0 l1
  have hM0 := ((h0.on (alloc_kept' _ (.cells #[.int .i64 P, .slice A1 n1 c1] 31))).on (alloc_kept' _ (.cells #[.int .i64 y, .int .u64 x.at_, .int .u64 x.seq, .int .i64 x.place, .slice A2 n2 c2] 39))).on (alloc_kept' _ (.cells #[.int .i64 P, .slice A1 n1 c1, .int .i64 n, .int .u64 base, .int .i64 lk] 33))
  have hM1 := ((hv1.on (alloc_kept' _ (.cells #[.int .i64 P, .slice A1 n1 c1] 31))).on (alloc_kept' _ (.cells #[.int .i64 y, .int .u64 x.at_, .int .u64 x.seq, .int .i64 x.place, .slice A2 n2 c2] 39))).on (alloc_kept' _ (.cells #[.int .i64 P, .slice A1 n1 c1, .int .i64 n, .int .u64 base, .int .i64 lk] 33))
  have hM2 := ((hu1.on (alloc_kept' _ (.cells #[.int .i64 P, .slice A1 n1 c1] 31))).on (alloc_kept' _ (.cells #[.int .i64 y, .int .u64 x.at_, .int .u64 x.seq, .int .i64 x.place, .slice A2 n2 c2] 39))).on (alloc_kept' _ (.cells #[.int .i64 P, .slice A1 n1 c1, .int .i64 n, .int .u64 base, .int .i64 lk] 33))
  generalize ((w1.alloc (.cells #[.int .i64 P, .slice A1 n1 c1] 31)).alloc (.cells #[.int .i64 y, .int .u64 x.at_, .int .u64 x.seq, .int .i64 x.place, .slice A2 n2 c2] 39)).alloc (.cells #[.int .i64 P, .slice A1 n1 c1, .int .i64 n, .int .u64 base, .int .i64 lk] 33) = w2 at *
  have hlk := rlooked_any P (.slice A0 n0 c0) m n base lk a.now w2 hM0 hl hn hb hw hf
  unfold wV at hlk
  have e1 := k2.b0.cell
  have e2 := k2.b1.cell
  have l0 := k2.b0.lt
  have l1 := k2.b1.lt
  clear hM0 h0
  generalize hl2 : lookL m base (slotsN n) a.now = lk2 at *
  have HL2 := Lib.hid hl2
  clear hl2
  go_wp2_with fail
  refine hlk.mono ?_
  rintro e w3 ⟨rfl, hx3⟩
  have k3 := k2.kept hx3
  have q3 : BoxX _ _ _ _ w3 := ⟨q0.c0.below hx3 q0.c0.lt, q0.c1.below hx3 q0.c1.lt, q0.c2.below hx3 q0.c2.lt⟩
  have hN1 := hM1.on hx3
  have hN2 := hM2.on hx3
  clear e1 e2 l0 l1 k2 q0 hM1 hM2 hlk hx3
  have e1 := k3.b0.cell
  have e2 := k3.b1.cell
  have e3 := q3.c2.cell
  have e4 := q3.c2.frozen
  have l0 := k3.b0.lt
  have l1 := k3.b1.lt
  have l2 := q3.c2.lt
  have n1' : w1.heap.size + 1 + 1 ≠ w.heap.size := by omega
  have n2' : w1.heap.size + 1 + 1 ≠ w.heap.size + 1 := by omega
  go_upto_region 6 with fail
  have g0 : w.heap.size ≠ w1.heap.size + 1 + 1 := by omega
  have g1 : w.heap.size + 1 ≠ w1.heap.size + 1 + 1 := by omega
  have g2 : w.heap.size + 1 + 1 ≠ w1.heap.size + 1 + 1 := by omega
  have g3 : w.heap.size + 1 + 1 + 1 ≠ w1.heap.size + 1 + 1 := by omega
  have g4 : w1.heap.size ≠ w1.heap.size + 1 + 1 := by omega
  have g5 : w1.heap.size + 1 ≠ w1.heap.size + 1 + 1 := by omega
  have k2 : BoxW _ _ w ((w3.setCell ⟨w1.heap.size + 1 + 1, 4, none⟩ (.int .i64 lk2)).setCell ⟨w1.heap.size + 1 + 1, 3, none⟩ (.int .u64 (max base a.now))) :=
    ⟨(k3.b0.far (p := ⟨w1.heap.size + 1 + 1, 4, none⟩) g0 _).far (p := ⟨w1.heap.size + 1 + 1, 3, none⟩) g0 _, (k3.b1.far (p := ⟨w1.heap.size + 1 + 1, 4, none⟩) g1 _).far (p := ⟨w1.heap.size + 1 + 1, 3, none⟩) g1 _, (k3.b2.far (p := ⟨w1.heap.size + 1 + 1, 4, none⟩) g2 _).far (p := ⟨w1.heap.size + 1 + 1, 3, none⟩) g2 _, (k3.b3.far (p := ⟨w1.heap.size + 1 + 1, 4, none⟩) g3 _).far (p := ⟨w1.heap.size + 1 + 1, 3, none⟩) g3 _, (k3.below.setCell (p := ⟨w1.heap.size + 1 + 1, 4, none⟩) (by simp; omega) _).setCell (p := ⟨w1.heap.size + 1 + 1, 3, none⟩) (by simp; omega) _⟩
  have q0 : BoxX _ _ #[.int .i64 P, .slice A1 n1 c1, .int .i64 n, .int .u64 (max base a.now), .int .i64 lk2] w1.heap.size ((w3.setCell ⟨w1.heap.size + 1 + 1, 4, none⟩ (.int .i64 lk2)).setCell ⟨w1.heap.size + 1 + 1, 3, none⟩ (.int .u64 (max base a.now))) :=
    ⟨(q3.c0.far (p := ⟨w1.heap.size + 1 + 1, 4, none⟩) g4 _).far (p := ⟨w1.heap.size + 1 + 1, 3, none⟩) g4 _, (q3.c1.far (p := ⟨w1.heap.size + 1 + 1, 4, none⟩) g5 _).far (p := ⟨w1.heap.size + 1 + 1, 3, none⟩) g5 _, by simpa using (q3.c2.put 4 (.int .i64 lk2)).put 3 (.int .u64 (max base a.now))⟩
  have hne1 : ∀ k, blkOf (.slice A1 n1 c1) = some k → k ≠ w1.heap.size + 1 + 1 := fun k hk => by have := hv1.blk k hk; omega
  have hne2 : ∀ k, blkOf (.slice A2 n2 c2) = some k → k ≠ w1.heap.size + 1 + 1 := fun k hk => by have := hu1.blk k hk; omega
  have hM1 := (hN1.setCell ⟨w1.heap.size + 1 + 1, 4, none⟩ (.int .i64 lk2) hne1).setCell ⟨w1.heap.size + 1 + 1, 3, none⟩ (.int .u64 (max base a.now)) hne1
  have hM2 := (hN2.setCell ⟨w1.heap.size + 1 + 1, 4, none⟩ (.int .i64 lk2) hne2).setCell ⟨w1.heap.size + 1 + 1, 3, none⟩ (.int .u64 (max base a.now)) hne2
  clear k3 q3 hN1 hN2 e1 e2 e3 e4 l0 l1 l2 n1' n2' g0 g1 g2 g3 g4 g5 hne1 hne2
  generalize (w3.setCell ⟨w1.heap.size + 1 + 1, 4, none⟩ (.int .i64 lk2)).setCell ⟨w1.heap.size + 1 + 1, 3, none⟩ (.int .u64 (max base a.now)) = w4 at *
  generalize hb2 : max base a.now = bn at *
  have HB2 := Lib.hid hb2
  clear hb2
  clear hb hw hf hn
  have e1 := q0.c1.cell
  have e2 := q0.c2.cell
  have z0 := k2.b2.cell
  have z1 := k2.b3.cell
  have z2 := k2.b2.frozen
  have z3 := k2.b3.frozen
  have l2 := k2.b2.lt
  have l3 := k2.b3.lt
  have l5 := q0.c2.lt
  have n1' : w1.heap.size + 1 ≠ w.heap.size + 1 + 1 := by omega
  have n2' : w1.heap.size + 1 + 1 ≠ w.heap.size + 1 + 1 := by omega
  have n3' : w1.heap.size + 1 ≠ w.heap.size + 1 + 1 + 1 := by omega
  have n4' : w1.heap.size + 1 + 1 ≠ w.heap.size + 1 + 1 + 1 := by omega
  have n5' : w.heap.size + 1 + 1 ≠ w.heap.size + 1 + 1 + 1 := by omega
  have m1' := n1'.symm
  have m2' := n2'.symm
  have m3' := n3'.symm
  have m4' := n4'.symm
  have m5' := n5'.symm
  have fin : Hid (∀ W, FinW w w4 W (w.heap.size + 1 + 1) (w.heap.size + 1 + 1 + 1) (.int .i64 P) (.slice A1 n1 c1) (.int .i64 n) (.int .u64 bn) (.int .i64 lk2) (.int .i64 y) (.int .u64 x.at_) (.int .u64 x.seq) (.int .i64 x.place) (.slice A2 n2 c2) → LAt W (.slice A1 n1 c1) (doL P m a) ∧ LAt W (.slice A2 n2 c2) (doD m a) ∧ Below w.heap.size w W ∧ FreshV w (.slice A0 n0 c0) (.slice A1 n1 c1) ∧ FreshV w (.slice none 0 0) (.slice A2 n2 c2)) := Lib.hid (by
    intro W hF
    refine ⟨hF.keep _ _ hM1 ?_, hF.keep _ _ hM2 ?_, hF.below, ?_, ?_⟩
    · intro g hg
      rcases hf1 g hg with h | h
      · have := hV g h; omega
      · simp at h; omega
    · intro g hg
      rcases hf2 g hg with h | h
      · cases h
      · simp at h; omega
    · intro g hg
      rcases hf1 g hg with h | h
      · exact .inl h
      · right; simp at h; omega
    · intro g hg
      rcases hf2 g hg with h | h
      · exact .inl h
      · right; simp at h; omega)
  have hFW := Lib.hid (finW (w := w) (.int .i64 P) (.slice A1 n1 c1) (.int .i64 n) (.int .u64 bn) (.int .i64 lk2) (.int .i64 y) (.int .u64 x.at_) (.int .u64 x.seq) (.int .i64 x.place) (.slice A2 n2 c2) k2.b2 k2.b3 k2.below n5' (by omega) (by omega))
  clear hx1 hv1 hu1 h hf1 hf2 k2 q0 l4 hM1 hM2 hV
  generalize w.heap.size + 1 + 1 + 1 = g3 at *
  generalize w.heap.size + 1 + 1 = g2 at *
  generalize w1.heap.size + 1 + 1 = h2 at *
  generalize w1.heap.size + 1 = h1 at *
  have HX := Lib.hid hx
  have HY := Lib.hid hy
  clear hx hy
  go_region
  all_goals
    go_wp2_with fail
    first
    | (have hW := hFW.out.1
       have s2 := hW.b2.cell
       have s3 := hW.b3.cell
       refine bodyPost_ret (v := .tuple #[.agg #[.int .i64 P, .slice A1 n1 c1, .int .i64 n, .int .u64 bn, .int .i64 lk2], .agg #[.int .i64 y, .int .u64 x.at_, .int .u64 x.seq, .int .i64 x.place, .slice A2 n2 c2]]) ?_ rfl ⟨.slice A1 n1 c1, .slice A2 n2 c2, by rw [HX.out, HY.out, HB2.out, HL2.out]; rfl, fin.out _ hW⟩
       simp [results, Tryd.results15, go_sem, s2, s3])
    | (have hW := hFW.out.2
       have s2 := hW.b2.cell
       have s3 := hW.b3.cell
       refine bodyPost_ret (v := .tuple #[.agg #[.int .i64 P, .slice A1 n1 c1, .int .i64 n, .int .u64 bn, .int .i64 lk2], .agg #[.int .i64 y, .int .u64 x.at_, .int .u64 x.seq, .int .i64 x.place, .slice A2 n2 c2]]) ?_ rfl ⟨.slice A1 n1 c1, .slice A2 n2 c2, by rw [HX.out, HY.out, HB2.out, HL2.out]; rfl, fin.out _ hW⟩
       simp [results, Tryd.results15, go_sem, s2, s3])
theorem wdo_any (P : Int) (v : Value) (m : List Timer) (n : Nat) (base lk : Int) (a : Act) (w : World) (h : LAt w v m) (hl : m.length ≤ 100000) (hn : n ≤ 6) (hb : U64 base) (hw : U64 a.now) (hf : ∀ x ∈ m, U64 x.at_) :
    Calls Tryd.prog 15 #[wV P v n base lk, a.val] w fun e w' => ∃ v' u, e = .returned (.tuple #[wV P v' n (baseN base a) (lookN m base (slotsN n) lk a), tV (doE P m a) (doT P m a) u]) ∧ LAt w' v' (doL P m a) ∧ LAt w' u (doD m a) ∧ Below w.heap.size w w' ∧ FreshV w v v' ∧ FreshV w (.slice none 0 0) u := by
  by_cases h3 : a.kind = 3
  · have e1 : baseN base a = max base a.now := by simp [baseN, h3]
    have e2 : lookN m base (slotsN n) lk a = (lookL m base (slotsN n) a.now : Nat) := by simp [lookN, h3]
    rw [e1, e2]
    exact wdo_due P v m n base lk a w h hl h3 hn hb hw hf
  · have e1 : baseN base a = base := by simp [baseN, h3]
    have e2 : lookN m base (slotsN n) lk a = lk := by simp [lookN, h3]
    rw [e1, e2]
    exact wdo_rest P v m n base lk a w h hl h3
end Go.Proofs.YtckkfbepclogcaaDoor
namespace Go.Proofs.YtckkfbepclogcaaDoor
open Go.RowKit
theorem HQ.chg {w w' : World} {q tb c nb P S : Nat} {base lk : Int} {m : List Timer} {T : Nat → Prop} (h : HQ w q tb c nb P S base lk m) (k : Chg T w w') (h1 : ¬ T q) (h2 : ¬ T tb) (h3 : ¬ T c) (h4 : ¬ T nb) : HQ w' q tb c nb P S base lk m := by
  obtain ⟨s, b, a1, a2, a3⟩ := h.ex
  exact ⟨s, b, a1.chg k h1 h2 h3 h4, a2, a3⟩
theorem chg_put5 {w w' : World} {T : Nat → Prop} {g : Nat} (h : Chg T w w') (hg : g < w.heap.size → T g) (v0 v1 v2 v3 v4 : Value) :
    Chg T w (((((w'.setCell ⟨g, 0, none⟩ v0).setCell ⟨g, 1, none⟩ v1).setCell ⟨g, 2, none⟩ v2).setCell ⟨g, 3, none⟩ v3).setCell ⟨g, 4, none⟩ v4) :=
  ((((h.setCell (p := ⟨g, 0, none⟩) hg v0).setCell (p := ⟨g, 1, none⟩) hg v1).setCell (p := ⟨g, 2, none⟩) hg v2).setCell (p := ⟨g, 3, none⟩) hg v3).setCell (p := ⟨g, 4, none⟩) hg v4
/-- Behind the act: the told cells are written. -/
theorem do_fin {w w3 : World} {q tb c nb P S g : Nat} {base lk : Int} {m : List Timer} {o0 o1 o2 o3 o4 : Value} (h : HQ w3 q tb c nb P S base lk m) (k : Chg (HS q tb nb) w w3) (hq : q < w.heap.size) (ht : tb < w.heap.size) (hc : c < w.heap.size) (hn : nb < w.heap.size) (hg : w.heap.size ≤ g) (b : Blk w3 g 39 #[o0, o1, o2, o3, o4]) (v0 v1 v2 v3 v4 : Value) :
    ∀ W, W = (((((w3.setCell ⟨g, 0, none⟩ v0).setCell ⟨g, 1, none⟩ v1).setCell ⟨g, 2, none⟩ v2).setCell ⟨g, 3, none⟩ v3).setCell ⟨g, 4, none⟩ v4) →
      HQ W q tb c nb P S base lk m ∧ Chg (HS q tb nb) w W ∧ Blk W g 39 #[v0, v1, v2, v3, v4] := by
  rintro W rfl
  exact ⟨h.chg (T := fun x => x = g) (chg_put5 (Chg.refl (fun x => x = g) w3) (fun _ => rfl) v0 v1 v2 v3 v4) (by omega) (by omega) (by omega) (by omega), chg_put5 k (fun x => absurd x (by omega)) v0 v1 v2 v3 v4, b.put5 v0 v1 v2 v3 v4⟩
set_option maxRecDepth 100000 in
set_option maxHeartbeats 2000000 in
theorem hdo_ins (q tb c nb P S : Nat) (base lk : Int) (m : List Timer) (a : Act) (w : World) (h : HQ w q tb c nb P S base lk m) (z : HSz P S) (hb : U64 base) (ht : U64 a.t.at_) (hk : a.kind = 0) :
    Calls Tryd.prog 17 #[.pointer (some ⟨q, 0, none⟩), a.val] w fun e w' => e = .returned (tV (insC P m a.t) Timer.zero (.slice none 0 0)) ∧ HQ w' q tb c nb P S base lk (insL P m a.t) ∧ Chg (HS q tb nb) w w' := by
  obtain ⟨l0, l1, l2, l3⟩ := h.lts
  have q0 : Blk ((w.alloc (.cells #[.int .i64 a.kind, .int .u64 a.t.at_, .int .u64 a.t.seq, .int .i64 a.t.place, .int .u64 a.now] 43)).alloc (.cells #[.int .i64 0, .int .u64 0, .int .u64 0, .int .i64 0, .slice none 0 0] 39)) (w.heap.size + 1) 39 #[.int .i64 0, .int .u64 0, .int .u64 0, .int .i64 0, .slice none 0 0] := alloc2_at _ _ _ _
  have hb0 : Below w.heap.size w ((w.alloc (.cells #[.int .i64 a.kind, .int .u64 a.t.at_, .int .u64 a.t.seq, .int .i64 a.t.place, .int .u64 a.now] 43)).alloc (.cells #[.int .i64 0, .int .u64 0, .int .u64 0, .int .i64 0, .slice none 0 0] 39)) := ((Below.refl _ _).alloc (Nat.le_refl _) _).alloc (by simp) _
  have h1 := h.below hb0
  have hout : ¬ HS q tb nb (w.heap.size + 1) := by unfold HS; omega
  have hin := hq_ins q tb c nb P S base lk m a.t _ h1 z hb ht
  unfold Timer.val at hin
  unfold Act.val
  rw [hk] at q0 hb0 hin h1 ⊢
  clear h h1
  go_enter Tryd.func17, Tryd.ntmps17
  go_wp2_with fail
  refine hin.mono ?_
  rintro e w1 ⟨rfl, hq1, hk1⟩
  have q1 := q0.chg hk1 hout
  replace hk1 := (Chg.of_same hb0 _).trans hk1 (fun _ _ e => e)
  clear hin q0 hb0
  generalize hC : insC P m a.t = x at *
  generalize hL : insL P m a.t = y at *
  have HC := Lib.hid hC
  have HL := Lib.hid hL
  clear hC hL
  have hF := do_fin hq1 hk1 l0 l1 l2 l3 (g := w.heap.size + 1) (by omega) q1 (.int .i64 x) (.int .u64 0) (.int .u64 0) (.int .i64 0) (.slice none 0 0)
  have hr := hF _ rfl
  have hF := Lib.hid hF
  have hB := hr.2.2.cell
  have c1 := q1.cell
  have z1 := q1.frozen
  have lq := q1.lt
  clear hr
  go_wp2_with fail
  refine bodyPost_ret (v := tV x Timer.zero (.slice none 0 0)) ?_ rfl ⟨by rw [HC.out], by rw [HL.out]; exact (hF.out _ rfl).1, (hF.out _ rfl).2.1⟩
  simp [results, Tryd.results17, go_sem, tV, Timer.zero, hB]
theorem hdo_mov (q tb c nb P S : Nat) (base lk : Int) (m : List Timer) (a : Act) (w : World) (h : HQ w q tb c nb P S base lk m) (z : HSz P S) (hb : U64 base) (ht : U64 a.t.at_) (hk : a.kind = 2) :
    Calls Tryd.prog 17 #[.pointer (some ⟨q, 0, none⟩), a.val] w fun e w' => e = .returned (tV (movC P m a.t) Timer.zero (.slice none 0 0)) ∧ HQ w' q tb c nb P S base lk (movL P m a.t) ∧ Chg (HS q tb nb) w w' := by
  obtain ⟨l0, l1, l2, l3⟩ := h.lts
  have q0 : Blk ((w.alloc (.cells #[.int .i64 a.kind, .int .u64 a.t.at_, .int .u64 a.t.seq, .int .i64 a.t.place, .int .u64 a.now] 43)).alloc (.cells #[.int .i64 0, .int .u64 0, .int .u64 0, .int .i64 0, .slice none 0 0] 39)) (w.heap.size + 1) 39 #[.int .i64 0, .int .u64 0, .int .u64 0, .int .i64 0, .slice none 0 0] := alloc2_at _ _ _ _
  have hb0 : Below w.heap.size w ((w.alloc (.cells #[.int .i64 a.kind, .int .u64 a.t.at_, .int .u64 a.t.seq, .int .i64 a.t.place, .int .u64 a.now] 43)).alloc (.cells #[.int .i64 0, .int .u64 0, .int .u64 0, .int .i64 0, .slice none 0 0] 39)) := ((Below.refl _ _).alloc (Nat.le_refl _) _).alloc (by simp) _
  have h1 := h.below hb0
  have hout : ¬ HS q tb nb (w.heap.size + 1) := by unfold HS; omega
  have hin := hq_mov q tb c nb P S base lk m a.t _ h1 z hb ht
  unfold Timer.val at hin
  unfold Act.val
  rw [hk] at q0 hb0 hin h1 ⊢
  clear h h1
  go_enter Tryd.func17, Tryd.ntmps17
  go_wp2_with fail
  refine hin.mono ?_
  rintro e w1 ⟨rfl, hq1, hk1⟩
  have q1 := q0.chg hk1 hout
  replace hk1 := (Chg.of_same hb0 _).trans hk1 (fun _ _ e => e)
  clear hin q0 hb0
  generalize hC : movC P m a.t = x at *
  generalize hL : movL P m a.t = y at *
  have HC := Lib.hid hC
  have HL := Lib.hid hL
  clear hC hL
  have hF := do_fin hq1 hk1 l0 l1 l2 l3 (g := w.heap.size + 1) (by omega) q1 (.int .i64 x) (.int .u64 0) (.int .u64 0) (.int .i64 0) (.slice none 0 0)
  have hr := hF _ rfl
  have hF := Lib.hid hF
  have hB := hr.2.2.cell
  have c1 := q1.cell
  have z1 := q1.frozen
  have lq := q1.lt
  clear hr
  go_wp2_with fail
  refine bodyPost_ret (v := tV x Timer.zero (.slice none 0 0)) ?_ rfl ⟨by rw [HC.out], by rw [HL.out]; exact (hF.out _ rfl).1, (hF.out _ rfl).2.1⟩
  simp [results, Tryd.results17, go_sem, tV, Timer.zero, hB]
set_option maxRecDepth 100000 in
set_option maxHeartbeats 2000000 in
theorem hdo_can (q tb c nb P S : Nat) (base lk : Int) (m : List Timer) (a : Act) (w : World) (h : HQ w q tb c nb P S base lk m) (z : HSz P S) (hk : a.kind = 1) :
    Calls Tryd.prog 17 #[.pointer (some ⟨q, 0, none⟩), a.val] w fun e w' => e = .returned (tV (canC P m a.t.place) (canT P m a.t.place) (.slice none 0 0)) ∧ HQ w' q tb c nb P S base lk (canL P m a.t.place) ∧ Chg (HS q tb nb) w w' := by
  obtain ⟨l0, l1, l2, l3⟩ := h.lts
  have q0 : Blk ((w.alloc (.cells #[.int .i64 a.kind, .int .u64 a.t.at_, .int .u64 a.t.seq, .int .i64 a.t.place, .int .u64 a.now] 43)).alloc (.cells #[.int .i64 0, .int .u64 0, .int .u64 0, .int .i64 0, .slice none 0 0] 39)) (w.heap.size + 1) 39 #[.int .i64 0, .int .u64 0, .int .u64 0, .int .i64 0, .slice none 0 0] := alloc2_at _ _ _ _
  have hb0 : Below w.heap.size w ((w.alloc (.cells #[.int .i64 a.kind, .int .u64 a.t.at_, .int .u64 a.t.seq, .int .i64 a.t.place, .int .u64 a.now] 43)).alloc (.cells #[.int .i64 0, .int .u64 0, .int .u64 0, .int .i64 0, .slice none 0 0] 39)) := ((Below.refl _ _).alloc (Nat.le_refl _) _).alloc (by simp) _
  have h1 := h.below hb0
  have hout : ¬ HS q tb nb (w.heap.size + 1) := by unfold HS; omega
  have hin := hq_can q tb c nb P S base lk m a.t.place _ h1 z
  have e0 := (((Blk.new w 43 #[.int .i64 a.kind, .int .u64 a.t.at_, .int .u64 a.t.seq, .int .i64 a.t.place, .int .u64 a.now]).alloc (.cells #[.int .i64 0, .int .u64 0, .int .u64 0, .int .i64 0, .slice none 0 0] 39))).cell
  unfold Act.val
  rw [hk] at q0 hb0 hin h1 e0 ⊢
  clear h h1
  go_enter Tryd.func17, Tryd.ntmps17
  go_wp2_with fail
  refine hin.mono ?_
  rintro e w1 ⟨rfl, hq1, hk1⟩
  have q1 := q0.chg hk1 hout
  replace hk1 := (Chg.of_same hb0 _).trans hk1 (fun _ _ e => e)
  clear hin q0 hb0 e0
  unfold teV Timer.val
  generalize hC : canC P m a.t.place = x at *
  generalize hL : canL P m a.t.place = y at *
  generalize hT : canT P m a.t.place = t at *
  have HC := Lib.hid hC
  have HL := Lib.hid hL
  have HT := Lib.hid hT
  clear hC hL hT
  have hF := do_fin hq1 hk1 l0 l1 l2 l3 (g := w.heap.size + 1) (by omega) q1 (.int .i64 x) (.int .u64 t.at_) (.int .u64 t.seq) (.int .i64 t.place) (.slice none 0 0)
  have hr := hF _ rfl
  have hF := Lib.hid hF
  have hB := hr.2.2.cell
  have c1 := q1.cell
  have z1 := q1.frozen
  have lq := q1.lt
  clear hr
  go_wp2_with fail
  refine bodyPost_ret (v := tV x t (.slice none 0 0)) ?_ rfl ⟨by rw [HC.out, HT.out], by rw [HL.out]; exact (hF.out _ rfl).1.below (alloc_kept' _ _), (hF.out _ rfl).2.1.alloc _⟩
  simp [results, Tryd.results17, go_sem, tV, hB, lq]
set_option maxRecDepth 100000 in
set_option maxHeartbeats 2000000 in
theorem hdo_due (q tb c nb P S : Nat) (base lk : Int) (m : List Timer) (a : Act) (w : World) (h : HQ w q tb c nb P S base lk m) (z : HSz P S) (hb : U64 base) (hw : U64 a.now) (hT : TabAt w) (hk : a.kind = 3) :
    Calls Tryd.prog 17 #[.pointer (some ⟨q, 0, none⟩), a.val] w fun e w' => ∃ u, e = .returned (tV 0 Timer.zero u) ∧ OwnT w' w.heap.size u (dueL m a.now true) ∧ HQ w' q tb c nb P S (max base a.now) (lookL m base S a.now) (dueL m a.now false) ∧ Chg (HS q tb nb) w w' := by
  obtain ⟨l0, l1, l2, l3⟩ := h.lts
  have q0 : Blk ((w.alloc (.cells #[.int .i64 a.kind, .int .u64 a.t.at_, .int .u64 a.t.seq, .int .i64 a.t.place, .int .u64 a.now] 43)).alloc (.cells #[.int .i64 0, .int .u64 0, .int .u64 0, .int .i64 0, .slice none 0 0] 39)) (w.heap.size + 1) 39 #[.int .i64 0, .int .u64 0, .int .u64 0, .int .i64 0, .slice none 0 0] := alloc2_at _ _ _ _
  have hb0 : Below w.heap.size w ((w.alloc (.cells #[.int .i64 a.kind, .int .u64 a.t.at_, .int .u64 a.t.seq, .int .i64 a.t.place, .int .u64 a.now] 43)).alloc (.cells #[.int .i64 0, .int .u64 0, .int .u64 0, .int .i64 0, .slice none 0 0] 39)) := ((Below.refl _ _).alloc (Nat.le_refl _) _).alloc (by simp) _
  have h1 := h.below hb0
  have hout : ¬ HS q tb nb (w.heap.size + 1) := by unfold HS; omega
  have hT1 := hT.below hb0 (glob_lt hT)
  have hin := hq_due q tb c nb P S base lk a.now m _ h1 z hb hw hT1
  unfold Act.val
  rw [hk] at q0 hb0 hin h1 ⊢
  clear h h1 hT hT1
  go_enter Tryd.func17, Tryd.ntmps17
  go_wp2_with fail
  refine hin.mono ?_
  rintro e w1 ⟨u, rfl, ho, hq1, hk1⟩
  have q1 := q0.chg hk1 hout
  replace hk1 := (Chg.of_same hb0 _).trans hk1 (fun _ _ e => e)
  clear hin q0 hb0
  obtain ⟨A0, c0, rfl, _⟩ := ho.at
  have hoF : ∀ v0 v1 v2 v3 v4, OwnT (((((w1.setCell ⟨w.heap.size + 1, 0, none⟩ v0).setCell ⟨w.heap.size + 1, 1, none⟩ v1).setCell ⟨w.heap.size + 1, 2, none⟩ v2).setCell ⟨w.heap.size + 1, 3, none⟩ v3).setCell ⟨w.heap.size + 1, 4, none⟩ v4) w.heap.size (.slice A0 (dueL m a.now true).length c0) (dueL m a.now true) := by
    intro v0 v1 v2 v3 v4
    refine (ho.mono (by simp; omega)).chg (T := fun x => x = w.heap.size + 1) (chg_put5 (Chg.refl (fun x => x = w.heap.size + 1) w1) (fun _ => rfl) v0 v1 v2 v3 v4) ?_
    intro g hg
    have := own_base ho g hg
    simp at this
    omega
  have HO := Lib.hid hoF
  clear ho hoF
  generalize (dueL m a.now true).length = n0 at *
  have hF := do_fin hq1 hk1 l0 l1 l2 l3 (g := w.heap.size + 1) (by omega) q1 (.int .i64 0) (.int .u64 0) (.int .u64 0) (.int .i64 0) (.slice A0 n0 c0)
  have hr := hF _ rfl
  have hF := Lib.hid hF
  have hB := hr.2.2.cell
  have c1 := q1.cell
  have z1 := q1.frozen
  have lq := q1.lt
  clear hr
  go_wp2_with fail
  refine bodyPost_ret (v := tV 0 Timer.zero (.slice A0 n0 c0)) ?_ rfl ⟨.slice A0 n0 c0, rfl, ?_, (hF.out _ rfl).1, (hF.out _ rfl).2.1⟩
  · simp [results, Tryd.results17, go_sem, tV, Timer.zero, hB]
  · exact HO.out _ _ _ _ _
set_option maxRecDepth 100000 in
set_option maxHeartbeats 2000000 in
theorem hdo_none (q tb c nb P S : Nat) (base lk : Int) (m : List Timer) (a : Act) (w : World) (h : HQ w q tb c nb P S base lk m) (g0 : (a.kind == 0) = false) (g1 : (a.kind == 1) = false) (g2 : (a.kind == 2) = false) (g3 : (a.kind == 3) = false) :
    Calls Tryd.prog 17 #[.pointer (some ⟨q, 0, none⟩), a.val] w fun e w' => e = .returned (tV 0 Timer.zero (.slice none 0 0)) ∧ HQ w' q tb c nb P S base lk m ∧ Chg (HS q tb nb) w w' := by
  obtain ⟨l0, l1, l2, l3⟩ := h.lts
  have q0 : Blk ((w.alloc (.cells #[.int .i64 a.kind, .int .u64 a.t.at_, .int .u64 a.t.seq, .int .i64 a.t.place, .int .u64 a.now] 43)).alloc (.cells #[.int .i64 0, .int .u64 0, .int .u64 0, .int .i64 0, .slice none 0 0] 39)) (w.heap.size + 1) 39 #[.int .i64 0, .int .u64 0, .int .u64 0, .int .i64 0, .slice none 0 0] := alloc2_at _ _ _ _
  have hb0 : Below w.heap.size w ((w.alloc (.cells #[.int .i64 a.kind, .int .u64 a.t.at_, .int .u64 a.t.seq, .int .i64 a.t.place, .int .u64 a.now] 43)).alloc (.cells #[.int .i64 0, .int .u64 0, .int .u64 0, .int .i64 0, .slice none 0 0] 39)) := ((Below.refl _ _).alloc (Nat.le_refl _) _).alloc (by simp) _
  have h1 := h.below hb0
  have hout : ¬ HS q tb nb (w.heap.size + 1) := by unfold HS; omega
  have hq1 := h1
  have hk1 : Chg (HS q tb nb) w _ := Chg.of_same hb0 _
  have q1 := q0
  clear q0 hb0 h h1
  unfold Act.val
  generalize a.kind = kd at *
  have hB := q1.cell
  have HQ1 := Lib.hid hq1
  have HK1 := Lib.hid hk1
  clear hq1 hk1 q1
  go_enter Tryd.func17, Tryd.ntmps17
  go_wp2_with fail
  refine bodyPost_ret (v := tV 0 Timer.zero (.slice none 0 0)) ?_ rfl ⟨rfl, HQ1.out, HK1.out⟩
  simp [results, Tryd.results17, go_sem, tV, Timer.zero, hB]
/-- Whatever is done with the wheel. -/
theorem hdo_any (q tb c nb P S : Nat) (base lk : Int) (m : List Timer) (a : Act) (w : World) (h : HQ w q tb c nb P S base lk m) (z : HSz P S) (hT : TabAt w) (hb : U64 base) (ht : U64 a.t.at_) (hw : U64 a.now) :
    Calls Tryd.prog 17 #[.pointer (some ⟨q, 0, none⟩), a.val] w fun e w' => ∃ u, e = .returned (tV (doE P m a) (doT P m a) u) ∧ OwnT w' w.heap.size u (doD m a) ∧ HQ w' q tb c nb P S (baseN base a) (lookN m base S lk a) (doL P m a) ∧ Chg (HS q tb nb) w w' := by
  by_cases h0 : a.kind = 0
  · have e1 : doE P m a = insC P m a.t := by simp [doE, h0]
    have e2 : doT P m a = Timer.zero := by simp [doT, h0]
    have e3 : doL P m a = insL P m a.t := by simp [doL, h0]
    have e4 : doD m a = [] := by simp [doD, h0]
    have e5 : baseN base a = base := by simp [baseN, h0]
    have e6 : lookN m base S lk a = lk := by simp [lookN, h0]
    rw [e1, e2, e3, e4, e5, e6]
    refine (hdo_ins q tb c nb P S base lk m a w h z hb ht h0).mono ?_
    rintro e w' ⟨rfl, hq, hk⟩
    exact ⟨_, rfl, OwnT.nil _ _, hq, hk⟩
  by_cases h1 : a.kind = 1
  · have e1 : doE P m a = canC P m a.t.place := by simp [doE, h1]
    have e2 : doT P m a = canT P m a.t.place := by simp [doT, h1]
    have e3 : doL P m a = canL P m a.t.place := by simp [doL, h1]
    have e4 : doD m a = [] := by simp [doD, h1]
    have e5 : baseN base a = base := by simp [baseN, h1]
    have e6 : lookN m base S lk a = lk := by simp [lookN, h1]
    rw [e1, e2, e3, e4, e5, e6]
    refine (hdo_can q tb c nb P S base lk m a w h z h1).mono ?_
    rintro e w' ⟨rfl, hq, hk⟩
    exact ⟨_, rfl, OwnT.nil _ _, hq, hk⟩
  by_cases h2 : a.kind = 2
  · have e1 : doE P m a = movC P m a.t := by simp [doE, h2]
    have e2 : doT P m a = Timer.zero := by simp [doT, h2]
    have e3 : doL P m a = movL P m a.t := by simp [doL, h2]
    have e4 : doD m a = [] := by simp [doD, h2]
    have e5 : baseN base a = base := by simp [baseN, h2]
    have e6 : lookN m base S lk a = lk := by simp [lookN, h2]
    rw [e1, e2, e3, e4, e5, e6]
    refine (hdo_mov q tb c nb P S base lk m a w h z hb ht h2).mono ?_
    rintro e w' ⟨rfl, hq, hk⟩
    exact ⟨_, rfl, OwnT.nil _ _, hq, hk⟩
  by_cases h3 : a.kind = 3
  · have e1 : doE P m a = 0 := by simp [doE, h3]
    have e2 : doT P m a = Timer.zero := by simp [doT, h3]
    have e3 : doL P m a = dueL m a.now false := by simp [doL, h3]
    have e4 : doD m a = dueL m a.now true := by simp [doD, h3]
    have e5 : baseN base a = max base a.now := by simp [baseN, h3]
    have e6 : lookN m base S lk a = (lookL m base S a.now : Nat) := by simp [lookN, h3]
    rw [e1, e2, e3, e4, e5, e6]
    exact hdo_due q tb c nb P S base lk m a w h z hb hw hT h3
  · have e1 : doE P m a = 0 := by simp [doE, h0, h1, h2]
    have e2 : doT P m a = Timer.zero := by simp [doT, h1]
    have e3 : doL P m a = m := by simp [doL, h0, h1, h2, h3]
    have e4 : doD m a = [] := by simp [doD, h3]
    have e5 : baseN base a = base := by simp [baseN, h3]
    have e6 : lookN m base S lk a = lk := by simp [lookN, h3]
    rw [e1, e2, e3, e4, e5, e6]
    refine (hdo_none q tb c nb P S base lk m a w h (by simp [h0]) (by simp [h1]) (by simp [h2]) (by simp [h3])).mono ?_
    rintro e w' ⟨rfl, hq, hk⟩
    exact ⟨_, rfl, OwnT.nil _ _, hq, hk⟩
end Go.Proofs.YtckkfbepclogcaaDoor
namespace Go.Proofs.YtckkfbepclogcaaDoor
open Go.RowKit
def wkA : Timer := ⟨13, 0, 0⟩
def wkB : Timer := ⟨5, 0, 1⟩
def wkC : Timer := ⟨99, 0, 2⟩
def wkD : Timer := ⟨98, 0, 2⟩
def tv (t : Timer) : Value := .agg #[.int .u64 t.at_, .int .u64 t.seq, .int .i64 t.place]
theorem same_lat (v u : Value) (l m : List Timer) (w : World) (h : LAt w v l) (k : LAt w u m) (hl : l.length ≤ 1000000) (hm : m.length ≤ 1000000) :
    Calls Tryd.prog 25 #[v, u] w fun e w' => e = .returned (.bool (decide (l = m))) ∧ Below w.heap.size w w' := by
  obtain ⟨A, c, rfl, hT, _⟩ := h
  obtain ⟨C, d, rfl, kT, _⟩ := k
  exact same_any A C l m c d w hT kT hl hm
theorem same_refl (v u : Value) (l : List Timer) (w : World) (h : LAt w v l) (k : LAt w u l) (hl : l.length ≤ 1000000) :
    Calls Tryd.prog 25 #[v, u] w fun e w' => e = .returned (.bool true) ∧ Below w.heap.size w w' := by
  have := same_lat v u l l w h k hl hl
  rwa [decide_eq_true rfl] at this
theorem LAt.built (w : World) (l : List Timer) (h : l.length ≤ maxLen) (_ : 0 < l.length) : LAt (w.alloc (.cells (l.flatMap Timer.cells).toArray 37)) (.slice (some ⟨w.heap.size, 0, none⟩) l.length l.length) l := by
  have hB : Blk (w.alloc (.cells (l.flatMap Timer.cells).toArray 37)) w.heap.size 37 (l.flatMap Timer.cells).toArray := Blk.new _ _ _
  refine ⟨_, l.length, rfl, ?_, Nat.le_refl _, h, by simp, ?_⟩
  · intro i hi
    have e : ∀ j, j < 3 → (w.alloc (.cells (l.flatMap Timer.cells).toArray 37)).cell? ⟨w.heap.size, i * 3 + j, none⟩ = l[i].cells[j]? := fun j hj => by
      rw [hB.cell, List.getElem?_toArray]
      exact flat_idx l i hi j hj
    refine ⟨w.heap.size, 0, rfl, hB.lt, ?_, ?_, ?_⟩
    · simpa [Timer.cells] using e 0 (by omega)
    · simpa [Timer.cells] using e 1 (by omega)
    · simpa [Timer.cells] using e 2 (by omega)
  · intro g e
    simp only [Option.map_some, Option.some.injEq] at e
    subst e
    exact Lies.of hB
/-- The slice v holds the timers l, and lies above g. -/
structure LF (g : Nat) (w : World) (v : Value) (l : List Timer) : Prop where
  at_ : LAt w v l
  ge : ∀ k, blkOf v = some k → g ≤ k
theorem LF.built (g : Nat) (w : World) (l : List Timer) (h : l.length ≤ maxLen) (h0 : 0 < l.length) (hg : g ≤ w.heap.size) : LF g (w.alloc (.cells (l.flatMap Timer.cells).toArray 37)) (.slice (some ⟨w.heap.size, 0, none⟩) l.length l.length) l :=
  ⟨LAt.built w l h h0, fun k e => by simp [blkOf] at e; omega⟩
theorem OwnT.lf {w : World} {g : Nat} {v : Value} {l : List Timer} (h : OwnT w g v l) : LF g w v l := by
  refine ⟨h.lat, fun k e => ?_⟩
  obtain ⟨A, c, rfl, _, _, _, h4⟩ := h.at
  cases A with
  | none => simp [blkOf] at e
  | some a => exact (h4 k (by simpa [blkOf] using e)).1
theorem LF.mono {w : World} {g g' : Nat} {v : Value} {l : List Timer} (h : LF g w v l) (hg : g' ≤ g) : LF g' w v l := ⟨h.at_, fun k e => Nat.le_trans hg (h.ge k e)⟩
theorem LF.chg {w w' : World} {g : Nat} {v : Value} {l : List Timer} {T : Nat → Prop} (h : LF g w v l) (k : Chg T w w') (hT : ∀ i, T i → i < g) : LF g w' v l :=
  ⟨h.at_.far k.size fun j e => k.block j (h.at_.blk j e) fun t => by have := h.ge j e; have := hT j t; omega, h.ge⟩
/-- The example's timers, and all that was there. -/
structure WK (g q tb c nb : Nat) (w w' : World) : Prop where
  a : Blk w' g 37 #[.int .u64 13, .int .u64 0, .int .i64 0]
  b : Blk w' (g + 1) 37 #[.int .u64 5, .int .u64 0, .int .i64 1]
  d : Blk w' (g + 1 + 1) 37 #[.int .u64 99, .int .u64 0, .int .i64 2]
  lq : w.heap.size ≤ q ∧ q < g
  lt : w.heap.size ≤ tb ∧ tb < g
  lc : w.heap.size ≤ c ∧ c < g
  ln : w.heap.size ≤ nb ∧ nb < g
  below : Below w.heap.size w w'
theorem below_chg {n : Nat} {w x y : World} {T : Nat → Prop} (h : Below n w x) (hn : n ≤ w.heap.size) (k : Chg T x y) (hT : ∀ i, T i → n ≤ i) : Below n w y :=
  ⟨k.os.trans h.os, k.tape.trans h.tape, k.output.trans h.output, Nat.le_trans h.size k.size, fun i hi => (k.block i (by have := h.size; omega) (fun e => by have := hT i e; omega)).trans (h.block i hi)⟩
theorem WK.chg {g q tb c nb : Nat} {w x y : World} (h : WK g q tb c nb w x) (k : Chg (HS q tb nb) x y) : WK g q tb c nb w y := by
  obtain ⟨a1, a2⟩ := h.lq
  obtain ⟨b1, b2⟩ := h.lt
  obtain ⟨c1, c2⟩ := h.ln
  have hn : ∀ i, g ≤ i → ¬ HS q tb nb i := fun i hi e => by unfold HS at e; omega
  refine ⟨h.a.chg k (hn _ (Nat.le_refl _)), h.b.chg k (hn _ (by omega)), h.d.chg k (hn _ (by omega)), h.lq, h.lt, h.lc, h.ln, below_chg h.below (Nat.le_refl _) k (fun i e => by unfold HS at e; omega)⟩
theorem WK.kept {g q tb c nb : Nat} {w x y : World} (h : WK g q tb c nb w x) (k : Below x.heap.size x y) : WK g q tb c nb w y := h.chg (Chg.of_same k _)
theorem WK.new {q tb c nb : Nat} {w w1 : World} (hb : Below w.heap.size w w1) (h1 : w.heap.size ≤ q ∧ q < w1.heap.size) (h2 : w.heap.size ≤ tb ∧ tb < w1.heap.size) (h3 : w.heap.size ≤ c ∧ c < w1.heap.size) (h4 : w.heap.size ≤ nb ∧ nb < w1.heap.size) :
    WK w1.heap.size q tb c nb w (((w1.alloc (.cells #[.int .u64 13, .int .u64 0, .int .i64 0] 37)).alloc (.cells #[.int .u64 5, .int .u64 0, .int .i64 1] 37)).alloc (.cells #[.int .u64 99, .int .u64 0, .int .i64 2] 37)) :=
  ⟨((Blk.new _ _ _).alloc _).alloc _, (alloc2_at _ _ _ _).alloc _, alloc3_at _ _ _ _ _, h1, h2, h3, h4, ((hb.alloc hb.size _).alloc (by have := hb.size; simp; omega) _).alloc (by have := hb.size; simp; omega) _⟩
/-! The three that are put in. -/
def S5 (g q tb c nb : Nat) (w0 : World) (p : Nat → Bool) (w : World) : Prop :=
  WK g q tb c nb w0 w ∧ (p 8 = true → p 5 = true) ∧ (p 5 = true → p 2 = true) ∧
    (p 2 = false → HQ w q tb c nb 3 8 0 0 []) ∧ (p 2 = true → p 5 = false → HQ w q tb c nb 3 8 0 0 [wkA]) ∧ (p 5 = true → p 8 = false → HQ w q tb c nb 3 8 0 0 [wkB, wkA]) ∧ (p 8 = true → HQ w q tb c nb 3 8 0 0 [wkB, wkA, wkC])
def F5 (q : Nat) (j : Nat) (v : Value) (_ : World) : Prop := match j with
  | 0 => v = .pointer (some ⟨q, 0, none⟩)
  | 1 => v = tv wkA
  | 2 => v = .int .i64 0
  | 3 => v = .pointer (some ⟨q, 0, none⟩)
  | 4 => v = tv wkB
  | 5 => v = .int .i64 0
  | 6 => v = .pointer (some ⟨q, 0, none⟩)
  | 7 => v = tv wkC
  | _ => v = .int .i64 0
theorem S5.quiet {g q tb c nb : Nat} {w0 w w' : World} {p : Nat → Bool} (i : Nat) (h : S5 g q tb c nb w0 p w) (k : Below w.heap.size w w') (h2 : i ≠ 2) (h5 : i ≠ 5) (h8 : i ≠ 8) : S5 g q tb c nb w0 (also p i) w' := by
  have e2 : also p i 2 = p 2 := by unfold also; rw [decide_eq_false (fun e => h2 e.symm), Bool.or_false]
  have e5 : also p i 5 = p 5 := by unfold also; rw [decide_eq_false (fun e => h5 e.symm), Bool.or_false]
  have e8 : also p i 8 = p 8 := by unfold also; rw [decide_eq_false (fun e => h8 e.symm), Bool.or_false]
  unfold S5
  rw [e2, e5, e8]
  obtain ⟨a, b, c, d1, d2, d3, d4⟩ := h
  exact ⟨a.kept k, b, c, fun x => (d1 x).below k, fun x y => (d2 x y).below k, fun x y => (d3 x y).below k, fun x => (d4 x).below k⟩
theorem also_at (p : Nat → Bool) (i : Nat) : also p i i = true := by simp [also]
theorem also_ne (p : Nat → Bool) {i j : Nat} (h : j ≠ i) : also p i j = p j := by unfold also; rw [decide_eq_false h, Bool.or_false]
theorem wk_i1 : insC (3 : Nat) [] wkA = 0 ∧ insL (3 : Nat) [] wkA = [wkA] := by decide
theorem wk_i2 : insC (3 : Nat) [wkA] wkB = 0 ∧ insL (3 : Nat) [wkA] wkB = [wkB, wkA] := by decide
theorem wk_i3 : insC (3 : Nat) [wkB, wkA] wkC = 0 ∧ insL (3 : Nat) [wkB, wkA] wkC = [wkB, wkA, wkC] := by decide
theorem u64_wk : U64 0 ∧ U64 wkA.at_ ∧ U64 wkB.at_ ∧ U64 wkC.at_ ∧ U64 wkD.at_ := by unfold U64; decide
theorem S5.call2 {g q tb c nb : Nat} {w0 w : World} {p : Nat → Bool} (z : HSz 3 8) (h : S5 g q tb c nb w0 p w) (hp : p 2 = false) :
    Calls Tryd.prog 30 #[.pointer (some ⟨q, 0, none⟩), tv wkA] w fun e w' => ∃ v, e = .returned v ∧ v = .int .i64 0 ∧ w.heap.size ≤ w'.heap.size ∧ (false = true → Frsh v w w') ∧ S5 g q tb c nb w0 (also p 2) w' := by
  obtain ⟨a, h8, h5, d1, d2, d3, d4⟩ := h
  have p5 : p 5 = false := by cases h : p 5 with | false => rfl | true => rw [h5 h] at hp; cases hp
  have p8 : p 8 = false := by cases h : p 8 with | false => rfl | true => rw [h8 h] at p5; cases p5
  refine (hq_ins q tb c nb 3 8 0 0 [] wkA w (d1 hp) z u64_wk.1 u64_wk.2.1).mono ?_
  rintro e w' ⟨rfl, hq, hk⟩
  rw [wk_i1.1, wk_i1.2] at *
  refine ⟨_, rfl, rfl, hk.size, (fun h => by cases h), a.chg hk, ?_⟩
  rw [also_at, also_ne p (show 5 ≠ 2 by decide), also_ne p (show 8 ≠ 2 by decide), p5, p8]
  exact ⟨by simp, by simp, by simp, fun _ _ => hq, by simp, by simp⟩
theorem S5.call5 {g q tb c nb : Nat} {w0 w : World} {p : Nat → Bool} (z : HSz 3 8) (h : S5 g q tb c nb w0 p w) (hp : p 5 = false) (p2 : p 2 = true) :
    Calls Tryd.prog 30 #[.pointer (some ⟨q, 0, none⟩), tv wkB] w fun e w' => ∃ v, e = .returned v ∧ v = .int .i64 0 ∧ w.heap.size ≤ w'.heap.size ∧ (false = true → Frsh v w w') ∧ S5 g q tb c nb w0 (also p 5) w' := by
  obtain ⟨a, h8, h5, d1, d2, d3, d4⟩ := h
  have p8 : p 8 = false := by cases h : p 8 with | false => rfl | true => rw [h8 h] at hp; cases hp
  refine (hq_ins q tb c nb 3 8 0 0 [wkA] wkB w (d2 p2 hp) z u64_wk.1 u64_wk.2.2.1).mono ?_
  rintro e w' ⟨rfl, hq, hk⟩
  rw [wk_i2.1, wk_i2.2] at *
  refine ⟨_, rfl, rfl, hk.size, (fun h => by cases h), a.chg hk, ?_⟩
  rw [also_at, also_ne p (show 2 ≠ 5 by decide), also_ne p (show 8 ≠ 5 by decide), p2, p8]
  exact ⟨by simp, by simp, by simp, by simp, fun _ _ => hq, by simp⟩
theorem S5.call8 {g q tb c nb : Nat} {w0 w : World} {p : Nat → Bool} (z : HSz 3 8) (h : S5 g q tb c nb w0 p w) (hp : p 8 = false) (p5 : p 5 = true) :
    Calls Tryd.prog 30 #[.pointer (some ⟨q, 0, none⟩), tv wkC] w fun e w' => ∃ v, e = .returned v ∧ v = .int .i64 0 ∧ w.heap.size ≤ w'.heap.size ∧ (false = true → Frsh v w w') ∧ S5 g q tb c nb w0 (also p 8) w' := by
  obtain ⟨a, h8, h5, d1, d2, d3, d4⟩ := h
  have p2 := h5 p5
  refine (hq_ins q tb c nb 3 8 0 0 [wkB, wkA] wkC w (d3 p5 hp) z u64_wk.1 u64_wk.2.2.2.1).mono ?_
  rintro e w' ⟨rfl, hq, hk⟩
  rw [wk_i3.1, wk_i3.2] at *
  refine ⟨_, rfl, rfl, hk.size, (fun h => by cases h), a.chg hk, ?_⟩
  rw [also_at, also_ne p (show 2 ≠ 8 by decide), also_ne p (show 5 ≠ 8 by decide), p2, p5]
  exact ⟨by simp, by simp, by simp, by simp, by simp, fun _ => hq⟩
/-! The facts of the regions behind. -/
def F8 (g q : Nat) (j : Nat) (v : Value) (w : World) : Prop := match j with
  | 0 => v = .pointer (some ⟨q, 0, none⟩)
  | 1 => v = .pointer (some ⟨q, 0, none⟩)
  | 2 => v = .pointer (some ⟨q, 0, none⟩)
  | 3 => LF g w v [wkB, wkA, wkD]
  | 4 => v = tv wkB
  | 5 => v = tv wkA
  | 6 => v = tv wkD
  | _ => LF g w v [wkB, wkA, wkD]
theorem F8.keep {g q : Nat} (i j : Nat) (v : Value) (w w' : World) (_ : j ≠ i) (h : F8 g q j v w) (r : Below w.heap.size w w') : F8 g q j v w' := by
  unfold F8 at h ⊢
  split at h
  · exact h
  · exact h
  · exact h
  · exact h.chg (Chg.of_same r (fun _ => False)) (fun _ e => e.elim)
  · exact h
  · exact h
  · exact h
  · exact h.chg (Chg.of_same r (fun _ => False)) (fun _ e => e.elim)
theorem hs_lt {g q tb nb : Nat} (h1 : q < g) (h2 : tb < g) (h3 : nb < g) : ∀ i, HS q tb nb i → i < g := fun i e => by unfold HS at e; omega
structure S8 (g q tb c nb : Nat) (w0 : World) (bx : World → Prop) (_p : Nat → Bool) (w : World) : Prop where
  k : WK g q tb c nb w0 w
  q : HQ w q tb c nb 3 8 0 0 [wkB, wkA, wkD]
  size : g ≤ w.heap.size
  bx : bx w
theorem S8.keep {g q tb c nb : Nat} {w0 w w' : World} {bx : World → Prop} {p p' : Nat → Bool} (hbx : ∀ x y, bx x → Chg (HS q tb nb) x y → bx y) (h : S8 g q tb c nb w0 bx p w) (r : Below w.heap.size w w') : S8 g q tb c nb w0 bx p' w' := ⟨h.k.kept r, h.q.below r, Nat.le_trans h.size r.size, hbx _ _ h.bx (Chg.of_same r _)⟩
theorem bx_one {g q tb nb b : Nat} {cs : Array Value} (h1 : q < g) (h2 : tb < g) (h3 : nb < g) (hb : g ≤ b) : ∀ x y, Blk x b 37 cs → Chg (HS q tb nb) x y → Blk y b 37 cs := fun _ _ h k => h.chg k fun e => by have := hs_lt h1 h2 h3 _ e; omega
theorem bx_and {q tb nb : Nat} {p r : World → Prop} (h1 : ∀ x y, p x → Chg (HS q tb nb) x y → p y) (h2 : ∀ x y, r x → Chg (HS q tb nb) x y → r y) : ∀ x y, (p x ∧ r x) → Chg (HS q tb nb) x y → (p y ∧ r y) := fun x y h k => ⟨h1 x y h.1 k, h2 x y h.2 k⟩
/-- A region that takes those that are due, and makes a list of one to hold against them. -/
def FE (g q : Nat) (t : Timer) (j : Nat) (v : Value) (w : World) : Prop := match j with
  | 0 => v = .pointer (some ⟨q, 0, none⟩)
  | 1 => LF g w v [t]
  | 2 => v = tv t
  | _ => LF g w v [t]
theorem FE.keep {g q tb nb : Nat} {t : Timer} (h1 : q < g) (h2 : tb < g) (h3 : nb < g) (i j : Nat) (v : Value) (w w' : World) (_ : j ≠ i) (h : FE g q t j v w) (r : Chg (HS q tb nb) w w') : FE g q t j v w' := by
  unfold FE at h ⊢
  split at h
  · exact h
  · exact h.chg r (hs_lt h1 h2 h3)
  · exact h
  · exact h.chg r (hs_lt h1 h2 h3)
structure SE (g q tb c nb : Nat) (w0 : World) (b0 l0 : Int) (m0 : List Timer) (b1 l1 : Int) (m1 : List Timer) (bx : World → Prop) (p : Nat → Bool) (w : World) : Prop where
  k : WK g q tb c nb w0 w
  q0 : p 1 = false → HQ w q tb c nb 3 8 b0 l0 m0
  q1 : p 1 = true → HQ w q tb c nb 3 8 b1 l1 m1
  size : g ≤ w.heap.size
  bx : bx w
  tab : TabAt w
theorem glob_hs {g q tb c nb : Nat} {w0 w : World} (k : WK g q tb c nb w0 w) (hT : TabAt w0) : ¬ HS q tb nb 0 := fun e => by
  have := glob_lt hT
  obtain ⟨a1, a2⟩ := k.lq
  obtain ⟨b1, b2⟩ := k.lt
  obtain ⟨c1, c2⟩ := k.ln
  unfold HS at e
  omega
theorem SE.quiet {g q tb c nb : Nat} {w0 w w' : World} {b0 l0 : Int} {m0 : List Timer} {b1 l1 : Int} {m1 : List Timer} {bx : World → Prop} {p : Nat → Bool} (hbx : ∀ x y, bx x → Chg (HS q tb nb) x y → bx y) (i : Nat) (h : SE g q tb c nb w0 b0 l0 m0 b1 l1 m1 bx p w) (r : Below w.heap.size w w') (hi : i ≠ 1) : SE g q tb c nb w0 b0 l0 m0 b1 l1 m1 bx (also p i) w' := by
  have e : also p i 1 = p 1 := also_ne p (fun x => hi x.symm)
  exact ⟨h.k.kept r, fun x => (h.q0 (e ▸ x)).below r, fun x => (h.q1 (e ▸ x)).below r, Nat.le_trans h.size r.size, hbx _ _ h.bx (Chg.of_same r _), h.tab.below r (glob_lt h.tab)⟩
theorem SE.due {g q tb c nb : Nat} {w0 w : World} {b0 l0 : Int} {m0 : List Timer} {b1 l1 : Int} {m1 : List Timer} {bx : World → Prop} {p : Nat → Bool} {now : Int} {t : Timer} (hT : TabAt w0) (hbx : ∀ x y, bx x → Chg (HS q tb nb) x y → bx y) (z : HSz 3 8) (h : SE g q tb c nb w0 b0 l0 m0 b1 l1 m1 bx p w) (hp : p 1 = false) (ub : U64 b0) (un : U64 now)
    (e1 : dueL m0 now true = [t]) (e2 : dueL m0 now false = m1) (e3 : max b0 now = b1) (e4 : ((lookL m0 b0 8 now : Nat) : Int) = l1) :
    Calls Tryd.prog 28 #[.pointer (some ⟨q, 0, none⟩), .int .u64 now] w fun e w' => ∃ v, e = .returned v ∧ LF g w' v [t] ∧ Chg (HS q tb nb) w w' ∧ (false = true → Frsh v w w') ∧ SE g q tb c nb w0 b0 l0 m0 b1 l1 m1 bx (also p 1) w' := by
  refine (hq_due q tb c nb 3 8 b0 l0 now m0 w (h.q0 hp) z ub un h.tab).mono ?_
  rintro e w' ⟨v, rfl, ho, hq, hk⟩
  rw [e1] at ho
  rw [e2, e3, e4] at hq
  refine ⟨v, rfl, ho.lf.mono h.size, hk, (fun h => by cases h), h.k.chg hk, fun x => ?_, fun _ => hq, Nat.le_trans h.size hk.size, hbx _ _ h.bx hk, h.tab.chg hk (glob_hs h.k hT)⟩
  rw [also_at] at x
  cases x
theorem wk_mov : movC (3 : Nat) [wkB, wkA, wkC] wkD = 0 ∧ movL (3 : Nat) [wkB, wkA, wkC] wkD = [wkB, wkA, wkD] := by decide
theorem wk_can : canC (3 : Nat) [wkB, wkA, wkD] 2 = 0 ∧ canL (3 : Nat) [wkB, wkA, wkD] 2 = [wkB, wkA] ∧ canT (3 : Nat) [wkB, wkA, wkD] 2 = wkD := by decide
theorem wk_d4 : dueL [wkB, wkA] 4 true = [] ∧ dueL [wkB, wkA] 4 false = [wkB, wkA] ∧ lookL [wkB, wkA] 0 8 4 = 0 := by decide
theorem wk_d6 : dueL [wkB, wkA] 6 true = [wkB] ∧ dueL [wkB, wkA] 6 false = [wkA] ∧ lookL [wkB, wkA] 4 8 6 = 1 := by decide
theorem wk_d13 : dueL [wkA] 13 true = [wkA] ∧ dueL [wkA] 13 false = [] ∧ lookL [wkA] 6 8 13 = 1 := by decide
theorem wk_d9 : dueL [] 9 true = [] ∧ dueL [] 9 false = [] ∧ lookL [] 13 8 9 = 0 := by decide
theorem wk_get : getL [wkA] 0 = some wkA := by decide
attribute [local irreducible] Calls
set_option maxRecDepth 100000 in
set_option maxHeartbeats 4000000 in
theorem hworks (w : World) (hT : TabAt w) : Calls Tryd.prog 12 #[] w fun e w' => e = .returned (.bool true) ∧ Below w.heap.size w w' := by
  have z : HSz 3 8 := ⟨by omega, by decide, by decide⟩
  have hn : Calls Tryd.prog 13 #[.int .i64 3, .int .i64 1, .int .u64 0] w _ := hnew_1 3 0 w (by decide)
  go_enter Tryd.func12, Tryd.ntmps12
  go_wp2_with fail
  refine hn.mono ?_
  rintro e w1 ⟨q, tb, c, nb, rfl, hq, hb, g1, g2, g3, g4⟩
  obtain ⟨l1, l2, l3, l4⟩ := hq.lts
  have hT1 := hT.below hb (glob_lt hT)
  clear hn
  go_upto_region 5 with fail
  have k0 := WK.new hb ⟨g1, l1⟩ ⟨g2, l2⟩ ⟨g3, l3⟩ ⟨g4, l4⟩
  obtain ⟨ga, hga⟩ : ∃ g, g = w1.heap.size + 1 := ⟨_, rfl⟩
  obtain ⟨gb, hgb⟩ : ∃ g, g = w1.heap.size + 1 + 1 := ⟨_, rfl⟩
  have hq0 : HQ (((w1.alloc (.cells #[.int .u64 13, .int .u64 0, .int .i64 0] 37)).alloc (.cells #[.int .u64 5, .int .u64 0, .int .i64 1] 37)).alloc (.cells #[.int .u64 99, .int .u64 0, .int .i64 2] 37)) q tb c nb 3 8 0 0 [] := ((hq.below (alloc_kept' _ _)).below (alloc_kept' _ _)).below (alloc_kept' _ _)
  generalize ((w1.alloc (.cells #[.int .u64 13, .int .u64 0, .int .i64 0] 37)).alloc (.cells #[.int .u64 5, .int .u64 0, .int .i64 1] 37)).alloc (.cells #[.int .u64 99, .int .u64 0, .int .i64 2] 37) = w2 at *
  have hs0 : S5 w1.heap.size q tb c nb w (fun _ => false) w2.drew := ⟨k0.kept (Below.refl _ _).drew, by simp, by simp, fun _ => hq0.drew, by simp, by simp, by simp⟩
  generalize w1.heap.size = g at *
  rw [← hgb, ← hga]
  have HGA := Lib.hid hga
  have HGB := Lib.hid hgb
  clear hga hgb
  refine region_facts_set 12 (fun _ => false) (F5 q) (S5 g q tb c nb w) (fun _ x y => x.heap.size ≤ y.heap.size) (List.range' 34 9 ++ [6, 7, 8]) (by kernel_rfl) (by kernel_rfl) (by kernel_rfl) (by decide) (by kernel_rfl) (by kernel_rfl) (fun _ _ _ _ _ _ h _ => h) (fun _ _ _ h => h) hs0 ?_ ?_
  · intro fr hfr
    have f1 : fr.getD 1 undef = .pointer (some ⟨q, 0, none⟩) := by rw [hfr]; rfl
    have f3 : fr.getD 3 undef = .pointer (some ⟨g, 0, none⟩) := by rw [hfr]; rfl
    have f4 : fr.getD 4 undef = .pointer (some ⟨ga, 0, none⟩) := by rw [hfr]; rfl
    have f5 : fr.getD 5 undef = .pointer (some ⟨gb, 0, none⟩) := by rw [hfr]; rfl
    clear hfr
    iterate 12
      refine ⟨⟨trivial, ?_⟩, ?_⟩
      · intro ρ w' p hp hdq hρ hd hS
        simp only [DepQ, Region.binds, forall_const, and_true] at hdq
        simp only [DepF, Region.binds, dat, Nat.reduceLT, Nat.reduceAdd, F5, forall_const, and_true] at hd
        have hcon := hρ.con
        have e1 := (hρ.slot 1 (by kernel_rfl)).trans f1
        have e3 := (hρ.slot 3 (by kernel_rfl)).trans f3
        have e4 := (hρ.slot 4 (by kernel_rfl)).trans f4
        have e5 := (hρ.slot 5 (by kernel_rfl)).trans f5
        have hk := hS.1
        have hc1 := hk.a.cell
        have hc2 := hk.b.cell
        have hc3 := hk.d.cell
        rw [← HGA.out] at hc2
        rw [← HGB.out] at hc3
        clear hk
        (try rw [execOp_call_fn _ _ _ _ _ _ _ _ _ (hρ.fn _)])
        go_simp
        (try simp only [GoodQ, F5])
        first
          | exact ⟨rfl, Nat.le_refl _, fun h => absurd h (by decide), hS.quiet _ (Below.refl _ _) (by decide) (by decide) (by decide)⟩
          | exact ⟨trivial, Nat.le_refl _, fun h => absurd h (by decide), hS.quiet _ (Below.refl _ _) (by decide) (by decide) (by decide)⟩
          | exact hS.call2 z hp
          | exact hS.call5 z hp hdq.2.2
          | exact hS.call8 z hp hdq.2.2
    trivial
  · intro vs w3 hs hF _
    obtain ⟨hk, _, _, _, _, _, hq3⟩ := hs
    replace hq3 := hq3 (by decide)
    clear hq0 k0 hs0
    simp only [List.range'_succ, List.range'_zero, List.cons_append, List.nil_append, setAll, List.setIfInBounds_toArray, List.set_cons_zero, List.set_cons_succ, Nat.reduceAdd]
    simp only [List.drop_succ_cons, List.drop_zero]
    have v9 : vs 9 = .int .i64 0 := hF 9 (by decide)
    have v10 : vs 10 = .int .i64 0 := hF 10 (by decide)
    have v11 : vs 11 = .int .i64 0 := hF 11 (by decide)
    rw [v9, v10, v11]
    clear hF v9 v10 v11
    have hmv := hq_mov q tb c nb 3 8 0 0 [wkB, wkA, wkC] wkD w3 hq3 z u64_wk.1 u64_wk.2.2.2.2
    rw [wk_mov.1, wk_mov.2] at hmv
    clear hq hT1 hb g1 g2 g3 g4 hq3
    go_wp2_with fail
    refine hmv.mono ?_
    rintro e w4 ⟨rfl, hq4, hk4⟩
    have k4 := hk.chg hk4
    have hmin : Calls Tryd.prog 23 #[.pointer (some ⟨q, 0, none⟩)] w4 (fun e w' => e = .returned (.tuple #[.agg #[.int .u64 5, .int .u64 0, .int .i64 1], .bool true]) ∧ Below w4.heap.size w4 w') := hq_min q tb c nb 3 8 0 0 [wkB, wkA, wkD] w4 hq4 z
    clear hmv hk hk4
    go_wp2_with fail
    refine hmin.mono ?_
    rintro e w5 ⟨rfl, hx5⟩
    have k5 := k4.kept hx5
    have hq5 := hq4.below hx5
    clear hmin hx5 k4 hq4
    go_upto_region 8 with fail
    have k6 := k5.kept (alloc_kept' w5 (.cells #[.int .u64 5, .int .u64 0, .int .i64 1] 37))
    have hq6 := hq5.below (alloc_kept' w5 (.cells #[.int .u64 5, .int .u64 0, .int .i64 1] 37))
    have b10 : Blk (w5.alloc (.cells #[.int .u64 5, .int .u64 0, .int .i64 1] 37)) w5.heap.size 37 #[.int .u64 5, .int .u64 0, .int .i64 1] := Blk.new _ _ _
    have g10 : g ≤ w5.heap.size := Nat.le_of_lt k5.a.lt
    have hbx := bx_one (cs := #[.int .u64 5, .int .u64 0, .int .i64 1]) l1 l2 l4 g10
    clear k5 hq5
    generalize w5.alloc (.cells #[.int .u64 5, .int .u64 0, .int .i64 1] 37) = w6 at *
    generalize w5.heap.size = x10 at *
    have hs8 : S8 g q tb c nb w (fun x => Blk x x10 37 #[.int .u64 5, .int .u64 0, .int .i64 1]) (fun _ => false) w6.drew := ⟨k6.kept (Below.refl _ _).drew, hq6.drew, Nat.le_of_lt k6.a.lt, b10.drew⟩
    clear k6 hq6 b10
    refine region_facts_set 8 (fun _ => false) (F8 g q) (S8 g q tb c nb w (fun x => Blk x x10 37 #[.int .u64 5, .int .u64 0, .int .i64 1])) (fun _ x y => Below x.heap.size x y) (List.range' 53 8 ++ []) (by kernel_rfl) (by kernel_rfl) (by kernel_rfl) (by decide) (by kernel_rfl) (by kernel_rfl) F8.keep (fun _ _ _ h => h.size) hs8 ?_ ?_
    · intro fr hfr
      have f1 : fr.getD 1 undef = .pointer (some ⟨q, 0, none⟩) := by rw [hfr]; rfl
      have f3 : fr.getD 3 undef = .pointer (some ⟨g, 0, none⟩) := by rw [hfr]; rfl
      have f4 : fr.getD 4 undef = .pointer (some ⟨ga, 0, none⟩) := by rw [hfr]; rfl
      clear hfr
      iterate 8
        refine ⟨⟨trivial, ?_⟩, ?_⟩
        · intro ρ w' p hp hdq hρ hd hS
          simp only [DepF, Region.binds, dat, Nat.reduceLT, Nat.reduceAdd, F8, tv, wkA, wkB, wkD, forall_const, and_true] at hd
          have hcon := hρ.con
          have e1 := (hρ.slot 1 (by kernel_rfl)).trans f1
          have e3 := (hρ.slot 3 (by kernel_rfl)).trans f3
          have e4 := (hρ.slot 4 (by kernel_rfl)).trans f4
          have hc1 := hS.k.a.cell
          have hc2 := hS.k.b.cell
          rw [← HGA.out] at hc2
          (try rw [execOp_call_fn _ _ _ _ _ _ _ _ _ (hρ.fn _)])
          go_simp
          (try simp only [GoodQ, F8])
          first
            | exact ⟨rfl, Below.refl _ _, fun h => absurd h (by decide), hS.keep hbx (Below.refl _ _)⟩
            | exact ⟨trivial, Below.refl _ _, fun h => absurd h (by decide), hS.keep hbx (Below.refl _ _)⟩
            | exact ⟨LF.built g w' [wkB, wkA, wkD] (by decide) (by decide) hS.size, alloc_kept' _ _, fun h => absurd h (by decide), hS.keep hbx (alloc_kept' _ _)⟩
            | (refine (hq_all q tb c nb 3 8 0 0 [wkB, wkA, wkD] w' hS.q z).mono ?_; rintro e w'' ⟨v', rfl, ho, hk⟩; exact ⟨v', rfl, ho.lf.mono hS.size, hk, fun h => absurd h (by decide), hS.keep hbx hk⟩)
      trivial
    · intro vs8 w7 hs7 hF8 _
      have h3 : LF g w7 (vs8 3) [wkB, wkA, wkD] := hF8 3 (by decide)
      have h7 : LF g w7 (vs8 7) [wkB, wkA, wkD] := hF8 7 (by decide)
      have hsm := same_refl (vs8 3) (vs8 7) _ w7 h3.at_ h7.at_ (by decide)
      clear hF8 h3 h7 hs8
      simp only [List.range'_succ, List.range'_zero, List.append_nil, setAll, List.setIfInBounds_toArray, List.set_cons_zero, List.set_cons_succ, Nat.reduceAdd]
      simp only [List.drop_succ_cons, List.drop_zero]
      go_wp2_with fail
      refine hsm.mono ?_
      rintro e w8 ⟨rfl, hx8⟩
      have s8 := hs7.keep hbx (p' := fun _ => true) hx8
      clear hsm hx8 hs7
      have hcan := hq_can q tb c nb 3 8 0 0 [wkB, wkA, wkD] 2 w8 s8.q z
      rw [wk_can.1, wk_can.2.1, wk_can.2.2] at hcan
      have hcan : Calls Tryd.prog 45 #[.pointer (some ⟨q, 0, none⟩), .int .i64 2] w8 (fun e w' => e = .returned (.tuple #[.agg #[.int .u64 98, .int .u64 0, .int .i64 2], .int .i64 0]) ∧ HQ w' q tb c nb 3 8 0 0 [wkB, wkA] ∧ Chg (HS q tb nb) w8 w') := hcan
      go_wp2_with fail
      refine hcan.mono ?_
      rintro e w9 ⟨rfl, hq9, hk9⟩
      have k9 := s8.k.chg hk9
      have b10 := hbx _ _ s8.bx hk9
      clear hcan hk9 s8
      have g13 : g ≤ w9.heap.size := Nat.le_of_lt k9.a.lt
      have T9 := hT.below k9.below (glob_lt hT)
      have k10 := k9.kept (alloc_kept' w9 (.cells #[.int .u64 98, .int .u64 0, .int .i64 2] 37))
      have b10' := b10.alloc (.cells #[.int .u64 98, .int .u64 0, .int .i64 2] 37)
      have b13 : Blk (w9.alloc (.cells #[.int .u64 98, .int .u64 0, .int .i64 2] 37)) w9.heap.size 37 #[.int .u64 98, .int .u64 0, .int .i64 2] := Blk.new _ _ _
      have hdu := hq_due q tb c nb 3 8 0 0 4 [wkB, wkA] _ (hq9.below (alloc_kept' w9 (.cells #[.int .u64 98, .int .u64 0, .int .i64 2] 37))) z (by unfold U64; decide) (by unfold U64; decide) (T9.below (alloc_kept' w9 _) (glob_lt T9))
      rw [wk_d4.1, wk_d4.2.1, wk_d4.2.2, show max (0 : Int) 4 = 4 from rfl] at hdu
      have hbx2 := bx_and hbx (bx_one (cs := #[.int .u64 98, .int .u64 0, .int .i64 2]) l1 l2 l4 g13)
      clear hq9 k9 T9 b10 hbx
      go_wp2_with fail
      refine hdu.mono ?_
      rintro e w11 ⟨v11, rfl, ho11, hq11, hk11⟩
      have k11 := k10.chg hk11
      have b11 := hbx2 _ _ ⟨b10', b13⟩ hk11
      obtain ⟨A11, c11, rfl, _⟩ := ho11.at
      have hlk := hq_looked q tb c nb 3 8 4 0 [wkB, wkA] w11 hq11
      clear hdu hk11 k10 b10' b13 ho11
      go_wp2_with fail
      refine hlk.mono ?_
      rintro e w11' ⟨rfl, rfl⟩
      clear hlk
      go_upto_region 11 with fail
      have TA := hT.below k11.below (glob_lt hT)
      have hsA : SE g q tb c nb w 4 0 [wkB, wkA] 6 1 [wkA] (fun x => Blk x x10 37 #[.int .u64 5, .int .u64 0, .int .i64 1] ∧ Blk x w9.heap.size 37 #[.int .u64 98, .int .u64 0, .int .i64 2]) (fun _ => false) w11.drew := ⟨k11.kept (Below.refl _ _).drew, fun _ => hq11.drew, (fun h => by cases h), Nat.le_of_lt k11.a.lt, hbx2 _ _ b11 (Chg.of_same (Below.refl _ _).drew _), TA.below (Below.refl _ _).drew (glob_lt TA)⟩
      clear k11 hq11 b11 TA
      refine region_facts_set 4 (fun _ => false) (FE g q wkB) (SE g q tb c nb w 4 0 [wkB, wkA] 6 1 [wkA] (fun x => Blk x x10 37 #[.int .u64 5, .int .u64 0, .int .i64 1] ∧ Blk x w9.heap.size 37 #[.int .u64 98, .int .u64 0, .int .i64 2])) (fun _ x y => Chg (HS q tb nb) x y) (List.range' 76 4 ++ []) (by kernel_rfl) (by kernel_rfl) (by kernel_rfl) (by decide) (by kernel_rfl) (by kernel_rfl) (FE.keep l1 l2 l4) (fun _ _ _ h => h.size) hsA ?_ ?_
      · intro fr hfr
        have f1 : fr.getD 1 undef = .pointer (some ⟨q, 0, none⟩) := by rw [hfr]; rfl
        have f3 : fr.getD 4 undef = .pointer (some ⟨ga, 0, none⟩) := by rw [hfr]; rfl
        clear hfr
        iterate 4
          refine ⟨⟨trivial, ?_⟩, ?_⟩
          · intro ρ w' p hp hdq hρ hd hS
            simp only [DepF, Region.binds, dat, Nat.reduceLT, Nat.reduceAdd, FE, tv, wkB, forall_const, and_true] at hd
            have hcon := hρ.con
            have e1 := (hρ.slot 1 (by kernel_rfl)).trans f1
            have e3 := (hρ.slot 4 (by kernel_rfl)).trans f3
            have hc1 := hS.k.b.cell
            rw [← HGA.out] at hc1
            (try rw [execOp_call_fn _ _ _ _ _ _ _ _ _ (hρ.fn _)])
            go_simp
            (try simp only [GoodQ, FE])
            first
              | exact ⟨rfl, Chg.refl _ _, fun h => absurd h (by decide), hS.quiet hbx2 _ (Below.refl _ _) (by decide)⟩
              | exact ⟨trivial, Chg.refl _ _, fun h => absurd h (by decide), hS.quiet hbx2 _ (Below.refl _ _) (by decide)⟩
              | exact ⟨LF.built g w' [wkB] (by decide) (by decide) hS.size, (Chg.refl _ _).alloc _, fun h => absurd h (by decide), hS.quiet hbx2 _ (alloc_kept' _ _) (by decide)⟩
              | exact hS.due hT hbx2 z hp (by unfold U64; decide) (by unfold U64; decide) wk_d6.1 wk_d6.2.1 rfl (by rw [wk_d6.2.2]; rfl)
        trivial
      · intro vsA waA hs hF _
        have h1 : LF g waA (vsA 1) [wkB] := hF 1 (by decide)
        have h3 : LF g waA (vsA 3) [wkB] := hF 3 (by decide)
        have hsm := same_refl (vsA 1) (vsA 3) _ waA h1.at_ h3.at_ (by decide)
        have hqa := hs.q1 (by decide)
        have hka := hs.k
        have hba := hs.bx
        clear hF h1 h3 hsA hs
        simp only [List.range'_succ, List.range'_zero, List.append_nil, setAll, List.setIfInBounds_toArray, List.set_cons_zero, List.set_cons_succ, Nat.reduceAdd]
        simp only [List.drop_succ_cons, List.drop_zero]
        go_wp2_with fail
        refine hsm.mono ?_
        rintro e wbA ⟨rfl, hx⟩
        have hqb := hqa.below hx
        have hkb := hka.kept hx
        have hbb := hbx2 _ _ hba (Chg.of_same hx _)
        have hlk := hq_looked q tb c nb 3 8 6 1 [wkA] wbA hqb
        clear hsm hx hqa hka hba
        go_wp2_with fail
        refine hlk.mono ?_
        rintro e wx ⟨rfl, rfl⟩
        clear hlk
        have hget : Calls Tryd.prog 21 #[.pointer (some ⟨q, 0, none⟩), .int .i64 0] wbA (fun e w' => e = .returned (.tuple #[.agg #[.int .u64 13, .int .u64 0, .int .i64 0], .bool true]) ∧ Below wbA.heap.size wbA w') := by
          have := hq_get q tb c nb 3 8 6 1 [wkA] 0 wbA hqb z
          rw [wk_get] at this
          exact this
        go_wp2_with fail
        refine hget.mono ?_
        rintro e wc ⟨rfl, hx⟩
        have kc := hkb.kept hx
        have hqc := hqb.below hx
        have bc := hbx2 _ _ hbb (Chg.of_same hx _)
        clear hget hx hkb hqb hbb
        go_upto_region 13 with fail
        have g17 : g ≤ wc.heap.size := Nat.le_of_lt kc.a.lt
        have b17 : Blk (wc.alloc (.cells #[.int .u64 13, .int .u64 0, .int .i64 0] 37)) wc.heap.size 37 #[.int .u64 13, .int .u64 0, .int .i64 0] := Blk.new _ _ _
        have kd := kc.kept (alloc_kept' wc (.cells #[.int .u64 13, .int .u64 0, .int .i64 0] 37))
        have hqd := hqc.below (alloc_kept' wc (.cells #[.int .u64 13, .int .u64 0, .int .i64 0] 37))
        have bd := And.intro (hbx2 _ _ bc (Chg.of_same (alloc_kept' wc (.cells #[.int .u64 13, .int .u64 0, .int .i64 0] 37)) _)) b17
        have hbx3 := bx_and hbx2 (bx_one (cs := #[.int .u64 13, .int .u64 0, .int .i64 0]) l1 l2 l4 g17)
        clear kc hqc bc b17
        generalize wc.alloc (.cells #[.int .u64 13, .int .u64 0, .int .i64 0] 37) = wd at *
        generalize wc.heap.size = x17 at *
        have TB := hT.below kd.below (glob_lt hT)
        have hsB : SE g q tb c nb w 6 1 [wkA] 13 1 [] (fun x => (Blk x x10 37 #[.int .u64 5, .int .u64 0, .int .i64 1] ∧ Blk x w9.heap.size 37 #[.int .u64 98, .int .u64 0, .int .i64 2]) ∧ Blk x x17 37 #[.int .u64 13, .int .u64 0, .int .i64 0]) (fun _ => false) wd.drew := ⟨kd.kept (Below.refl _ _).drew, fun _ => hqd.drew, (fun h => by cases h), Nat.le_of_lt kd.a.lt, hbx3 _ _ bd (Chg.of_same (Below.refl _ _).drew _), TB.below (Below.refl _ _).drew (glob_lt TB)⟩
        clear kd hqd bd TB
        refine region_facts_set 4 (fun _ => false) (FE g q wkA) (SE g q tb c nb w 6 1 [wkA] 13 1 [] (fun x => (Blk x x10 37 #[.int .u64 5, .int .u64 0, .int .i64 1] ∧ Blk x w9.heap.size 37 #[.int .u64 98, .int .u64 0, .int .i64 2]) ∧ Blk x x17 37 #[.int .u64 13, .int .u64 0, .int .i64 0])) (fun _ x y => Chg (HS q tb nb) x y) (List.range' 93 4 ++ []) (by kernel_rfl) (by kernel_rfl) (by kernel_rfl) (by decide) (by kernel_rfl) (by kernel_rfl) (FE.keep l1 l2 l4) (fun _ _ _ h => h.size) hsB ?_ ?_
        · intro fr hfr
          have f1 : fr.getD 1 undef = .pointer (some ⟨q, 0, none⟩) := by rw [hfr]; rfl
          have f3 : fr.getD 3 undef = .pointer (some ⟨g, 0, none⟩) := by rw [hfr]; rfl
          clear hfr
          iterate 4
            refine ⟨⟨trivial, ?_⟩, ?_⟩
            · intro ρ w' p hp hdq hρ hd hS
              simp only [DepF, Region.binds, dat, Nat.reduceLT, Nat.reduceAdd, FE, tv, wkA, forall_const, and_true] at hd
              have hcon := hρ.con
              have e1 := (hρ.slot 1 (by kernel_rfl)).trans f1
              have e3 := (hρ.slot 3 (by kernel_rfl)).trans f3
              have hc1 := hS.k.a.cell
              skip
              (try rw [execOp_call_fn _ _ _ _ _ _ _ _ _ (hρ.fn _)])
              go_simp
              (try simp only [GoodQ, FE])
              first
                | exact ⟨rfl, Chg.refl _ _, fun h => absurd h (by decide), hS.quiet hbx3 _ (Below.refl _ _) (by decide)⟩
                | exact ⟨trivial, Chg.refl _ _, fun h => absurd h (by decide), hS.quiet hbx3 _ (Below.refl _ _) (by decide)⟩
                | exact ⟨LF.built g w' [wkA] (by decide) (by decide) hS.size, (Chg.refl _ _).alloc _, fun h => absurd h (by decide), hS.quiet hbx3 _ (alloc_kept' _ _) (by decide)⟩
                | exact hS.due hT hbx3 z hp (by unfold U64; decide) (by unfold U64; decide) wk_d13.1 wk_d13.2.1 rfl (by rw [wk_d13.2.2]; rfl)
          trivial
        · intro vsB waB hs hF _
          have h1 : LF g waB (vsB 1) [wkA] := hF 1 (by decide)
          have h3 : LF g waB (vsB 3) [wkA] := hF 3 (by decide)
          have hsm := same_refl (vsB 1) (vsB 3) _ waB h1.at_ h3.at_ (by decide)
          have hqa := hs.q1 (by decide)
          have hka := hs.k
          have hba := hs.bx
          clear hF h1 h3 hsB hs
          simp only [List.range'_succ, List.range'_zero, List.append_nil, setAll, List.setIfInBounds_toArray, List.set_cons_zero, List.set_cons_succ, Nat.reduceAdd]
          simp only [List.drop_succ_cons, List.drop_zero]
          go_wp2_with fail
          refine hsm.mono ?_
          rintro e wbB ⟨rfl, hx⟩
          have hqb := hqa.below hx
          have hkb := hka.kept hx
          have hbb := hbx3 _ _ hba (Chg.of_same hx _)
          have hlk := hq_looked q tb c nb 3 8 13 1 [] wbB hqb
          clear hsm hx hqa hka hba
          go_wp2_with fail
          refine hlk.mono ?_
          rintro e wx ⟨rfl, rfl⟩
          clear hlk
          have TB := hT.below hkb.below (glob_lt hT)
          have hdu := hq_due q tb c nb 3 8 13 1 9 [] wbB hqb z (by unfold U64; decide) (by unfold U64; decide) TB
          rw [wk_d9.1, wk_d9.2.1, wk_d9.2.2, show max (13 : Int) 9 = 13 from rfl] at hdu
          clear TB hqb
          go_wp2_with fail
          refine hdu.mono ?_
          rintro e we ⟨ve, rfl, hoe, hqe, hke⟩
          have ke := hkb.chg hke
          have be := hbx3 _ _ hbb hke
          obtain ⟨Ae, ce, rfl, _⟩ := hoe.at
          have hlk := hq_looked q tb c nb 3 8 13 0 [] we hqe
          clear hdu hke hkb hbb hoe
          go_wp2_with fail
          refine hlk.mono ?_
          rintro e wx ⟨rfl, rfl⟩
          have hba := hq_base q tb c nb 3 8 13 0 [] we hqe
          clear hlk
          go_wp2_with fail
          refine hba.mono ?_
          rintro e wx ⟨rfl, rfl⟩
          have hln : Calls Tryd.prog 20 #[.pointer (some ⟨q, 0, none⟩)] we (fun e w' => e = .returned (.int .i64 0) ∧ we = w') := hq_len q tb c nb 3 8 13 0 [] we hqe
          have y10 := be.1.1.cell
          have y13 := be.1.2.cell
          have y17 := be.2.cell
          have ya := ke.a.cell
          have yb := ke.b.cell
          rw [← HGA.out] at yb
          have HK := Lib.hid ke.below
          clear hba hbx3 hbx2
          go_wp2_with fail
          refine hln.mono ?_
          rintro e wx ⟨rfl, rfl⟩
          go_wp2_with fail
          go_ret
          exact ⟨rfl, HK.out⟩
end Go.Proofs.YtckkfbepclogcaaDoor
namespace Go.Proofs.YtckkfbepclogcaaDoor
open Go.RowKit
/-- The base behind acts. -/
def baseA (base : Int) (l : List Act) : Int := l.foldl baseN base
theorem baseA_snoc (base : Int) (l : List Act) (a : Act) : baseA base (l ++ [a]) = baseN (baseA base l) a := by simp [baseA]
/-- What acts hold. -/
def AcOk (l : List Act) : Prop := ∀ a ∈ l, U64 a.t.at_ ∧ U64 a.now
theorem baseN_u64 {base : Int} {a : Act} (h : U64 base) (ha : U64 a.now) : U64 (baseN base a) := by
  unfold baseN
  unfold U64 at *
  split <;> omega
theorem baseA_u64 {base : Int} (h : U64 base) : ∀ l : List Act, AcOk l → U64 (baseA base l) := by
  intro l
  induction l generalizing base with
  | nil => intro _; exact h
  | cons a l ih =>
    intro ha
    exact ih (baseN_u64 h (ha a (by simp)).2) fun x hx => ha x (by simp [hx])
theorem AcOk.take {l : List Act} (h : AcOk l) (k : Nat) : AcOk (l.take k) := fun a ha => h a (List.mem_of_mem_take ha)
theorem hbuilt_bad (P bits base : Int) (A : Option Addr) (n c : Nat) (w : World) (h : ¬ NewOk P bits) (hl : n ≤ 100000) :
    Calls Tryd.prog 27 #[.int .i64 P, .int .i64 bits, .int .u64 base, .slice A n c] w fun e w' => e = .returned (nilE 1) ∧ w = w' := by
  have hn := hnew_bad P bits base w h
  go_enter Tryd.func27, Tryd.ntmps27
  go_wp2_with fail
  refine hn.mono ?_
  rintro e w1 ⟨rfl, rfl⟩
  clear hn
  unfold nilE
  go_wp2_with fail
  go_loopw [12] (fun i wr => i = .int .i64 0 ∧ w = wr) (fun _ _ => 0)
  case atStart => exact ⟨rfl, rfl⟩
  case round =>
    obtain ⟨rfl, rfl⟩ := hrel
    have H : ((0 : Int) < (n : Int)) ∨ (¬ (0 : Int) < (n : Int)) := by omega
    rcases H with H | H
    · go_wp2_with fail
      exact bodyPost_ret (v := nilE 1) (by simp [results, Tryd.results27, go_sem, nilE]) rfl ⟨rfl, rfl⟩
    · go_wp2_with fail
      exact bodyPost_ret (v := nilE 1) (by simp [results, Tryd.results27, go_sem, nilE]) rfl ⟨rfl, rfl⟩
attribute [local irreducible] Calls
set_option maxRecDepth 100000 in
set_option maxHeartbeats 4000000 in
theorem hbuilt_ok (P bits base : Int) (A : Option Addr) (l : List Act) (c : Nat) (w : World) (h : NewOk P bits) (hA : AcAt w w.heap.size A l) (ha : AcOk l) (ub : U64 base) (hl : l.length ≤ 10000) (hT : TabAt w) :
    Calls Tryd.prog 27 #[.int .i64 P, .int .i64 bits, .int .u64 base, .slice A l.length c] w fun e w' => ∃ q tb c nb lk, e = .returned (.tuple #[.pointer (some ⟨q, 0, none⟩), .int .i64 0]) ∧ HQ w' q tb c nb P.toNat (slotsN bits) (baseA base l) lk (behindL P l) ∧ Below w.heap.size w w' ∧ w.heap.size ≤ q ∧ w.heap.size ≤ tb ∧ w.heap.size ≤ c ∧ w.heap.size ≤ nb := by
  have hn := hnew_ok P bits base w h
  have z := slotsN_ok h
  have hP : (P.toNat : Int) = P := by have := h.1; omega
  go_enter Tryd.func27, Tryd.ntmps27
  go_wp2_with fail
  refine hn.mono ?_
  rintro e w1 ⟨q, tb, c2, nb, rfl, hq, hb, g1, g2, g3, g4⟩
  clear hn
  go_wp2_with fail
  go_loopw [12] (fun i wr => ∃ (k : Nat) (lk : Int), k ≤ l.length ∧ i = .int .i64 k ∧ HQ wr q tb c2 nb P.toNat (slotsN bits) (baseA base (l.take k)) lk (behindL P (l.take k)) ∧ Below w.heap.size w wr) (fun i _ => l.length - (intOf i).toNat)
  case atStart => exact ⟨0, 0, Nat.zero_le _, rfl, hq, hb⟩
  case round =>
    clear hq hb
    obtain ⟨k, lk, hk, rfl, hq, hb⟩ := hrel
    by_cases hlt : k < l.length
    · obtain ⟨b, o, rfl, hbb, c0, c1, c2', c3, c4⟩ := (hA.below hb (Nat.le_refl _)) k hlt
      have HSx := Lib.hid (show behindL P (l.take (k + 1)) = doL P (behindL P (l.take k)) l[k] from by rw [take_snoc l k hlt, behindL_snoc])
      have HB := Lib.hid (show baseA base (l.take (k + 1)) = baseN (baseA base (l.take k)) l[k] from by rw [take_snoc l k hlt, baseA_snoc])
      have hT1 := hT.below hb (glob_lt hT)
      have hdo := hdo_any q tb c2 nb P.toNat (slotsN bits) _ lk _ l[k] wr hq z hT1 (baseA_u64 ub _ (ha.take k)) (ha _ (List.getElem_mem hlt)).1 (ha _ (List.getElem_mem hlt)).2
      rw [hP] at hdo
      unfold Act.val at hdo
      generalize l[k] = a at *
      clear hq hT1
      go_wp2_with fail
      refine hdo.mono ?_
      rintro e w2 ⟨u, rfl, _, hq, hx⟩
      have hb2 := below_chg hb (Nat.le_refl _) hx (fun i e => by unfold HS at e; omega)
      unfold tV
      clear hdo hx c0 c1 c2' c3 c4
      go_wp2_with fail
      go_roundw
      case rel => exact ⟨k + 1, _, by omega, by go_num, by rw [HSx.out, HB.out]; exact hq, hb2⟩
      case measure => simp [intOf]; omega
    · have ht : l.take k = l := List.take_of_length_le (by omega)
      rw [ht] at hq
      go_wp2_with fail
      exact bodyPost_ret (v := .tuple #[.pointer (some ⟨q, 0, none⟩), .int .i64 0]) (by simp [results, Tryd.results27, go_sem]) rfl ⟨q, tb, c2, nb, lk, rfl, hq, hb, g1, g2, g3, g4⟩
end Go.Proofs.YtckkfbepclogcaaDoor
namespace Go.Proofs.YtckkfbepclogcaaDoor
open Go.RowKit
theorem vnew_bad (P bits base : Int) (w : World) (h : ¬ NewOk P bits) :
    Calls Tryd.prog 32 #[.int .i64 P, .int .i64 bits, .int .u64 base] w fun e w' => e = .returned (nilE 1) ∧ w = w' := by
  have hx : P < 0 ∨ (¬ P < 0 ∧ 1024 < P) ∨ (¬ P < 0 ∧ ¬ 1024 < P ∧ bits < 1) ∨ (¬ P < 0 ∧ ¬ 1024 < P ∧ ¬ bits < 1 ∧ 6 < bits) := by
    unfold NewOk at h
    omega
  clear h
  rcases hx with h | ⟨h1, h2⟩ | ⟨h1, h2, h3⟩ | ⟨h1, h2, h3, h4⟩
  · go_enter Tryd.func32, Tryd.ntmps32
    go_wp2
    refine bodyPost_ret (v := nilE 1) (by simp [results, Tryd.results32, go_sem, nilE]) rfl ⟨rfl, rfl⟩
  · go_enter Tryd.func32, Tryd.ntmps32
    go_wp2
    refine bodyPost_ret (v := nilE 1) (by simp [results, Tryd.results32, go_sem, nilE]) rfl ⟨rfl, rfl⟩
  · go_enter Tryd.func32, Tryd.ntmps32
    go_wp2
    refine bodyPost_ret (v := nilE 1) (by simp [results, Tryd.results32, go_sem, nilE]) rfl ⟨rfl, rfl⟩
  · go_enter Tryd.func32, Tryd.ntmps32
    go_wp2
    refine bodyPost_ret (v := nilE 1) (by simp [results, Tryd.results32, go_sem, nilE]) rfl ⟨rfl, rfl⟩
set_option maxRecDepth 100000 in
set_option maxHeartbeats 1000000 in
theorem vnew_1 (P : Nat) (base : Int) (w : World) (hP : P ≤ 1024) :
    Calls Tryd.prog 32 #[.int .i64 P, .int .i64 1, .int .u64 base] w fun e w' => ∃ q tb c nb, e = .returned (.tuple #[.pointer (some ⟨q, 0, none⟩), .int .i64 0]) ∧ RQ w' q tb c nb P 1 2 base 0 [] ∧ Below w.heap.size w w' ∧ w.heap.size ≤ q ∧ w.heap.size ≤ tb ∧ w.heap.size ≤ c ∧ w.heap.size ≤ nb := by
  obtain ⟨i0, hi, hz0, hz1, hz2⟩ := info_parts info_timer
  have hcn : Calls Tryd.prog 46 #[.int .i64 P, .int .i64 (4 * 2 + 2 : Nat)] w _ := cnew_ok P (4 * 2 + 2) w hP (by omega)
  have hP' : ¬ (P : Int) < 0 := by omega
  go_enter Tryd.func32, Tryd.ntmps32
  go_upto_region 6 with (go_at_call 46; refine hcn.mono ?_; rintro e w1 ⟨c, nb, rfl, hc, hn, hC, hb⟩)
  clear hcn
  have hsz := hb.size
  go_wp2_with (at_make; refine wpList_make_full _ rfl _ _ 29 rfl w.heap.size 37 i0 (.agg #[.int .u64 0, .int .u64 0, .int .i64 0]) 3 Tryd.underlying29 hi hz0 hz1 .i64 .i64 _ _ P rfl rfl rfl rfl (by rw [hz2]; omega) (by unfold maxLen; omega) hsz ?_)
  intro w2 hown hgr
  have hb2 := grown_below hgr
  have hT0 : Blk w2 w1.heap.size 37 (tmC P (fun _ => Timer.zero)) := by
    rw [← made_tms]
    exact made_blk hown
  have hC2 := hC.below hb2
  have hsz2 := hb2.size
  have hlt := hT0.lt
  clear hown hgr hi hz0 hz1 hz2 hC
  go_wp2
  refine bodyPost_ret (v := .tuple #[.pointer (some ⟨w2.heap.size, 0, none⟩), .int .i64 0]) (by simp [results, Tryd.results32, go_sem]) rfl ?_
  refine ⟨w2.heap.size, w1.heap.size, c, nb, rfl, ⟨HSt.new base (fun _ => Timer.zero), fun _ => Bits.zero, ⟨?_, ?_, ?_, ?_, ?_⟩, ?_, rfl⟩, (hb.trans (Below.mono hb2 hsz)).alloc (by omega) _, by omega, by omega, hc, hn⟩
  · exact Blk.new _ _ _
  · exact hT0.alloc _
  · exact hC2.below ((Below.refl _ _).alloc (Nat.le_refl _) _)
  · exact fun l _ => (Busy.zero 2).congr fun k _ => rfl
  · exact HrOk.new P _ base _
  · exact PRel.new P _
set_option maxRecDepth 100000 in
set_option maxHeartbeats 1000000 in
theorem vnew_2 (P : Nat) (base : Int) (w : World) (hP : P ≤ 1024) :
    Calls Tryd.prog 32 #[.int .i64 P, .int .i64 2, .int .u64 base] w fun e w' => ∃ q tb c nb, e = .returned (.tuple #[.pointer (some ⟨q, 0, none⟩), .int .i64 0]) ∧ RQ w' q tb c nb P 2 4 base 0 [] ∧ Below w.heap.size w w' ∧ w.heap.size ≤ q ∧ w.heap.size ≤ tb ∧ w.heap.size ≤ c ∧ w.heap.size ≤ nb := by
  obtain ⟨i0, hi, hz0, hz1, hz2⟩ := info_parts info_timer
  have hcn : Calls Tryd.prog 46 #[.int .i64 P, .int .i64 (4 * 4 + 2 : Nat)] w _ := cnew_ok P (4 * 4 + 2) w hP (by omega)
  have hP' : ¬ (P : Int) < 0 := by omega
  go_enter Tryd.func32, Tryd.ntmps32
  go_upto_region 6 with (go_at_call 46; refine hcn.mono ?_; rintro e w1 ⟨c, nb, rfl, hc, hn, hC, hb⟩)
  clear hcn
  have hsz := hb.size
  go_wp2_with (at_make; refine wpList_make_full _ rfl _ _ 29 rfl w.heap.size 37 i0 (.agg #[.int .u64 0, .int .u64 0, .int .i64 0]) 3 Tryd.underlying29 hi hz0 hz1 .i64 .i64 _ _ P rfl rfl rfl rfl (by rw [hz2]; omega) (by unfold maxLen; omega) hsz ?_)
  intro w2 hown hgr
  have hb2 := grown_below hgr
  have hT0 : Blk w2 w1.heap.size 37 (tmC P (fun _ => Timer.zero)) := by
    rw [← made_tms]
    exact made_blk hown
  have hC2 := hC.below hb2
  have hsz2 := hb2.size
  have hlt := hT0.lt
  clear hown hgr hi hz0 hz1 hz2 hC
  go_wp2
  refine bodyPost_ret (v := .tuple #[.pointer (some ⟨w2.heap.size, 0, none⟩), .int .i64 0]) (by simp [results, Tryd.results32, go_sem]) rfl ?_
  refine ⟨w2.heap.size, w1.heap.size, c, nb, rfl, ⟨HSt.new base (fun _ => Timer.zero), fun _ => Bits.zero, ⟨?_, ?_, ?_, ?_, ?_⟩, ?_, rfl⟩, (hb.trans (Below.mono hb2 hsz)).alloc (by omega) _, by omega, by omega, hc, hn⟩
  · exact Blk.new _ _ _
  · exact hT0.alloc _
  · exact hC2.below ((Below.refl _ _).alloc (Nat.le_refl _) _)
  · exact fun l _ => (Busy.zero 4).congr fun k _ => rfl
  · exact HrOk.new P _ base _
  · exact PRel.new P _
set_option maxRecDepth 100000 in
set_option maxHeartbeats 1000000 in
theorem vnew_3 (P : Nat) (base : Int) (w : World) (hP : P ≤ 1024) :
    Calls Tryd.prog 32 #[.int .i64 P, .int .i64 3, .int .u64 base] w fun e w' => ∃ q tb c nb, e = .returned (.tuple #[.pointer (some ⟨q, 0, none⟩), .int .i64 0]) ∧ RQ w' q tb c nb P 3 8 base 0 [] ∧ Below w.heap.size w w' ∧ w.heap.size ≤ q ∧ w.heap.size ≤ tb ∧ w.heap.size ≤ c ∧ w.heap.size ≤ nb := by
  obtain ⟨i0, hi, hz0, hz1, hz2⟩ := info_parts info_timer
  have hcn : Calls Tryd.prog 46 #[.int .i64 P, .int .i64 (4 * 8 + 2 : Nat)] w _ := cnew_ok P (4 * 8 + 2) w hP (by omega)
  have hP' : ¬ (P : Int) < 0 := by omega
  go_enter Tryd.func32, Tryd.ntmps32
  go_upto_region 6 with (go_at_call 46; refine hcn.mono ?_; rintro e w1 ⟨c, nb, rfl, hc, hn, hC, hb⟩)
  clear hcn
  have hsz := hb.size
  go_wp2_with (at_make; refine wpList_make_full _ rfl _ _ 29 rfl w.heap.size 37 i0 (.agg #[.int .u64 0, .int .u64 0, .int .i64 0]) 3 Tryd.underlying29 hi hz0 hz1 .i64 .i64 _ _ P rfl rfl rfl rfl (by rw [hz2]; omega) (by unfold maxLen; omega) hsz ?_)
  intro w2 hown hgr
  have hb2 := grown_below hgr
  have hT0 : Blk w2 w1.heap.size 37 (tmC P (fun _ => Timer.zero)) := by
    rw [← made_tms]
    exact made_blk hown
  have hC2 := hC.below hb2
  have hsz2 := hb2.size
  have hlt := hT0.lt
  clear hown hgr hi hz0 hz1 hz2 hC
  go_wp2
  refine bodyPost_ret (v := .tuple #[.pointer (some ⟨w2.heap.size, 0, none⟩), .int .i64 0]) (by simp [results, Tryd.results32, go_sem]) rfl ?_
  refine ⟨w2.heap.size, w1.heap.size, c, nb, rfl, ⟨HSt.new base (fun _ => Timer.zero), fun _ => Bits.zero, ⟨?_, ?_, ?_, ?_, ?_⟩, ?_, rfl⟩, (hb.trans (Below.mono hb2 hsz)).alloc (by omega) _, by omega, by omega, hc, hn⟩
  · exact Blk.new _ _ _
  · exact hT0.alloc _
  · exact hC2.below ((Below.refl _ _).alloc (Nat.le_refl _) _)
  · exact fun l _ => (Busy.zero 8).congr fun k _ => rfl
  · exact HrOk.new P _ base _
  · exact PRel.new P _
set_option maxRecDepth 100000 in
set_option maxHeartbeats 1000000 in
theorem vnew_4 (P : Nat) (base : Int) (w : World) (hP : P ≤ 1024) :
    Calls Tryd.prog 32 #[.int .i64 P, .int .i64 4, .int .u64 base] w fun e w' => ∃ q tb c nb, e = .returned (.tuple #[.pointer (some ⟨q, 0, none⟩), .int .i64 0]) ∧ RQ w' q tb c nb P 4 16 base 0 [] ∧ Below w.heap.size w w' ∧ w.heap.size ≤ q ∧ w.heap.size ≤ tb ∧ w.heap.size ≤ c ∧ w.heap.size ≤ nb := by
  obtain ⟨i0, hi, hz0, hz1, hz2⟩ := info_parts info_timer
  have hcn : Calls Tryd.prog 46 #[.int .i64 P, .int .i64 (4 * 16 + 2 : Nat)] w _ := cnew_ok P (4 * 16 + 2) w hP (by omega)
  have hP' : ¬ (P : Int) < 0 := by omega
  go_enter Tryd.func32, Tryd.ntmps32
  go_upto_region 6 with (go_at_call 46; refine hcn.mono ?_; rintro e w1 ⟨c, nb, rfl, hc, hn, hC, hb⟩)
  clear hcn
  have hsz := hb.size
  go_wp2_with (at_make; refine wpList_make_full _ rfl _ _ 29 rfl w.heap.size 37 i0 (.agg #[.int .u64 0, .int .u64 0, .int .i64 0]) 3 Tryd.underlying29 hi hz0 hz1 .i64 .i64 _ _ P rfl rfl rfl rfl (by rw [hz2]; omega) (by unfold maxLen; omega) hsz ?_)
  intro w2 hown hgr
  have hb2 := grown_below hgr
  have hT0 : Blk w2 w1.heap.size 37 (tmC P (fun _ => Timer.zero)) := by
    rw [← made_tms]
    exact made_blk hown
  have hC2 := hC.below hb2
  have hsz2 := hb2.size
  have hlt := hT0.lt
  clear hown hgr hi hz0 hz1 hz2 hC
  go_wp2
  refine bodyPost_ret (v := .tuple #[.pointer (some ⟨w2.heap.size, 0, none⟩), .int .i64 0]) (by simp [results, Tryd.results32, go_sem]) rfl ?_
  refine ⟨w2.heap.size, w1.heap.size, c, nb, rfl, ⟨HSt.new base (fun _ => Timer.zero), fun _ => Bits.zero, ⟨?_, ?_, ?_, ?_, ?_⟩, ?_, rfl⟩, (hb.trans (Below.mono hb2 hsz)).alloc (by omega) _, by omega, by omega, hc, hn⟩
  · exact Blk.new _ _ _
  · exact hT0.alloc _
  · exact hC2.below ((Below.refl _ _).alloc (Nat.le_refl _) _)
  · exact fun l _ => (Busy.zero 16).congr fun k _ => rfl
  · exact HrOk.new P _ base _
  · exact PRel.new P _
set_option maxRecDepth 100000 in
set_option maxHeartbeats 1000000 in
theorem vnew_5 (P : Nat) (base : Int) (w : World) (hP : P ≤ 1024) :
    Calls Tryd.prog 32 #[.int .i64 P, .int .i64 5, .int .u64 base] w fun e w' => ∃ q tb c nb, e = .returned (.tuple #[.pointer (some ⟨q, 0, none⟩), .int .i64 0]) ∧ RQ w' q tb c nb P 5 32 base 0 [] ∧ Below w.heap.size w w' ∧ w.heap.size ≤ q ∧ w.heap.size ≤ tb ∧ w.heap.size ≤ c ∧ w.heap.size ≤ nb := by
  obtain ⟨i0, hi, hz0, hz1, hz2⟩ := info_parts info_timer
  have hcn : Calls Tryd.prog 46 #[.int .i64 P, .int .i64 (4 * 32 + 2 : Nat)] w _ := cnew_ok P (4 * 32 + 2) w hP (by omega)
  have hP' : ¬ (P : Int) < 0 := by omega
  go_enter Tryd.func32, Tryd.ntmps32
  go_upto_region 6 with (go_at_call 46; refine hcn.mono ?_; rintro e w1 ⟨c, nb, rfl, hc, hn, hC, hb⟩)
  clear hcn
  have hsz := hb.size
  go_wp2_with (at_make; refine wpList_make_full _ rfl _ _ 29 rfl w.heap.size 37 i0 (.agg #[.int .u64 0, .int .u64 0, .int .i64 0]) 3 Tryd.underlying29 hi hz0 hz1 .i64 .i64 _ _ P rfl rfl rfl rfl (by rw [hz2]; omega) (by unfold maxLen; omega) hsz ?_)
  intro w2 hown hgr
  have hb2 := grown_below hgr
  have hT0 : Blk w2 w1.heap.size 37 (tmC P (fun _ => Timer.zero)) := by
    rw [← made_tms]
    exact made_blk hown
  have hC2 := hC.below hb2
  have hsz2 := hb2.size
  have hlt := hT0.lt
  clear hown hgr hi hz0 hz1 hz2 hC
  go_wp2
  refine bodyPost_ret (v := .tuple #[.pointer (some ⟨w2.heap.size, 0, none⟩), .int .i64 0]) (by simp [results, Tryd.results32, go_sem]) rfl ?_
  refine ⟨w2.heap.size, w1.heap.size, c, nb, rfl, ⟨HSt.new base (fun _ => Timer.zero), fun _ => Bits.zero, ⟨?_, ?_, ?_, ?_, ?_⟩, ?_, rfl⟩, (hb.trans (Below.mono hb2 hsz)).alloc (by omega) _, by omega, by omega, hc, hn⟩
  · exact Blk.new _ _ _
  · exact hT0.alloc _
  · exact hC2.below ((Below.refl _ _).alloc (Nat.le_refl _) _)
  · exact fun l _ => (Busy.zero 32).congr fun k _ => rfl
  · exact HrOk.new P _ base _
  · exact PRel.new P _
set_option maxRecDepth 100000 in
set_option maxHeartbeats 1000000 in
theorem vnew_6 (P : Nat) (base : Int) (w : World) (hP : P ≤ 1024) :
    Calls Tryd.prog 32 #[.int .i64 P, .int .i64 6, .int .u64 base] w fun e w' => ∃ q tb c nb, e = .returned (.tuple #[.pointer (some ⟨q, 0, none⟩), .int .i64 0]) ∧ RQ w' q tb c nb P 6 64 base 0 [] ∧ Below w.heap.size w w' ∧ w.heap.size ≤ q ∧ w.heap.size ≤ tb ∧ w.heap.size ≤ c ∧ w.heap.size ≤ nb := by
  obtain ⟨i0, hi, hz0, hz1, hz2⟩ := info_parts info_timer
  have hcn : Calls Tryd.prog 46 #[.int .i64 P, .int .i64 (4 * 64 + 2 : Nat)] w _ := cnew_ok P (4 * 64 + 2) w hP (by omega)
  have hP' : ¬ (P : Int) < 0 := by omega
  go_enter Tryd.func32, Tryd.ntmps32
  go_upto_region 6 with (go_at_call 46; refine hcn.mono ?_; rintro e w1 ⟨c, nb, rfl, hc, hn, hC, hb⟩)
  clear hcn
  have hsz := hb.size
  go_wp2_with (at_make; refine wpList_make_full _ rfl _ _ 29 rfl w.heap.size 37 i0 (.agg #[.int .u64 0, .int .u64 0, .int .i64 0]) 3 Tryd.underlying29 hi hz0 hz1 .i64 .i64 _ _ P rfl rfl rfl rfl (by rw [hz2]; omega) (by unfold maxLen; omega) hsz ?_)
  intro w2 hown hgr
  have hb2 := grown_below hgr
  have hT0 : Blk w2 w1.heap.size 37 (tmC P (fun _ => Timer.zero)) := by
    rw [← made_tms]
    exact made_blk hown
  have hC2 := hC.below hb2
  have hsz2 := hb2.size
  have hlt := hT0.lt
  clear hown hgr hi hz0 hz1 hz2 hC
  go_wp2
  refine bodyPost_ret (v := .tuple #[.pointer (some ⟨w2.heap.size, 0, none⟩), .int .i64 0]) (by simp [results, Tryd.results32, go_sem]) rfl ?_
  refine ⟨w2.heap.size, w1.heap.size, c, nb, rfl, ⟨HSt.new base (fun _ => Timer.zero), fun _ => Bits.zero, ⟨?_, ?_, ?_, ?_, ?_⟩, ?_, rfl⟩, (hb.trans (Below.mono hb2 hsz)).alloc (by omega) _, by omega, by omega, hc, hn⟩
  · exact Blk.new _ _ _
  · exact hT0.alloc _
  · exact hC2.below ((Below.refl _ _).alloc (Nat.le_refl _) _)
  · exact fun l _ => (Busy.zero 64).congr fun k _ => rfl
  · exact HrOk.new P _ base _
  · exact PRel.new P _
/-- How many slots a level has. -/
def sideN (bits : Int) : Nat := 2 ^ bits.toNat
theorem sideN_ok {P bits : Int} (h : NewOk P bits) : RSz P.toNat bits.toNat (sideN bits) := by
  obtain ⟨h1, h2, h3, h4⟩ := h
  exact ⟨by omega, by omega, by omega, rfl⟩
theorem vnew_ok (P bits base : Int) (w : World) (h : NewOk P bits) :
    Calls Tryd.prog 32 #[.int .i64 P, .int .i64 bits, .int .u64 base] w fun e w' => ∃ q tb c nb, e = .returned (.tuple #[.pointer (some ⟨q, 0, none⟩), .int .i64 0]) ∧ RQ w' q tb c nb P.toNat bits.toNat (sideN bits) base 0 [] ∧ Below w.heap.size w w' ∧ w.heap.size ≤ q ∧ w.heap.size ≤ tb ∧ w.heap.size ≤ c ∧ w.heap.size ≤ nb := by
  obtain ⟨h1, h2, h3, h4⟩ := h
  have hb : bits = 1 ∨ bits = 2 ∨ bits = 3 ∨ bits = 4 ∨ bits = 5 ∨ bits = 6 := by omega
  obtain ⟨n, rfl⟩ := Int.eq_ofNat_of_zero_le (show 0 ≤ P by omega)
  rcases hb with rfl | rfl | rfl | rfl | rfl | rfl
  · exact vnew_1 n base w (by omega)
  · exact vnew_2 n base w (by omega)
  · exact vnew_3 n base w (by omega)
  · exact vnew_4 n base w (by omega)
  · exact vnew_5 n base w (by omega)
  · exact vnew_6 n base w (by omega)
end Go.Proofs.YtckkfbepclogcaaDoor
namespace Go.Proofs.YtckkfbepclogcaaDoor
open Go.RowKit Go.Shelf Go.Sort
attribute [local go_sem] Oper.semAt_some
theorem vbegun_any (q : Nat) (now : Int) (w : World) : Calls Tryd.prog 96 #[.pointer (some ⟨q, 0, none⟩), .int .u64 now] w fun e w' =>
    e = .returned (.func (.func 112) #[] #[.pointer (some ⟨w.heap.size, 0, none⟩), .pointer (some ⟨w.heap.size + 1, 0, none⟩)]) ∧ w' = (w.alloc (.cells #[.pointer (some ⟨q, 0, none⟩)] 70)).alloc (.cells #[.int .u64 now] 22) := by
  go_enter Tryd.func96, Tryd.ntmps96
  go_wp2
  go_ret
  exact ⟨by simp, rfl⟩
/-- Where a slot begins, by its list's number. -/
def bgN (B : Nat) (base : Int) (o : Nat) : Int := begN B base (o / B) (o % B)
theorem bgN_at {B l k : Nat} (hk : k < B) (base : Int) : bgN B base (l * B + k) = begN B base l k := by
  unfold bgN
  rw [Nat.mul_comm, Nat.mul_add_div (by omega), Nat.mul_add_mod, Nat.div_eq_of_lt hk, Nat.mod_eq_of_lt hk, Nat.add_zero]
/-- What the iterator sees of the wheel: which slots ahead have something is as it was. -/
structure BegV (q bq bn tb c P b B : Nat) (base now : Int) (p0 : Nat → Bool) (pre : List Nat) (W : World) : Prop where
  bq : Blk W bq 70 #[.pointer (some ⟨q, 0, none⟩)]
  bn : Blk W bn 22 #[.int .u64 now]
  tab : TabAt W
  st : ∃ (rg : Nat → Bits) (p : Nat → Bool) (n cas : Int), Blk W q 107 (rCells tb c P b rg base n cas) ∧ (∀ l, l < 4 → Busy B (rg l) (fun k => p (l * B + k))) ∧ ∀ o, nxo pre ≤ o → p o = p0 o
def BegG (B : Nat) (base now : Int) (p0 : Nat → Bool) (pre : List Nat) (o : Nat) : Prop :=
  nxo pre ≤ o ∧ o < 4 * B ∧ p0 o = true ∧ bgN B base o ≤ now ∧ ∀ o', nxo pre ≤ o' → o' < o → p0 o' = true → now < bgN B base o'
def BegS (B : Nat) (base now : Int) (p0 : Nat → Bool) (xs : List Nat) : Prop := ∀ o', nxo xs ≤ o' → o' < 4 * B → p0 o' = true → now < bgN B base o'
theorem dbegin_u {P b B : Nat} (z : RSz P b B) {base : Int} (hb : U64 base) (l k : Nat) (hl : l < 4) (hk : k < B) (w : World) :
    Calls Tryd.prog 113 #[.int .u64 base, .int .i64 l, .int .i64 k, .int .i64 b] w fun e w' => e = .returned (.int .u64 (begN B base l k)) ∧ w = w' := by
  obtain ⟨x, rfl, hx⟩ := u64_nat hb
  exact dbegin_any b B z.hB ⟨z.h1, z.h6⟩ x l k hx hl hk w
/-- The next one of a level's slots, from c on. -/
structure NX (p0 : Nat → Bool) (v B c : Nat) (o : Option Int) : Prop where
  none : o = none → ∀ k, c ≤ k → k < B → p0 (v * B + k) = false
  some : ∀ x, o = some x → ∃ k : Nat, x = k ∧ c ≤ k ∧ k < B ∧ p0 (v * B + k) = true ∧ ∀ k', c ≤ k' → k' < k → p0 (v * B + k') = false
theorem Busy.nx {B v c m : Nat} {b : Bits} {p p0 : Nat → Bool} (h : Busy B b (fun k => p (v * B + k))) (hB : B ≤ 64) (hp : ∀ o, m ≤ o → p o = p0 o) (hm : m ≤ v * B + c) : NX p0 v B c (b.next (c : Int)) := by
  constructor
  · intro e k hk hkB
    rw [← hp _ (by omega)]
    exact h.off (by omega) hkB fun q => by have := next_none b _ _ e q; omega
  · intro x e
    obtain ⟨h1, h2⟩ := next_some b _ x e
    obtain ⟨k, rfl, hk, hpk⟩ := (h.has (by omega)).1 h2
    refine ⟨k, rfl, by omega, hk, by rw [← hp _ (by omega)]; exact hpk, fun k' g1 g2 => ?_⟩
    rw [← hp _ (by omega)]
    exact h.off (by omega) (by omega) fun q => by have := next_least b _ _ _ e q (by omega); omega
def mzN (B : Nat) (x y : Value) : Nat := match y with
  | .bool true => B + 1 - (intOf x).toNat
  | _ => 0
/-- Between two slots none begins. -/
def Free (B : Nat) (base now : Int) (p0 : Nat → Bool) (a e : Nat) : Prop := ∀ o', a ≤ o' → o' < e → p0 o' = true → now < bgN B base o'
theorem Free.pass {B v c k : Nat} {base now : Int} {p0 : Nat → Bool} {a : Nat} (h : Free B base now p0 a (v * B + c)) (hk : ∀ k', c ≤ k' → k' < k → p0 (v * B + k') = false) : Free B base now p0 a (v * B + k) := by
  intro o' h1 h2 h3
  by_cases hlt : o' < v * B + c
  · exact h o' h1 hlt h3
  · obtain ⟨k', rfl⟩ := Nat.exists_eq_add_of_le (show v * B ≤ o' by omega)
    rw [hk k' (by omega) (by omega)] at h3
    cases h3
theorem Free.late {B v c k : Nat} {base now : Int} {p0 : Nat → Bool} {a : Nat} (h : Free B base now p0 a (v * B + c)) (hk : ∀ k', c ≤ k' → k' < k → p0 (v * B + k') = false) (hB : 0 < B) (_hkB : k < B) (hlt : now < begN B base v k) : Free B base now p0 a ((v + 1) * B) := by
  have h0 := h.pass hk
  intro o' h1 h2 h3
  by_cases hl : o' < v * B + k
  · exact h0 o' h1 hl h3
  · obtain ⟨k', rfl⟩ := Nat.exists_eq_add_of_le (show v * B ≤ o' by omega)
    rw [Nat.succ_mul] at h2
    rw [bgN_at (by omega)]
    have := begN_mono hB base v (show k ≤ k' by omega)
    omega
theorem Free.rest {B v c : Nat} {base now : Int} {p0 : Nat → Bool} {a : Nat} (h : Free B base now p0 a (v * B + c)) (hk : ∀ k, c ≤ k → k < B → p0 (v * B + k) = false) : Free B base now p0 a ((v + 1) * B) := by
  rw [Nat.succ_mul]
  exact h.pass hk
set_option maxRecDepth 100000 in
set_option maxHeartbeats 4000000 in
theorem beg1_in (n : Nat) (hn : 1 ≤ n) (l q bq bn tb c P b B : Nat) (base now : Int) (p0 : Nat → Bool) (z : RSz P b B) (hb : U64 base) (_hw : U64 now) (J Jx : List Nat → World → Prop) (hJd : ∀ pre W, J pre W → J pre W.drew) (hJb : ∀ pre W W', J pre W → Below W.heap.size W W' → J pre W')
    (hV : ∀ pre W, J pre W → BegV q bq bn tb c P b B base now p0 pre W)
    (hY : ∀ pre x W, J pre W → BegG B base now p0 pre x → YieldAt Fence.wide (n - 1) Tryd.prog l #[.int .i64 (x / B : Nat), .int .i64 (x % B : Nat)] W fun e W' =>
      (e = .returned (.bool true) ∧ J (pre ++ [x]) W') ∨ (e = .returned (.bool false) ∧ Jx (pre ++ [x]) W'))
    (W : World) (hJ0 : J [] W) :
    CallsIn Fence.wide n Tryd.prog 112 #[.func (.yield l) #[] #[], .pointer (some ⟨bq, 0, none⟩), .pointer (some ⟨bn, 0, none⟩)] W fun e W' => (∃ v, e = .returned v) ∧
      ((∃ xs, BegS B base now p0 xs ∧ J xs W') ∨ ∃ pre, Jx pre W') := by
  have hB0 := z.pos
  have hB64 := z.le
  refine callsIn_of_wp Tryd.func112 rfl trivial ?_ rfl
  simp only [Tryd.ntmps112, List.size_toArray, List.length_cons, List.length_nil, Nat.reduceAdd, Nat.reduceSub, Array.replicate_succ, Array.replicate_zero, List.push_toArray, List.append_toArray, List.nil_append, List.cons_append]
  gi_wp2_with fail
  gi_loopw [7] (fun i wr => ∃ (v : Nat) (pre : List Nat), v ≤ 4 ∧ i = .int .i64 v ∧ nxo pre ≤ v * B ∧ Hid (Free B base now p0 (nxo pre) (v * B)) ∧ J pre wr) (fun i _ => 4 - (intOf i).toNat)
  case atStart => exact ⟨0, [], by omega, rfl, by rw [nxo_nil]; omega, Lib.hid (fun o' _ h => by omega), hJ0⟩
  case round =>
    clear hJ0
    obtain ⟨v, pre, hv4, rfl, hno, hfree, hJ⟩ := hrel
    by_cases hlt : v < 4
    · have hv' : v = 0 ∨ v = 1 ∨ v = 2 ∨ v = 3 := by omega
      rcases hv' with rfl | rfl | rfl | rfl
      · skip
        have hv := hV _ _ hJ
        obtain ⟨rg, p, nn, cas, hB, hbu, hp⟩ := hv.st
        have hok := (hbu 0 (by omega)).ok
        have c1 := hv.bq.cell
        have c3 := hB.cell
        unfold rCells at c3
        have hnx := next_any (rg 0) 0 wr hok hv.tab
        have HNX : Hid (NX p0 0 B 0 ((rg 0).next 0)) := Lib.hid ((hbu 0 (by omega)).nx (c := 0) hB64 hp (by omega))
        unfold Bits.val pairV at hnx
        gi_wp2_with fail
        refine ⟨trivial, CallsIn.mono (callsIn_wide.2 hnx) ?_⟩
        rintro e W2 ⟨rfl, hx⟩
        have hJ2 := hJb _ _ _ hJ hx
        clear hnx hx c1 c3 hok hbu hp hB hv hJ
        generalize (rg 0).next 0 = o0 at *
        gi_wp2_with fail
        gi_loopw [5, 6] (fun x y wr2 => ∃ (c : Nat) (pre2 : List Nat) (o : Option Int), c ≤ B ∧ nxo pre2 ≤ 0 * B + c ∧ Hid (Free B base now p0 (nxo pre2) (0 * B + c)) ∧ x = .int .i64 (o.getD 0) ∧ y = .bool o.isSome ∧ Hid (NX p0 0 B c o) ∧ J pre2 wr2) (fun x y _ => mzN B x y)
        case atStart => exact ⟨0, pre, o0, Nat.zero_le _, hno, hfree, rfl, rfl, HNX, hJ2⟩
        case round =>
          clear hfree hno HNX hJ2
          obtain ⟨c, pre2, o, hc, hno2, hfr2, rfl, rfl, hnx2, hJ2⟩ := hrel
          rcases o with _ | x
          · simp only [Option.getD_none, Option.isSome_none]
            have HF : Hid (Free B base now p0 (nxo pre2) ((0 + 1) * B)) := Lib.hid (hfr2.out.rest (hnx2.out.none rfl))
            have hle2 : nxo pre2 ≤ (0 + 1) * B := by omega
            have hJ3 := hJd _ _ hJ2
            have hmix : Tryd.prog.follows .mixedOrders = true := by kernel_rfl
            clear hnx2 hfr2 hJ2
            gi_wp2_with fail
            refine wpIn_wide.2 ?_
            go_big_region_o
            clear hmix
            generalize wr.drew = wr3 at *
            gi_wp2_with fail
            go_roundw
            case rel => exact ⟨0 + 1, pre2, by omega, by go_num, hle2, HF, hJ3⟩
            case measure => simp [intOf]
          · obtain ⟨k, rfl, hck, hkB, hpk, hgap⟩ := hnx2.out.some x rfl
            simp only [Option.getD_some, Option.isSome_some]
            have hv2 := hV _ _ hJ2
            obtain ⟨rg2, p2, n2, cas2, hB2, hbu2, hp2⟩ := hv2.st
            have c1 := hv2.bq.cell
            have c2 := hv2.bn.cell
            have c3 := hB2.cell
            unfold rCells at c3
            have hbe := dbegin_u z hb 0 k (by omega) hkB
            have hbg := bgN_at (l := 0) hkB base
            have HNX2 := Lib.hid hnx2.out
            have HGP := Lib.hid hgap
            have HPK := Lib.hid hpk
            clear hbu2 hp2 hnx2 hgap hpk
            gi_wp2_with fail
            refine wpIn_wide.2 (still_all (by kernel_rfl) (by kernel_rfl) ?_)
            iterate 12 still_step
            still_call (flip (hbe _))
            repeat still_step
            refine wpStill_nil ?_
            have hJ3 := hJd _ _ hJ2
            clear hJ2 c1 c2 c3 hB2 hv2 hbe
            generalize wr.drew = w3 at *
            by_cases hle : begN B base 0 k ≤ now
            · have hG : Hid (BegG B base now p0 pre2 (0 * B + k)) := Lib.hid ⟨by omega, slot_lt hB0 (by omega) hkB, HPK.out, by rw [hbg]; exact hle, fun o' g1 g2 g3 => hfr2.out.pass HGP.out o' g1 g2 g3⟩
              obtain ⟨fn, tmps, assign, body, hy, hR⟩ := hY pre2 (0 * B + k) w3 hJ3 hG.out
              have HQ1 : (((0 * B + k) / B : Nat) : Int) = (0 : Int) := by rw [Nat.mul_comm, Nat.mul_add_div hB0, Nat.div_eq_of_lt hkB]; rfl
              have HQ2 : (0 * B + k) % B = k := by rw [Nat.mul_comm, Nat.mul_add_mod, Nat.mod_eq_of_lt hkB]
              rw [HQ1, HQ2] at hy
              clear HQ1 HQ2 hbg
              gi_wp2_with fail
              refine hR.mono ?_
              rintro e W3 (⟨rfl, hJ4⟩ | ⟨rfl, hJx3⟩)
              · have hv4' := hV _ _ hJ4
                obtain ⟨rg4, p4, n4, cas4, hB4, hbu4, hp4⟩ := hv4'.st
                have hok4 := (hbu4 0 (by omega)).ok
                have c1 := hv4'.bq.cell
                have c3 := hB4.cell
                unfold rCells at c3
                have hnx := next_any (rg4 0) ((k + 1 : Nat) : Int) W3 hok4 hv4'.tab
                have HNX4 : Hid (NX p0 0 B (k + 1) ((rg4 0).next ((k + 1 : Nat) : Int))) := Lib.hid ((hbu4 0 (by omega)).nx (c := k + 1) hB64 hp4 (by rw [nxo_snoc]; omega))
                have HK1 : ((k + 1 : Nat) : Int) = (k : Int) + 1 := by omega
                rw [HK1] at hnx HNX4
                unfold Bits.val pairV at hnx
                clear hle hR hy hbu4 hp4 HK1
                gi_wp2_with fail
                refine ⟨trivial, CallsIn.mono (callsIn_wide.2 hnx) ?_⟩
                rintro e W5 ⟨rfl, hx5⟩
                have hJ5 := hJb _ _ _ hJ4 hx5
                clear hnx hx5 c1 c3 hok4 hB4 hv4' hJ4
                generalize (rg4 0).next ((k : Int) + 1) = o4 at *
                gi_wp2_with fail
                go_roundw
                case rel => exact ⟨k + 1, pre2 ++ [0 * B + k], o4, by omega, by rw [nxo_snoc]; omega, Lib.hid (by rw [nxo_snoc]; exact fun o' g1 g2 _ => absurd g1 (by omega)), rfl, rfl, HNX4, hJ5⟩
                case measure =>
                  rcases o4 with _ | x4
                  · simp [mzN, intOf]; omega
                  · obtain ⟨k4, rfl, g1, g2, _⟩ := HNX4.out.some x4 rfl
                    simp [mzN, intOf]; omega
              · gi_wp2_with fail
                (try rw [Exit.noGoto_ret])
                refine bodyPost_ret (results_none rfl _ _ _) rfl ?_
                exact ⟨⟨_, rfl⟩, .inr ⟨_, hJx3⟩⟩
            · have HF : Hid (Free B base now p0 (nxo pre2) ((0 + 1) * B)) := Lib.hid (hfr2.out.late HGP.out hB0 hkB (by omega))
              have hle2 : nxo pre2 ≤ (0 + 1) * B := by omega
              have hnle : ¬ begN B base 0 k ≤ now := hle
              clear hbg hfr2 HNX2 HGP HPK
              gi_wp2_with fail
              go_roundw
              case rel => exact ⟨0 + 1, pre2, by omega, by go_num, hle2, HF, hJ3⟩
              case measure => simp [intOf]
      · skip
        have hv := hV _ _ hJ
        obtain ⟨rg, p, nn, cas, hB, hbu, hp⟩ := hv.st
        have hok := (hbu 1 (by omega)).ok
        have c1 := hv.bq.cell
        have c3 := hB.cell
        unfold rCells at c3
        have hnx := next_any (rg 1) 0 wr hok hv.tab
        have HNX : Hid (NX p0 1 B 0 ((rg 1).next 0)) := Lib.hid ((hbu 1 (by omega)).nx (c := 0) hB64 hp (by omega))
        unfold Bits.val pairV at hnx
        gi_wp2_with fail
        refine ⟨trivial, CallsIn.mono (callsIn_wide.2 hnx) ?_⟩
        rintro e W2 ⟨rfl, hx⟩
        have hJ2 := hJb _ _ _ hJ hx
        clear hnx hx c1 c3 hok hbu hp hB hv hJ
        generalize (rg 1).next 0 = o0 at *
        gi_wp2_with fail
        gi_loopw [5, 6] (fun x y wr2 => ∃ (c : Nat) (pre2 : List Nat) (o : Option Int), c ≤ B ∧ nxo pre2 ≤ 1 * B + c ∧ Hid (Free B base now p0 (nxo pre2) (1 * B + c)) ∧ x = .int .i64 (o.getD 0) ∧ y = .bool o.isSome ∧ Hid (NX p0 1 B c o) ∧ J pre2 wr2) (fun x y _ => mzN B x y)
        case atStart => exact ⟨0, pre, o0, Nat.zero_le _, hno, hfree, rfl, rfl, HNX, hJ2⟩
        case round =>
          clear hfree hno HNX hJ2
          obtain ⟨c, pre2, o, hc, hno2, hfr2, rfl, rfl, hnx2, hJ2⟩ := hrel
          rcases o with _ | x
          · simp only [Option.getD_none, Option.isSome_none]
            have HF : Hid (Free B base now p0 (nxo pre2) ((1 + 1) * B)) := Lib.hid (hfr2.out.rest (hnx2.out.none rfl))
            have hle2 : nxo pre2 ≤ (1 + 1) * B := by omega
            have hJ3 := hJd _ _ hJ2
            have hmix : Tryd.prog.follows .mixedOrders = true := by kernel_rfl
            clear hnx2 hfr2 hJ2
            gi_wp2_with fail
            refine wpIn_wide.2 ?_
            go_big_region_o
            clear hmix
            generalize wr.drew = wr3 at *
            gi_wp2_with fail
            go_roundw
            case rel => exact ⟨1 + 1, pre2, by omega, by go_num, hle2, HF, hJ3⟩
            case measure => simp [intOf]
          · obtain ⟨k, rfl, hck, hkB, hpk, hgap⟩ := hnx2.out.some x rfl
            simp only [Option.getD_some, Option.isSome_some]
            have hv2 := hV _ _ hJ2
            obtain ⟨rg2, p2, n2, cas2, hB2, hbu2, hp2⟩ := hv2.st
            have c1 := hv2.bq.cell
            have c2 := hv2.bn.cell
            have c3 := hB2.cell
            unfold rCells at c3
            have hbe := dbegin_u z hb 1 k (by omega) hkB
            have hbg := bgN_at (l := 1) hkB base
            have HNX2 := Lib.hid hnx2.out
            have HGP := Lib.hid hgap
            have HPK := Lib.hid hpk
            clear hbu2 hp2 hnx2 hgap hpk
            gi_wp2_with fail
            refine wpIn_wide.2 (still_all (by kernel_rfl) (by kernel_rfl) ?_)
            iterate 12 still_step
            still_call (flip (hbe _))
            repeat still_step
            refine wpStill_nil ?_
            have hJ3 := hJd _ _ hJ2
            clear hJ2 c1 c2 c3 hB2 hv2 hbe
            generalize wr.drew = w3 at *
            by_cases hle : begN B base 1 k ≤ now
            · have hG : Hid (BegG B base now p0 pre2 (1 * B + k)) := Lib.hid ⟨by omega, slot_lt hB0 (by omega) hkB, HPK.out, by rw [hbg]; exact hle, fun o' g1 g2 g3 => hfr2.out.pass HGP.out o' g1 g2 g3⟩
              obtain ⟨fn, tmps, assign, body, hy, hR⟩ := hY pre2 (1 * B + k) w3 hJ3 hG.out
              have HQ1 : (((1 * B + k) / B : Nat) : Int) = (1 : Int) := by rw [Nat.mul_comm, Nat.mul_add_div hB0, Nat.div_eq_of_lt hkB]; rfl
              have HQ2 : (1 * B + k) % B = k := by rw [Nat.mul_comm, Nat.mul_add_mod, Nat.mod_eq_of_lt hkB]
              rw [HQ1, HQ2] at hy
              clear HQ1 HQ2 hbg
              gi_wp2_with fail
              refine hR.mono ?_
              rintro e W3 (⟨rfl, hJ4⟩ | ⟨rfl, hJx3⟩)
              · have hv4' := hV _ _ hJ4
                obtain ⟨rg4, p4, n4, cas4, hB4, hbu4, hp4⟩ := hv4'.st
                have hok4 := (hbu4 1 (by omega)).ok
                have c1 := hv4'.bq.cell
                have c3 := hB4.cell
                unfold rCells at c3
                have hnx := next_any (rg4 1) ((k + 1 : Nat) : Int) W3 hok4 hv4'.tab
                have HNX4 : Hid (NX p0 1 B (k + 1) ((rg4 1).next ((k + 1 : Nat) : Int))) := Lib.hid ((hbu4 1 (by omega)).nx (c := k + 1) hB64 hp4 (by rw [nxo_snoc]; omega))
                have HK1 : ((k + 1 : Nat) : Int) = (k : Int) + 1 := by omega
                rw [HK1] at hnx HNX4
                unfold Bits.val pairV at hnx
                clear hle hR hy hbu4 hp4 HK1
                gi_wp2_with fail
                refine ⟨trivial, CallsIn.mono (callsIn_wide.2 hnx) ?_⟩
                rintro e W5 ⟨rfl, hx5⟩
                have hJ5 := hJb _ _ _ hJ4 hx5
                clear hnx hx5 c1 c3 hok4 hB4 hv4' hJ4
                generalize (rg4 1).next ((k : Int) + 1) = o4 at *
                gi_wp2_with fail
                go_roundw
                case rel => exact ⟨k + 1, pre2 ++ [1 * B + k], o4, by omega, by rw [nxo_snoc]; omega, Lib.hid (by rw [nxo_snoc]; exact fun o' g1 g2 _ => absurd g1 (by omega)), rfl, rfl, HNX4, hJ5⟩
                case measure =>
                  rcases o4 with _ | x4
                  · simp [mzN, intOf]; omega
                  · obtain ⟨k4, rfl, g1, g2, _⟩ := HNX4.out.some x4 rfl
                    simp [mzN, intOf]; omega
              · gi_wp2_with fail
                (try rw [Exit.noGoto_ret])
                refine bodyPost_ret (results_none rfl _ _ _) rfl ?_
                exact ⟨⟨_, rfl⟩, .inr ⟨_, hJx3⟩⟩
            · have HF : Hid (Free B base now p0 (nxo pre2) ((1 + 1) * B)) := Lib.hid (hfr2.out.late HGP.out hB0 hkB (by omega))
              have hle2 : nxo pre2 ≤ (1 + 1) * B := by omega
              have hnle : ¬ begN B base 1 k ≤ now := hle
              clear hbg hfr2 HNX2 HGP HPK
              gi_wp2_with fail
              go_roundw
              case rel => exact ⟨1 + 1, pre2, by omega, by go_num, hle2, HF, hJ3⟩
              case measure => simp [intOf]
      · skip
        have hv := hV _ _ hJ
        obtain ⟨rg, p, nn, cas, hB, hbu, hp⟩ := hv.st
        have hok := (hbu 2 (by omega)).ok
        have c1 := hv.bq.cell
        have c3 := hB.cell
        unfold rCells at c3
        have hnx := next_any (rg 2) 0 wr hok hv.tab
        have HNX : Hid (NX p0 2 B 0 ((rg 2).next 0)) := Lib.hid ((hbu 2 (by omega)).nx (c := 0) hB64 hp (by omega))
        unfold Bits.val pairV at hnx
        gi_wp2_with fail
        refine ⟨trivial, CallsIn.mono (callsIn_wide.2 hnx) ?_⟩
        rintro e W2 ⟨rfl, hx⟩
        have hJ2 := hJb _ _ _ hJ hx
        clear hnx hx c1 c3 hok hbu hp hB hv hJ
        generalize (rg 2).next 0 = o0 at *
        gi_wp2_with fail
        gi_loopw [5, 6] (fun x y wr2 => ∃ (c : Nat) (pre2 : List Nat) (o : Option Int), c ≤ B ∧ nxo pre2 ≤ 2 * B + c ∧ Hid (Free B base now p0 (nxo pre2) (2 * B + c)) ∧ x = .int .i64 (o.getD 0) ∧ y = .bool o.isSome ∧ Hid (NX p0 2 B c o) ∧ J pre2 wr2) (fun x y _ => mzN B x y)
        case atStart => exact ⟨0, pre, o0, Nat.zero_le _, hno, hfree, rfl, rfl, HNX, hJ2⟩
        case round =>
          clear hfree hno HNX hJ2
          obtain ⟨c, pre2, o, hc, hno2, hfr2, rfl, rfl, hnx2, hJ2⟩ := hrel
          rcases o with _ | x
          · simp only [Option.getD_none, Option.isSome_none]
            have HF : Hid (Free B base now p0 (nxo pre2) ((2 + 1) * B)) := Lib.hid (hfr2.out.rest (hnx2.out.none rfl))
            have hle2 : nxo pre2 ≤ (2 + 1) * B := by omega
            have hJ3 := hJd _ _ hJ2
            have hmix : Tryd.prog.follows .mixedOrders = true := by kernel_rfl
            clear hnx2 hfr2 hJ2
            gi_wp2_with fail
            refine wpIn_wide.2 ?_
            go_big_region_o
            clear hmix
            generalize wr.drew = wr3 at *
            gi_wp2_with fail
            go_roundw
            case rel => exact ⟨2 + 1, pre2, by omega, by go_num, hle2, HF, hJ3⟩
            case measure => simp [intOf]
          · obtain ⟨k, rfl, hck, hkB, hpk, hgap⟩ := hnx2.out.some x rfl
            simp only [Option.getD_some, Option.isSome_some]
            have hv2 := hV _ _ hJ2
            obtain ⟨rg2, p2, n2, cas2, hB2, hbu2, hp2⟩ := hv2.st
            have c1 := hv2.bq.cell
            have c2 := hv2.bn.cell
            have c3 := hB2.cell
            unfold rCells at c3
            have hbe := dbegin_u z hb 2 k (by omega) hkB
            have hbg := bgN_at (l := 2) hkB base
            have HNX2 := Lib.hid hnx2.out
            have HGP := Lib.hid hgap
            have HPK := Lib.hid hpk
            clear hbu2 hp2 hnx2 hgap hpk
            gi_wp2_with fail
            refine wpIn_wide.2 (still_all (by kernel_rfl) (by kernel_rfl) ?_)
            iterate 12 still_step
            still_call (flip (hbe _))
            repeat still_step
            refine wpStill_nil ?_
            have hJ3 := hJd _ _ hJ2
            clear hJ2 c1 c2 c3 hB2 hv2 hbe
            generalize wr.drew = w3 at *
            by_cases hle : begN B base 2 k ≤ now
            · have hG : Hid (BegG B base now p0 pre2 (2 * B + k)) := Lib.hid ⟨by omega, slot_lt hB0 (by omega) hkB, HPK.out, by rw [hbg]; exact hle, fun o' g1 g2 g3 => hfr2.out.pass HGP.out o' g1 g2 g3⟩
              obtain ⟨fn, tmps, assign, body, hy, hR⟩ := hY pre2 (2 * B + k) w3 hJ3 hG.out
              have HQ1 : (((2 * B + k) / B : Nat) : Int) = (2 : Int) := by rw [Nat.mul_comm, Nat.mul_add_div hB0, Nat.div_eq_of_lt hkB]; rfl
              have HQ2 : (2 * B + k) % B = k := by rw [Nat.mul_comm, Nat.mul_add_mod, Nat.mod_eq_of_lt hkB]
              rw [HQ1, HQ2] at hy
              clear HQ1 HQ2 hbg
              gi_wp2_with fail
              refine hR.mono ?_
              rintro e W3 (⟨rfl, hJ4⟩ | ⟨rfl, hJx3⟩)
              · have hv4' := hV _ _ hJ4
                obtain ⟨rg4, p4, n4, cas4, hB4, hbu4, hp4⟩ := hv4'.st
                have hok4 := (hbu4 2 (by omega)).ok
                have c1 := hv4'.bq.cell
                have c3 := hB4.cell
                unfold rCells at c3
                have hnx := next_any (rg4 2) ((k + 1 : Nat) : Int) W3 hok4 hv4'.tab
                have HNX4 : Hid (NX p0 2 B (k + 1) ((rg4 2).next ((k + 1 : Nat) : Int))) := Lib.hid ((hbu4 2 (by omega)).nx (c := k + 1) hB64 hp4 (by rw [nxo_snoc]; omega))
                have HK1 : ((k + 1 : Nat) : Int) = (k : Int) + 1 := by omega
                rw [HK1] at hnx HNX4
                unfold Bits.val pairV at hnx
                clear hle hR hy hbu4 hp4 HK1
                gi_wp2_with fail
                refine ⟨trivial, CallsIn.mono (callsIn_wide.2 hnx) ?_⟩
                rintro e W5 ⟨rfl, hx5⟩
                have hJ5 := hJb _ _ _ hJ4 hx5
                clear hnx hx5 c1 c3 hok4 hB4 hv4' hJ4
                generalize (rg4 2).next ((k : Int) + 1) = o4 at *
                gi_wp2_with fail
                go_roundw
                case rel => exact ⟨k + 1, pre2 ++ [2 * B + k], o4, by omega, by rw [nxo_snoc]; omega, Lib.hid (by rw [nxo_snoc]; exact fun o' g1 g2 _ => absurd g1 (by omega)), rfl, rfl, HNX4, hJ5⟩
                case measure =>
                  rcases o4 with _ | x4
                  · simp [mzN, intOf]; omega
                  · obtain ⟨k4, rfl, g1, g2, _⟩ := HNX4.out.some x4 rfl
                    simp [mzN, intOf]; omega
              · gi_wp2_with fail
                (try rw [Exit.noGoto_ret])
                refine bodyPost_ret (results_none rfl _ _ _) rfl ?_
                exact ⟨⟨_, rfl⟩, .inr ⟨_, hJx3⟩⟩
            · have HF : Hid (Free B base now p0 (nxo pre2) ((2 + 1) * B)) := Lib.hid (hfr2.out.late HGP.out hB0 hkB (by omega))
              have hle2 : nxo pre2 ≤ (2 + 1) * B := by omega
              have hnle : ¬ begN B base 2 k ≤ now := hle
              clear hbg hfr2 HNX2 HGP HPK
              gi_wp2_with fail
              go_roundw
              case rel => exact ⟨2 + 1, pre2, by omega, by go_num, hle2, HF, hJ3⟩
              case measure => simp [intOf]
      · skip
        have hv := hV _ _ hJ
        obtain ⟨rg, p, nn, cas, hB, hbu, hp⟩ := hv.st
        have hok := (hbu 3 (by omega)).ok
        have c1 := hv.bq.cell
        have c3 := hB.cell
        unfold rCells at c3
        have hnx := next_any (rg 3) 0 wr hok hv.tab
        have HNX : Hid (NX p0 3 B 0 ((rg 3).next 0)) := Lib.hid ((hbu 3 (by omega)).nx (c := 0) hB64 hp (by omega))
        unfold Bits.val pairV at hnx
        gi_wp2_with fail
        refine ⟨trivial, CallsIn.mono (callsIn_wide.2 hnx) ?_⟩
        rintro e W2 ⟨rfl, hx⟩
        have hJ2 := hJb _ _ _ hJ hx
        clear hnx hx c1 c3 hok hbu hp hB hv hJ
        generalize (rg 3).next 0 = o0 at *
        gi_wp2_with fail
        gi_loopw [5, 6] (fun x y wr2 => ∃ (c : Nat) (pre2 : List Nat) (o : Option Int), c ≤ B ∧ nxo pre2 ≤ 3 * B + c ∧ Hid (Free B base now p0 (nxo pre2) (3 * B + c)) ∧ x = .int .i64 (o.getD 0) ∧ y = .bool o.isSome ∧ Hid (NX p0 3 B c o) ∧ J pre2 wr2) (fun x y _ => mzN B x y)
        case atStart => exact ⟨0, pre, o0, Nat.zero_le _, hno, hfree, rfl, rfl, HNX, hJ2⟩
        case round =>
          clear hfree hno HNX hJ2
          obtain ⟨c, pre2, o, hc, hno2, hfr2, rfl, rfl, hnx2, hJ2⟩ := hrel
          rcases o with _ | x
          · simp only [Option.getD_none, Option.isSome_none]
            have HF : Hid (Free B base now p0 (nxo pre2) ((3 + 1) * B)) := Lib.hid (hfr2.out.rest (hnx2.out.none rfl))
            have hle2 : nxo pre2 ≤ (3 + 1) * B := by omega
            have hJ3 := hJd _ _ hJ2
            have hmix : Tryd.prog.follows .mixedOrders = true := by kernel_rfl
            clear hnx2 hfr2 hJ2
            gi_wp2_with fail
            refine wpIn_wide.2 ?_
            go_big_region_o
            clear hmix
            generalize wr.drew = wr3 at *
            gi_wp2_with fail
            go_roundw
            case rel => exact ⟨3 + 1, pre2, by omega, by go_num, hle2, HF, hJ3⟩
            case measure => simp [intOf]
          · obtain ⟨k, rfl, hck, hkB, hpk, hgap⟩ := hnx2.out.some x rfl
            simp only [Option.getD_some, Option.isSome_some]
            have hv2 := hV _ _ hJ2
            obtain ⟨rg2, p2, n2, cas2, hB2, hbu2, hp2⟩ := hv2.st
            have c1 := hv2.bq.cell
            have c2 := hv2.bn.cell
            have c3 := hB2.cell
            unfold rCells at c3
            have hbe := dbegin_u z hb 3 k (by omega) hkB
            have hbg := bgN_at (l := 3) hkB base
            have HNX2 := Lib.hid hnx2.out
            have HGP := Lib.hid hgap
            have HPK := Lib.hid hpk
            clear hbu2 hp2 hnx2 hgap hpk
            gi_wp2_with fail
            refine wpIn_wide.2 (still_all (by kernel_rfl) (by kernel_rfl) ?_)
            iterate 12 still_step
            still_call (flip (hbe _))
            repeat still_step
            refine wpStill_nil ?_
            have hJ3 := hJd _ _ hJ2
            clear hJ2 c1 c2 c3 hB2 hv2 hbe
            generalize wr.drew = w3 at *
            by_cases hle : begN B base 3 k ≤ now
            · have hG : Hid (BegG B base now p0 pre2 (3 * B + k)) := Lib.hid ⟨by omega, slot_lt hB0 (by omega) hkB, HPK.out, by rw [hbg]; exact hle, fun o' g1 g2 g3 => hfr2.out.pass HGP.out o' g1 g2 g3⟩
              obtain ⟨fn, tmps, assign, body, hy, hR⟩ := hY pre2 (3 * B + k) w3 hJ3 hG.out
              have HQ1 : (((3 * B + k) / B : Nat) : Int) = (3 : Int) := by rw [Nat.mul_comm, Nat.mul_add_div hB0, Nat.div_eq_of_lt hkB]; rfl
              have HQ2 : (3 * B + k) % B = k := by rw [Nat.mul_comm, Nat.mul_add_mod, Nat.mod_eq_of_lt hkB]
              rw [HQ1, HQ2] at hy
              clear HQ1 HQ2 hbg
              gi_wp2_with fail
              refine hR.mono ?_
              rintro e W3 (⟨rfl, hJ4⟩ | ⟨rfl, hJx3⟩)
              · have hv4' := hV _ _ hJ4
                obtain ⟨rg4, p4, n4, cas4, hB4, hbu4, hp4⟩ := hv4'.st
                have hok4 := (hbu4 3 (by omega)).ok
                have c1 := hv4'.bq.cell
                have c3 := hB4.cell
                unfold rCells at c3
                have hnx := next_any (rg4 3) ((k + 1 : Nat) : Int) W3 hok4 hv4'.tab
                have HNX4 : Hid (NX p0 3 B (k + 1) ((rg4 3).next ((k + 1 : Nat) : Int))) := Lib.hid ((hbu4 3 (by omega)).nx (c := k + 1) hB64 hp4 (by rw [nxo_snoc]; omega))
                have HK1 : ((k + 1 : Nat) : Int) = (k : Int) + 1 := by omega
                rw [HK1] at hnx HNX4
                unfold Bits.val pairV at hnx
                clear hle hR hy hbu4 hp4 HK1
                gi_wp2_with fail
                refine ⟨trivial, CallsIn.mono (callsIn_wide.2 hnx) ?_⟩
                rintro e W5 ⟨rfl, hx5⟩
                have hJ5 := hJb _ _ _ hJ4 hx5
                clear hnx hx5 c1 c3 hok4 hB4 hv4' hJ4
                generalize (rg4 3).next ((k : Int) + 1) = o4 at *
                gi_wp2_with fail
                go_roundw
                case rel => exact ⟨k + 1, pre2 ++ [3 * B + k], o4, by omega, by rw [nxo_snoc]; omega, Lib.hid (by rw [nxo_snoc]; exact fun o' g1 g2 _ => absurd g1 (by omega)), rfl, rfl, HNX4, hJ5⟩
                case measure =>
                  rcases o4 with _ | x4
                  · simp [mzN, intOf]; omega
                  · obtain ⟨k4, rfl, g1, g2, _⟩ := HNX4.out.some x4 rfl
                    simp [mzN, intOf]; omega
              · gi_wp2_with fail
                (try rw [Exit.noGoto_ret])
                refine bodyPost_ret (results_none rfl _ _ _) rfl ?_
                exact ⟨⟨_, rfl⟩, .inr ⟨_, hJx3⟩⟩
            · have HF : Hid (Free B base now p0 (nxo pre2) ((3 + 1) * B)) := Lib.hid (hfr2.out.late HGP.out hB0 hkB (by omega))
              have hle2 : nxo pre2 ≤ (3 + 1) * B := by omega
              have hnle : ¬ begN B base 3 k ≤ now := hle
              clear hbg hfr2 HNX2 HGP HPK
              gi_wp2_with fail
              go_roundw
              case rel => exact ⟨3 + 1, pre2, by omega, by go_num, hle2, HF, hJ3⟩
              case measure => simp [intOf]
    · obtain rfl : v = 4 := by omega
      have hfin : Hid (BegS B base now p0 pre) := Lib.hid (fun o' h1 h2 h3 => hfree.out o' h1 h2 h3)
      gi_wp2_with fail
      go_end0
      exact ⟨⟨_, rfl⟩, .inl ⟨pre, hfin.out, hJ⟩⟩
theorem beg_seq (n : Nat) (hn : 1 ≤ n) (q bq bn tb c P b B : Nat) (base now : Int) (p0 : Nat → Bool) (z : RSz P b B) (hb : U64 base) (hw : U64 now) (w : World) :
    SeqI Fence.wide n Tryd.prog 112 #[.pointer (some ⟨bq, 0, none⟩), .pointer (some ⟨bn, 0, none⟩)] (fun o : Nat => #[Value.int .i64 (o / B : Nat), Value.int .i64 (o % B : Nat)]) (BegV q bq bn tb c P b B base now p0) (BegG B base now p0) (BegS B base now p0) w :=
  fun l J Jx W _ hA _ hV hY h0 => beg1_in n hn l q bq bn tb c P b B base now p0 z hb hw J Jx (abides_drew hA) (abides_below hA) hV hY W h0
end Go.Proofs.YtckkfbepclogcaaDoor
namespace Go.Proofs.YtckkfbepclogcaaDoor
open Go.RowKit
theorem due_lens (m : List Timer) (now : Int) : (dueL m now true).length + (dueL m now false).length = m.length := by
  have := (due_perm m now).length_eq
  rwa [List.length_append] at this
theorem HQ.look_le {w : World} {q tb c nb P S : Nat} {base lk : Int} {m : List Timer} (h : HQ w q tb c nb P S base lk m) (z : HSz P S) (now : Int) : lookL m base S now ≤ m.length ∧ lookL m base S now ≤ spanN S base now := by
  obtain ⟨s, b, h1, h2, rfl⟩ := h.ex
  have hS : 0 < S := by have := z.hS; omega
  exact ⟨look_le_pend hS h1.ok h2 now, lookL_le_span m hS h1.ok h2 now⟩
attribute [local irreducible] Calls
set_option maxRecDepth 100000 in
set_option maxHeartbeats 4000000 in
theorem hlooks (P bits base now : Int) (A : Option Addr) (l : List Act) (c : Nat) (w : World) (hT : TabAt w) (hA : AcAt w w.heap.size A l) (ha : AcOk l) (hlen : l.length ≤ 2 ^ 63 - 1) (ub : U64 base) (un : U64 now) :
    Calls Tryd.prog 4 #[.int .i64 P, .int .i64 bits, .int .u64 base, .slice A l.length c, .int .u64 now] w fun e w' => e = .returned (.bool true) ∧ Below w.heap.size w w' := by
  have hw := hworks w hT
  go_enter Tryd.func4, Tryd.ntmps4
  go_wp2_with fail
  refine hw.mono ?_
  rintro e w1 ⟨rfl, hb⟩
  have hT1 := hT.below hb (glob_lt hT)
  have hA1 := hA.below hb (Nat.le_refl _)
  clear hw
  by_cases hl : 60 < l.length
  · have hl2 : (60 : Int) < l.length := by omega
    have HB := Lib.hid hb
    clear hA hA1 hb
    go_wp2_with fail
    go_ret
    exact ⟨rfl, HB.out⟩
  · have hl2 : ¬ (60 : Int) < l.length := by omega
    by_cases hok : NewOk P bits
    · obtain ⟨bn, rfl⟩ := Int.eq_ofNat_of_zero_le (show 0 ≤ bits by have := hok.2.2.1; omega)
      have hbn : bn ≤ 6 := by have := hok.2.2.2; omega
      have z := slotsN_ok hok
      have hn := hbuilt_ok P bn base A l c w1 hok (fun i hi => by obtain ⟨b, o, e, h1, h2⟩ := hA1 i hi; exact ⟨b, o, e, Nat.lt_of_lt_of_le h1 hb.size, h2⟩) ha ub (by omega) hT1
      have uA := baseA_u64 ub l ha
      clear hA hA1 ha
      go_wp2_with fail
      refine hn.mono ?_
      rintro e w2 ⟨q, tb, c2, nb, lk, rfl, hq, hx, g1, g2, g3, g4⟩
      have hsz := hb.size
      have hb2 := hb.trans (Below.mono hx hb.size)
      have hT2 := hT.below hb2 (glob_lt hT)
      generalize behindL P l = m at *
      generalize baseA base l = b at *
      have hmP := hq.len
      have h1 := z.hP
      have hln := hq_len q tb c2 nb P.toNat (slotsN bn) b lk m w2 hq
      have hba := hq_base q tb c2 nb P.toNat (slotsN bn) b lk m w2 hq
      have hdu := hq_due q tb c2 nb P.toNat (slotsN bn) b lk now m w2 hq z uA un hT2
      have hlens := due_lens m now
      have hlk0 := hq.look_le z now
      clear hn hx hq hb hT2 hT1
      go_wp2_with fail
      refine hln.mono ?_
      rintro e wx ⟨rfl, rfl⟩
      go_wp2_with fail
      refine hba.mono ?_
      rintro e wx ⟨rfl, rfl⟩
      go_wp2_with fail
      refine hdu.mono ?_
      rintro e w3 ⟨v, rfl, ho, hq, hx⟩
      have hb3 := below_chg hb2 (Nat.le_refl _) hx (fun i e => by unfold HS at e; omega)
      obtain ⟨A3, c3, rfl, _⟩ := ho.at
      have hlk := hq_looked q tb c2 nb P.toNat (slotsN bn) _ _ _ w3 hq
      have hln := hq_len q tb c2 nb P.toNat (slotsN bn) _ _ _ w3 hq
      have hba := hq_base q tb c2 nb P.toNat (slotsN bn) _ _ _ w3 hq
      have HB := Lib.hid hb3
      clear hb2 hb3 hx hq ho hdu g1 g2 g3 g4
      obtain ⟨k1, k2⟩ := hlk0
      unfold spanN at k2
      generalize hk : lookL m b (slotsN bn) now = k at *
      generalize (dueL m now true).length = nd at *
      generalize (dueL m now false).length = nr at *
      have hk' := Lib.hid hk
      have i1 : ¬ ((k : Int) < 0) := by omega
      have i2 : ¬ ((m.length : Int) < (k : Int)) := by omega
      have i3 : IntKind.i64.wrap ((m.length : Int) - (nd : Int)) = (nr : Int) := by rw [IntWalk.i64_in _ (by omega)]; omega
      go_wp2_with fail
      refine hlk.mono ?_
      rintro e wx ⟨rfl, rfl⟩
      go_wp2_with fail
      refine hln.mono ?_
      rintro e wx ⟨rfl, rfl⟩
      by_cases hnb : now ≤ b
      · have hk0 : k = 0 := by rw [← hk'.out]; unfold lookL; rw [if_pos hnb]
        subst hk0
        have hmx : max b now = b := by omega
        rw [hmx] at hba
        clear hlk hln hlens k1 k2 hk
        go_wp2_with fail
        refine hba.mono ?_
        rintro e wx ⟨rfl, rfl⟩
        go_wp2_with fail
        go_ret
        exact ⟨rfl, HB.out⟩
      · have hmx : max b now = now := by omega
        rw [hmx] at hba
        rw [if_neg hnb] at k2
        have hsl := rslots_any bn w3 hbn
        have hS6 : slotsN bn ≤ 256 := slots_small bn bn (Nat.le_refl _) hbn
        have j1 : IntKind.u64.wrap (k : Int) = (k : Int) := IntWalk.u64_in _ (by omega)
        have j2 : IntKind.u64.wrap (now - b) = now - b := IntWalk.u64_in _ (by unfold U64 at *; omega)
        have j3 : (k : Int) ≤ now - b := by omega
        have j4 : (k : Int) ≤ (slotsN bn : Nat) := by omega
        clear hlk hln hlens k1 hk k2 ub uA un
        go_wp2_with fail
        refine hsl.mono ?_
        rintro e wx ⟨rfl, rfl⟩
        generalize slotsN bn = S at *
        go_wp2_with fail
        refine hba.mono ?_
        rintro e wx ⟨rfl, rfl⟩
        go_wp2_with fail
        go_ret
        exact ⟨rfl, HB.out⟩
    · have hn := hbuilt_bad P bits base A l.length c w1 hok (by omega)
      have HB := Lib.hid hb
      clear hok hA hA1 hb ha
      go_wp2_with fail
      refine hn.mono ?_
      rintro e w2 ⟨rfl, rfl⟩
      unfold nilE
      go_wp2_with fail
      go_ret
      exact ⟨rfl, HB.out⟩
end Go.Proofs.YtckkfbepclogcaaDoor
namespace Go.Proofs.YtckkfbepclogcaaDoor
open Go.RowKit
def FS (g B q : Nat) (t : Timer) (j : Nat) (v : Value) (w : World) : Prop := match j with
  | 0 => v = .pointer (some ⟨q, 0, none⟩)
  | 1 => v = .pointer (some ⟨g, 0, none⟩)
  | 2 => v = .int .u64 t.at_
  | 3 => LF B w v [t]
  | 4 => v = tv t
  | _ => LF B w v [t]
theorem FS.keep {g B q tb nb : Nat} {t : Timer} (h1 : q < B) (h2 : tb < B) (h3 : nb < B) (i j : Nat) (v : Value) (w w' : World) (_ : j ≠ i) (h : FS g B q t j v w) (r : Chg (HS q tb nb) w w') : FS g B q t j v w' := by
  unfold FS at h ⊢
  split at h
  · exact h
  · exact h
  · exact h
  · exact h.chg r (hs_lt h1 h2 h3)
  · exact h
  · exact h.chg r (hs_lt h1 h2 h3)
structure SS (g B q tb c nb n S : Nat) (t : Timer) (b lk : Int) (w0 : World) (p : Nat → Bool) (w : World) : Prop where
  k : Blk w g 37 #[.int .u64 t.at_, .int .u64 t.seq, .int .i64 t.place]
  q0 : p 3 = false → HQ w q tb c nb n S b lk [t]
  q1 : p 3 = true → ∃ b' lk', HQ w q tb c nb n S b' lk' []
  size : B ≤ w.heap.size
  below : Below w0.heap.size w0 w
  tab : TabAt w
/-- Where the wheel's blocks lie. -/
structure QL (g : Nat) (w0 : World) (q tb c nb : Nat) : Prop where
  lg : w0.heap.size ≤ g
  lq : g < q
  lt : g < tb
  lc : g < c
  ln : g < nb
theorem QL.out {g q tb c nb : Nat} {w0 : World} (h : QL g w0 q tb c nb) {i : Nat} (hi : i ≤ g) : ¬ HS q tb nb i := fun e => by
  have := h.lq; have := h.lt; have := h.ln
  unfold HS at e
  omega
theorem SS.quiet {g B q tb c nb n S : Nat} {t : Timer} {b lk : Int} {w0 w w' : World} {p : Nat → Bool} (i : Nat) (h : SS g B q tb c nb n S t b lk w0 p w) (r : Below w.heap.size w w') (hi : i ≠ 3) : SS g B q tb c nb n S t b lk w0 (also p i) w' := by
  have e : also p i 3 = p 3 := also_ne p (fun x => hi x.symm)
  refine ⟨h.k.below r h.k.lt, fun x => (h.q0 (e ▸ x)).below r, fun x => ?_, Nat.le_trans h.size r.size, h.below.trans (Below.mono r h.below.size), h.tab.below r (glob_lt h.tab)⟩
  obtain ⟨b', lk', y⟩ := h.q1 (e ▸ x)
  exact ⟨b', lk', y.below r⟩
theorem due_one (t : Timer) : dueL [t] t.at_ true = [t] ∧ dueL [t] t.at_ false = [] := by simp [dueL]
theorem due_soon (t : Timer) {now : Int} (h : now < t.at_) : dueL [t] now true = [] ∧ dueL [t] now false = [t] := by simp [dueL]; omega
theorem SS.due {g B q tb c nb n S : Nat} {t : Timer} {b lk : Int} {w0 w : World} {p : Nat → Bool} (hT : TabAt w0) (hl : QL g w0 q tb c nb) (z : HSz n S) (h : SS g B q tb c nb n S t b lk w0 p w) (hp : p 3 = false) (ub : U64 b) (ut : U64 t.at_) :
    Calls Tryd.prog 28 #[.pointer (some ⟨q, 0, none⟩), .int .u64 t.at_] w fun e w' => ∃ v, e = .returned v ∧ LF B w' v [t] ∧ Chg (HS q tb nb) w w' ∧ (false = true → Frsh v w w') ∧ SS g B q tb c nb n S t b lk w0 (also p 3) w' := by
  refine (hq_due q tb c nb n S b lk t.at_ [t] w (h.q0 hp) z ub ut h.tab).mono ?_
  rintro e w' ⟨v, rfl, ho, hq, hk⟩
  rw [(due_one t).1] at ho
  rw [(due_one t).2] at hq
  have hg := glob_lt hT
  have l0 := hl.lg
  refine ⟨v, rfl, ho.lf.mono h.size, hk, (fun h => by cases h), h.k.chg hk (hl.out (Nat.le_refl _)), fun x => ?_, fun _ => ⟨_, _, hq⟩, Nat.le_trans h.size hk.size, below_chg h.below (Nat.le_refl _) hk (fun i e => ?_), h.tab.chg hk (hl.out (by omega))⟩
  · rw [also_at] at x
    cases x
  · rcases Nat.lt_or_ge i w0.heap.size with hlt | hge
    · exact absurd e (hl.out (by omega))
    · exact hge
attribute [local irreducible] Calls
set_option maxRecDepth 100000 in
set_option maxHeartbeats 4000000 in
theorem hsoon (P bits base on : Int) (t : Timer) (w : World) (hT : TabAt w) (ub : U64 base) (ut : U64 t.at_) (uo : U64 on) :
    Calls Tryd.prog 5 #[.int .i64 P, .int .i64 bits, .int .u64 base, t.val, .int .u64 on] w fun e w' => e = .returned (.bool true) ∧ Below w.heap.size w w' := by
  have hb0 := alloc_kept' w (.cells #[.int .u64 t.at_, .int .u64 t.seq, .int .i64 t.place] 37)
  have hk0 : Blk (w.alloc (.cells #[.int .u64 t.at_, .int .u64 t.seq, .int .i64 t.place] 37)) w.heap.size 37 #[.int .u64 t.at_, .int .u64 t.seq, .int .i64 t.place] := Blk.new _ _ _
  have hw := hworks (w.alloc (.cells #[.int .u64 t.at_, .int .u64 t.seq, .int .i64 t.place] 37)) (hT.below hb0 (glob_lt hT))
  unfold Timer.val
  go_enter Tryd.func5, Tryd.ntmps5
  go_wp2_with fail
  refine hw.mono ?_
  rintro e w1 ⟨rfl, hx⟩
  have hk := hk0.below hx hk0.lt
  have hb := hb0.trans (Below.mono hx hb0.size)
  have hlt := hk.lt
  clear hw hk0 hb0 hx
  by_cases hok : NewOk P bits
  · have hn := hnew_ok P bits base w1 hok
    have z := slotsN_ok hok
    go_wp2_with fail
    refine hn.mono ?_
    rintro e w2 ⟨q, tb, c, nb, rfl, hq, hx, g1, g2, g3, g4⟩
    replace hk := hk.below hx hlt
    replace hb := hb.trans (Below.mono hx hb.size)
    have hl : QL w.heap.size w q tb c nb := ⟨Nat.le_refl _, by omega, by omega, by omega, by omega⟩
    have hin := hq_ins q tb c nb P.toNat (slotsN bits) base 0 [] t w2 hq z ub ut
    unfold Timer.val at hin
    have hc2 := hk.cell
    clear hn hx g1 g2 g3 g4 hlt hq
    go_wp2_with fail
    refine hin.mono ?_
    rintro e w3 ⟨rfl, hq, hx⟩
    clear hc2
    replace hk := hk.chg hx (hl.out (Nat.le_refl _))
    replace hb := below_chg hb (Nat.le_refl _) hx (fun i e => (by
      rcases Nat.lt_or_ge i w.heap.size with hlt | hge
      · exact absurd e (hl.out (by have := hl.lg; omega))
      · exact hge))
    have hT1 := hT.below hb (glob_lt hT)
    have hc3 := hk.cell
    have hlt := hk.lt
    clear hx hin
    by_cases hc : insC P.toNat [] t = 0
    · have e2 : insL P.toNat [] t = [t] := by unfold insL; rw [if_pos hc]; rfl
      rw [e2] at hq
      rw [hc]
      clear e2 hc
      by_cases hon : on < t.at_
      · have hdu := hq_due q tb c nb P.toNat (slotsN bits) base 0 on [t] w3 hq z ub uo hT1
        rw [(due_soon t hon).1, (due_soon t hon).2] at hdu
        have hs := due_soon t (show t.at_ - 1 < t.at_ by omega)
        have um : U64 (max base on) := by unfold U64 at *; omega
        have ut1 : U64 (t.at_ - 1) := by unfold U64 at *; omega
        have ew : IntKind.u64.wrap (t.at_ - 1) = t.at_ - 1 := IntWalk.u64_in _ (by unfold U64 at *; omega)
        clear hq
        go_wp2_with fail
        refine hdu.mono ?_
        rintro e w4 ⟨v4, rfl, ho4, hq, hx⟩
        obtain ⟨A4, c4, rfl, _⟩ := ho4.at
        clear hc3 hT1 hlt hdu ho4
        replace hk := hk.chg hx (hl.out (Nat.le_refl _))
        replace hb := below_chg hb (Nat.le_refl _) hx (fun i e => (by
          rcases Nat.lt_or_ge i w.heap.size with hlt | hge
          · exact absurd e (hl.out (by have := hl.lg; omega))
          · exact hge))
        have hT1 := hT.below hb (glob_lt hT)
        have hc3 := hk.cell
        have hlt := hk.lt
        have hdu := hq_due q tb c nb P.toNat (slotsN bits) (max base on) (lookL [t] base (slotsN bits) on : Nat) (t.at_ - 1) [t] w4 hq z um ut1 hT1
        rw [hs.1, hs.2] at hdu
        have um2 : U64 (max (max base on) (t.at_ - 1)) := by unfold U64 at *; omega
        clear hs hx hq
        generalize (lookL [t] base (slotsN bits) on : Nat) = lk1 at *
        go_wp2_with fail
        refine hdu.mono ?_
        rintro e w5 ⟨v5, rfl, ho5, hq, hx⟩
        obtain ⟨A5, c5, rfl, _⟩ := ho5.at
        clear hc3 hT1 hlt hdu ho5
        replace hk := hk.chg hx (hl.out (Nat.le_refl _))
        replace hb := below_chg hb (Nat.le_refl _) hx (fun i e => (by
          rcases Nat.lt_or_ge i w.heap.size with hlt | hge
          · exact absurd e (hl.out (by have := hl.lg; omega))
          · exact hge))
        have hT1 := hT.below hb (glob_lt hT)
        have hc3 := hk.cell
        have hlt := hk.lt
        generalize (lookL [t] (max base on) (slotsN bits) (t.at_ - 1) : Nat) = lk2 at *
        generalize max (max base on) (t.at_ - 1) = b2 at *
        have hln : Calls Tryd.prog 20 #[.pointer (some ⟨q, 0, none⟩)] w5 (fun e w' => e = .returned (.int .i64 1) ∧ w5 = w') := hq_len q tb c nb P.toNat (slotsN bits) b2 lk2 [t] w5 hq
        clear hx
        go_wp2_with fail
        refine hln.mono ?_
        rintro e wx ⟨rfl, rfl⟩
        clear hln
        go_upto_region 15 with fail
        clear hc3
        have l5 := hq.lts
        obtain ⟨l5, l6, l7, l8⟩ := l5
        have hs0 : SS w.heap.size w5.heap.size q tb c nb P.toNat (slotsN bits) t b2 lk2 w (fun _ => false) w5.drew := ⟨hk.drew, fun _ => hq.drew, (fun h => by cases h), Nat.le_refl _, hb.drew, hT1.below (Below.refl _ _).drew (glob_lt hT1)⟩
        clear hq hk hb hT1
        generalize hB : w5.heap.size = B at *
        have HB := Lib.hid hB
        clear hB
        refine region_facts_set 6 (fun _ => false) (FS w.heap.size B q t) (SS w.heap.size B q tb c nb P.toNat (slotsN bits) t b2 lk2 w) (fun _ x y => Chg (HS q tb nb) x y) (List.range' 77 6 ++ []) (by kernel_rfl) (by kernel_rfl) (by kernel_rfl) (by decide) (by kernel_rfl) (by kernel_rfl) (FS.keep l5 l6 l8) (fun _ _ _ h => h.size) hs0 ?_ ?_
        · intro fr hfr
          have f1 : fr.getD 12 undef = .pointer (some ⟨q, 0, none⟩) := by rw [hfr]; rfl
          have f3 : fr.getD 8 undef = .pointer (some ⟨w.heap.size, 0, none⟩) := by rw [hfr]; rfl
          clear hfr
          iterate 6
            refine ⟨⟨trivial, ?_⟩, ?_⟩
            · intro ρ w' p hp hdq hρ hd hS
              simp only [DepF, Region.binds, dat, Nat.reduceLT, Nat.reduceAdd, FS, tv, forall_const, and_true] at hd
              have hcon := hρ.con
              have e1 := (hρ.slot 12 (by kernel_rfl)).trans f1
              have e3 := (hρ.slot 8 (by kernel_rfl)).trans f3
              have hc1 := hS.k.cell
              (try rw [execOp_call_fn _ _ _ _ _ _ _ _ _ (hρ.fn _)])
              go_simp
              (try simp only [GoodQ, FS])
              first
                | exact ⟨rfl, Chg.refl _ _, fun h => absurd h (by decide), hS.quiet _ (Below.refl _ _) (by decide)⟩
                | exact ⟨trivial, Chg.refl _ _, fun h => absurd h (by decide), hS.quiet _ (Below.refl _ _) (by decide)⟩
                | exact ⟨LF.built B w' [t] (by simp [maxLen]) (by simp) hS.size, (Chg.refl _ _).alloc _, fun h => absurd h (by decide), hS.quiet _ (alloc_kept' _ _) (by decide)⟩
                | exact hS.due hT hl z hp (by assumption) ut
          trivial
        · intro vs wa hs hF _
          have h1 : LF B wa (vs 3) [t] := hF 3 (by decide)
          have h3 : LF B wa (vs 5) [t] := hF 5 (by decide)
          have hsm := same_refl (vs 3) (vs 5) _ wa h1.at_ h3.at_ (by simp)
          obtain ⟨b', lk', hqa⟩ := hs.q1 (by decide)
          have hba := hs.below
          clear hF h1 h3 hs0 hs
          simp only [List.range'_succ, List.range'_zero, List.append_nil, setAll, List.setIfInBounds_toArray, List.set_cons_zero, List.set_cons_succ, Nat.reduceAdd]
          simp only [List.drop_succ_cons, List.drop_zero]
          go_wp2_with fail
          refine hsm.mono ?_
          rintro e wb ⟨rfl, hx⟩
          have hln : Calls Tryd.prog 20 #[.pointer (some ⟨q, 0, none⟩)] wb (fun e w' => e = .returned (.int .i64 0) ∧ wb = w') := hq_len q tb c nb P.toNat (slotsN bits) b' lk' [] wb (hqa.below hx)
          have HK := Lib.hid (hba.trans (Below.mono hx hba.size))
          clear hsm hx hqa hba
          go_wp2_with fail
          refine hln.mono ?_
          rintro e wx ⟨rfl, rfl⟩
          go_wp2_with fail
          go_ret
          exact ⟨rfl, HK.out⟩
      · go_upto_region 15 with fail
        clear hc3
        have l5 := hq.lts
        obtain ⟨l5, l6, l7, l8⟩ := l5
        have hs0 : SS w.heap.size w3.heap.size q tb c nb P.toNat (slotsN bits) t base 0 w (fun _ => false) w3.drew := ⟨hk.drew, fun _ => hq.drew, (fun h => by cases h), Nat.le_refl _, hb.drew, hT1.below (Below.refl _ _).drew (glob_lt hT1)⟩
        clear hq hk hb hT1
        generalize hB : w3.heap.size = B at *
        have HB := Lib.hid hB
        clear hB
        refine region_facts_set 6 (fun _ => false) (FS w.heap.size B q t) (SS w.heap.size B q tb c nb P.toNat (slotsN bits) t base 0 w) (fun _ x y => Chg (HS q tb nb) x y) (List.range' 77 6 ++ []) (by kernel_rfl) (by kernel_rfl) (by kernel_rfl) (by decide) (by kernel_rfl) (by kernel_rfl) (FS.keep l5 l6 l8) (fun _ _ _ h => h.size) hs0 ?_ ?_
        · intro fr hfr
          have f1 : fr.getD 12 undef = .pointer (some ⟨q, 0, none⟩) := by rw [hfr]; rfl
          have f3 : fr.getD 8 undef = .pointer (some ⟨w.heap.size, 0, none⟩) := by rw [hfr]; rfl
          clear hfr
          iterate 6
            refine ⟨⟨trivial, ?_⟩, ?_⟩
            · intro ρ w' p hp hdq hρ hd hS
              simp only [DepF, Region.binds, dat, Nat.reduceLT, Nat.reduceAdd, FS, tv, forall_const, and_true] at hd
              have hcon := hρ.con
              have e1 := (hρ.slot 12 (by kernel_rfl)).trans f1
              have e3 := (hρ.slot 8 (by kernel_rfl)).trans f3
              have hc1 := hS.k.cell
              (try rw [execOp_call_fn _ _ _ _ _ _ _ _ _ (hρ.fn _)])
              go_simp
              (try simp only [GoodQ, FS])
              first
                | exact ⟨rfl, Chg.refl _ _, fun h => absurd h (by decide), hS.quiet _ (Below.refl _ _) (by decide)⟩
                | exact ⟨trivial, Chg.refl _ _, fun h => absurd h (by decide), hS.quiet _ (Below.refl _ _) (by decide)⟩
                | exact ⟨LF.built B w' [t] (by simp [maxLen]) (by simp) hS.size, (Chg.refl _ _).alloc _, fun h => absurd h (by decide), hS.quiet _ (alloc_kept' _ _) (by decide)⟩
                | exact hS.due hT hl z hp (by assumption) ut
          trivial
        · intro vs wa hs hF _
          have h1 : LF B wa (vs 3) [t] := hF 3 (by decide)
          have h3 : LF B wa (vs 5) [t] := hF 5 (by decide)
          have hsm := same_refl (vs 3) (vs 5) _ wa h1.at_ h3.at_ (by simp)
          obtain ⟨b', lk', hqa⟩ := hs.q1 (by decide)
          have hba := hs.below
          clear hF h1 h3 hs0 hs
          simp only [List.range'_succ, List.range'_zero, List.append_nil, setAll, List.setIfInBounds_toArray, List.set_cons_zero, List.set_cons_succ, Nat.reduceAdd]
          simp only [List.drop_succ_cons, List.drop_zero]
          go_wp2_with fail
          refine hsm.mono ?_
          rintro e wb ⟨rfl, hx⟩
          have hln : Calls Tryd.prog 20 #[.pointer (some ⟨q, 0, none⟩)] wb (fun e w' => e = .returned (.int .i64 0) ∧ wb = w') := hq_len q tb c nb P.toNat (slotsN bits) b' lk' [] wb (hqa.below hx)
          have HK := Lib.hid (hba.trans (Below.mono hx hba.size))
          clear hsm hx hqa hba
          go_wp2_with fail
          refine hln.mono ?_
          rintro e wx ⟨rfl, rfl⟩
          go_wp2_with fail
          go_ret
          exact ⟨rfl, HK.out⟩
    · have e2 : insL P.toNat [] t = [] := by unfold insL; rw [if_neg hc]
      rw [e2] at hq
      have hln : Calls Tryd.prog 20 #[.pointer (some ⟨q, 0, none⟩)] w3 (fun e w' => e = .returned (.int .i64 0) ∧ w3 = w') := hq_len q tb c nb P.toNat (slotsN bits) base 0 [] w3 hq
      have hc2 : (insC P.toNat [] t != 0) = true := by rw [bne_iff_ne]; exact hc
      generalize insC P.toNat [] t = x at *
      have HK := Lib.hid hb
      clear hq e2 hc
      go_wp2_with fail
      refine hln.mono ?_
      rintro e wx ⟨rfl, rfl⟩
      clear hln
      go_wp2_with fail
      go_ret
      exact ⟨rfl, HK.out⟩
  · have hn := hnew_bad P bits base w1 hok
    have HB := Lib.hid hb
    clear hok
    go_wp2_with fail
    refine hn.mono ?_
    rintro e w2 ⟨rfl, rfl⟩
    unfold nilE
    go_wp2_with fail
    go_ret
    exact ⟨rfl, HB.out⟩
end Go.Proofs.YtckkfbepclogcaaDoor
