/- The law: the texts Half, laid end to end by a program. -/
import Derived.Test.YtpbepmipfjcjbaaPcZip
import Derived.Test.YtpbepmipfjcjbaaPcCut
namespace Go.Proofs.Ytpbepmipfjcjbaa
open Go.RowKit
/-- A list of lists of timers lies at P. -/
def LL (w : World) (P : Option Addr) (L : List (List Timer)) : Prop := ∀ i (h : i < L.length), ∃ b o v, P = some ⟨b, o, none⟩ ∧ b < w.heap.size ∧ w.cell? ⟨b, o + i, none⟩ = some v ∧ LW w v L[i]
theorem LL.on {x y : World} {P : Option Addr} {L : List (List Timer)} (h : LL x P L) (k : Below x.heap.size x y) : LL y P L := by
  intro i hi
  obtain ⟨b, o, v, rfl, hb, hc, hl⟩ := h i hi
  exact ⟨b, o, v, rfl, Nat.lt_of_lt_of_le hb k.size, (World.cell?_of_block (a := ⟨b, o + i, none⟩) (k.block b hb)).trans hc, hl.on k⟩
theorem LL.take {w : World} {P : Option Addr} {L : List (List Timer)} (h : LL w P L) (n : Nat) : LL w P (L.take n) := by
  intro i hi
  have hi2 : i < L.length := by simp at hi; omega
  obtain ⟨b, o, v, e, hb, hc, hl⟩ := h i hi2
  exact ⟨b, o, v, e, hb, hc, by simpa using hl⟩
theorem LL.drop {w : World} {b o : Nat} {L : List (List Timer)} (h : LL w (some ⟨b, o, none⟩) L) (n : Nat) : LL w (some ⟨b, o + n, none⟩) (L.drop n) := by
  intro i hi
  have hi2 : n + i < L.length := by simp at hi; omega
  obtain ⟨b', o', v, e, hb, hc, hl⟩ := h (n + i) hi2
  injection e with e
  injection e with e1 e2
  subst e1 e2
  exact ⟨b, o + n, v, rfl, hb, by rw [Nat.add_assoc]; exact hc, by simpa using hl⟩
def hV (hb : Nat) : Value := .func (.func 43) #[] #[.pointer (some ⟨hb, 0, none⟩)]
structure SHf (P : Option Addr) (L : List (List Timer)) (hb : Nat) (w w' : World) : Prop where
  ll : LL w' P L
  box : Blk w' hb 90 #[hV hb]
  below : Below w.heap.size w w'
theorem SHf.kept {P : Option Addr} {L : List (List Timer)} {hb : Nat} {w x y : World} (h : SHf P L hb w x) (k : Below x.heap.size x y) : SHf P L hb w y :=
  ⟨h.ll.on k, h.box.below k h.box.lt, h.below.trans (Below.mono k h.below.size)⟩
def FHf (P : Option Addr) (L : List (List Timer)) (c : Nat) (b o : Nat) (hb B k : Nat) : Nat → Value → World → Prop := fun j v w => match j with
  | 0 => v = hV hb
  | 1 => v = .slice P L.length c
  | 2 => v = .slice P L.length c
  | 3 => v = .int .i64 L.length
  | 4 => v = .int .i64 k
  | 5 => v = .slice P (k) c
  | 6 => OwnT w B v (sortL (L.take (k)).flatten)
  | 7 => v = hV hb
  | 8 => v = .slice P L.length c
  | 9 => v = .slice P L.length c
  | 10 => v = .int .i64 L.length
  | 11 => v = .int .i64 k
  | 12 => v = .slice (some ⟨b, o + k, none⟩) (L.length - k) (c - k)
  | _ => OwnT w B v (sortL (L.drop (k)).flatten)
theorem FHf.keep (P : Option Addr) (L : List (List Timer)) (c : Nat) (b o : Nat) (hb B k : Nat) (j : Nat) (v : Value) (w w' : World) (h : FHf P L c b o hb B k j v w) (r : Below w.heap.size w w') : FHf P L c b o hb B k j v w' := by
  unfold FHf at h ⊢
  split at h
  iterate 6 exact h
  · exact h.below r (Nat.le_refl _)
  iterate 6 exact h
  · exact h.below r (Nat.le_refl _)
theorem flat_split (L : List (List Timer)) (n : Nat) : (L.take n).flatten ++ (L.drop n).flatten = L.flatten := by rw [← List.flatten_append, List.take_append_drop]
theorem half_law (L : List (List Timer)) (n : Nat) : mrg (sortL (L.take n).flatten) (sortL (L.drop n).flatten) = sortL L.flatten := by
  rw [mrg_sort (sortL_srt _) (sortL_srt _)]
  refine sortL_congr ?_
  rw [← flat_split L n]
  exact (sortL_perm _).append (sortL_perm _)
attribute [local irreducible] Calls
set_option maxRecDepth 100000 in
set_option maxHeartbeats 4000000 in
theorem half_any (N : Nat) : ∀ (L : List (List Timer)) (P : Option Addr) (c hb : Nat) (w : World), L.length = N → (∀ l ∈ L, Srt l) → L.flatten.length ≤ 1000000 → L.length ≤ c → c ≤ maxLen → L.length ≤ 1000000 → LL w P L → Blk w hb 90 #[hV hb] →
    Calls Try.prog 43 #[.slice P L.length c, .pointer (some ⟨hb, 0, none⟩)] w fun e w' => ∃ v', e = .returned v' ∧ OwnT w' w.heap.size v' (sortL L.flatten) ∧ Below w.heap.size w w' := by
  induction N using Nat.strongRecOn with
  | ind N ih =>
    intro L P c hb w hN hs hfl hc hm hLl hLL hbx
    subst hN
    by_cases h0 : L.length = 0
    · obtain rfl : L = [] := List.eq_nil_of_length_eq_zero h0
      clear ih
      go_enter Try.func43, Try.ntmps43
      go_wp2
      go_ret
      exact ⟨_, rfl, OwnT.nil _ _, Below.refl _ _⟩
    by_cases h1 : L.length = 1
    · obtain ⟨l, rfl⟩ := List.length_eq_one_iff.1 h1
      obtain ⟨b, o, v, rfl, hbw, hcl, hla⟩ := hLL 0 (by simp)
      have hsl := hs l (by simp)
      have hl0 : l.length ≤ 1000000 := by simpa using hfl
      have HR := Lib.hid (show sortL [l].flatten = l from by simpa using hsl.sort_self)
      have hcon := clone_any v l w hla (by omega)
      simp only [Nat.add_zero] at hcl
      clear ih hla hs
      go_enter Try.func43, Try.ntmps43
      go_wp2_with fail
      refine hcon.mono ?_
      rintro e w1 ⟨v1, rfl, ho, hx⟩
      clear hcon
      go_wp2_with fail
      go_ret
      exact ⟨_, rfl, by rw [HR.out]; exact ho, hx⟩
    obtain ⟨b, o, v0, rfl, hbw, hc00, hl00⟩ := hLL 0 (by omega)
    clear hc00 hl00
    obtain ⟨k, hk⟩ : ∃ k, k = L.length / 2 := ⟨_, rfl⟩
    have hk1 : 1 ≤ k := by omega
    have hk2 : k < L.length := by omega
    have hlt : (L.take (k)).length = k := by simp; omega
    have hld : (L.drop (k)).length = L.length - k := by simp
    have hf1 : (L.take (k)).flatten.length ≤ 1000000 ∧ (L.drop (k)).flatten.length ≤ 1000000 ∧ (L.take (k)).flatten.length + (L.drop (k)).flatten.length ≤ 1000000 := by
      have := congrArg List.length (flat_split L (k))
      rw [List.length_append] at this
      omega
    have IH1 := Lib.hid (fun (w' : World) (h1 : LL w' (some ⟨b, o, none⟩) L) (h2 : Blk w' hb 90 #[hV hb]) => by
      have := ih (k) (by omega) (L.take (k)) (some ⟨b, o, none⟩) c hb w' hlt (fun l hl => hs l (List.mem_of_mem_take hl)) hf1.1 (by omega) hm (by omega) (h1.take _) h2
      rw [hlt] at this
      exact this)
    have IH2 := Lib.hid (fun (w' : World) (h1 : LL w' (some ⟨b, o, none⟩) L) (h2 : Blk w' hb 90 #[hV hb]) => by
      have := ih (L.length - k) (by omega) (L.drop (k)) (some ⟨b, o + k, none⟩) (c - k) hb w' hld (fun l hl => hs l (List.mem_of_mem_drop hl)) hf1.2.1 (by omega) (by omega) (by omega) (h1.drop _) h2
      rw [hld] at this
      exact this)
    have HLW := Lib.hid (half_law L (k))
    have hz1 : (sortL (L.take (k)).flatten).length + (sortL (L.drop (k)).flatten).length ≤ 1000000 := by rw [sortL_length, sortL_length]; exact hf1.2.2
    have HZ1 := Lib.hid hz1
    have k0 : SHf (some ⟨b, o, none⟩) L hb w w.drew := ⟨hLL.on ((Below.refl _ _).drew), hbx.drew, (Below.refl _ _).drew⟩
    have hcb := hbx.cell
    have hq1 : ¬ ((L.length : Int) = 0) := by omega
    have hq2 : ¬ ((L.length : Int) = 1) := by omega
    have hcn : (L.length : Int) ≤ c := by omega
    have hck : ¬ c = k := by omega
    have hdv : IntKind.i64.wrap ((L.length : Int) / 2) = (k : Int) := by rw [IntKind.wrap_i64]; omega
    have hkc : k ≤ c := by omega
    have hkn : k ≤ L.length := by omega
    clear ih hs hfl hlt hld hf1 hLL hbx hz1 hk
    go_enter Try.func43, Try.ntmps43
    go_upto_region 6 with fail
    refine region_facts_tail 14 (fun _ => false) (FHf (some ⟨b, o, none⟩) L c b o hb w.heap.size k) (SHf (some ⟨b, o, none⟩) L hb w) (fun x y => Below x.heap.size x y) (List.range' 14 14 ++ []) (by kernel_rfl) (by kernel_rfl) (by kernel_rfl) (by decide) (by kernel_rfl) (by kernel_rfl) (FHf.keep (some ⟨b, o, none⟩) L c b o hb w.heap.size k) (fun _ _ h k => h.kept k) (fun _ _ h => h.size) k0 ?_ ?_
    · intro fr hfr
      have f0 : fr.getD 0 undef = .slice (some ⟨b, o, none⟩) L.length c := by rw [hfr]; rfl
      have f1 : fr.getD 1 undef = .pointer (some ⟨hb, 0, none⟩) := by rw [hfr]; rfl
      clear hfr
      iterate 14
        refine ⟨⟨trivial, ?_⟩, ?_⟩
        · intro ρ w' hρ hd hS
          refine ⟨?_, fun h => absurd h (by decide)⟩
          simp only [DepF, Region.binds, dat, Nat.reduceLT, Nat.reduceAdd, FHf, hV, forall_const, and_true] at hd
          have hcon := hρ.con
          have e0 := (hρ.slot 0 (by kernel_rfl)).trans f0
          have e1 := (hρ.slot 1 (by kernel_rfl)).trans f1
          have hcb := hS.box.cell
          simp only [hV] at hcb
          (try rw [execOp_call_fn _ _ _ _ _ _ _ _ _ (hρ.fn _)])
          go_simp
          (try simp only [Good, FHf, hV])
          first
            | exact ⟨rfl, Below.refl _ _⟩
            | exact ⟨trivial, Below.refl _ _⟩
            | (go_at_call 43; refine (IH1.out w' hS.ll hS.box).mono ?_; rintro e w'' ⟨v', rfl, ho, hk⟩; exact ⟨v', rfl, ho.mono hS.below.size, hk⟩)
            | (go_at_call 43; refine (IH2.out w' hS.ll hS.box).mono ?_; rintro e w'' ⟨v', rfl, ho, hk⟩; exact ⟨v', rfl, ho.mono hS.below.size, hk⟩)
      trivial
    · intro vs w3 hs3 hF _
      have h6 : OwnT w3 w.heap.size (vs 6) (sortL (L.take (k)).flatten) := hF 6 (by decide)
      have h13 : OwnT w3 w.heap.size (vs 13) (sortL (L.drop (k)).flatten) := hF 13 (by decide)
      have hb3 := hs3.below
      have hzp := zip_any (vs 6) (vs 13) _ _ w3 h6.lat h13.lat HZ1.out
      rw [HLW.out] at hzp
      clear hF hs3 h6 h13 k0 IH1 IH2 HZ1 HLW
      simp only [List.range'_succ, List.range'_zero, List.append_nil, setAll, List.setIfInBounds_toArray, List.set_cons_zero, List.set_cons_succ, Nat.reduceAdd]
      simp only [List.drop_succ_cons, List.drop_zero]
      go_wp2_with fail
      refine hzp.mono ?_
      rintro e w4 ⟨v4, rfl, ho4, hb4⟩
      have hb5 := hb3.trans (Below.mono hb4 hb3.size)
      have ho5 := ho4.mono hb3.size
      clear hzp hb3 hb4 ho4
      go_wp2_with fail
      go_ret
      exact ⟨_, rfl, ho5, hb5⟩
end Go.Proofs.Ytpbepmipfjcjbaa
