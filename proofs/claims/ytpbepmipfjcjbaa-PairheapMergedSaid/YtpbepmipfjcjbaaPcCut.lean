/- The law: the texts Cut, laid end to end by a program. -/
import Derived.Test.YtpbepmipfjcjbaaPcPut
namespace Go.Proofs.Ytpbepmipfjcjbaa
open Go.RowKit
def cutT (now : Int) : Timer := ⟨now + 1, 0, -9223372036854775808⟩
def cutN (l : List Timer) (now : Int) : Nat := if now < 18446744073709551615 then nBefore l (cutT now) else l.length
theorem cutN_le (l : List Timer) (now : Int) : cutN l now ≤ l.length := by
  unfold cutN
  split
  · exact nBefore_le _ _
  · exact Nat.le_refl _
/-- What the numbers of a timer may be. -/
def Timer.Fit (x : Timer) : Prop := 0 ≤ x.seq ∧ -9223372036854775808 ≤ x.place ∧ x.at_ ≤ 18446744073709551615
theorem cut_lt {x : Timer} (h : x.Fit) (now : Int) : x.lt (cutT now) = decide (x.at_ ≤ now) := by
  obtain ⟨h1, h2, h3⟩ := h
  rw [Bool.eq_iff_iff, decide_eq_true_iff, Timer.lt_iff]
  simp only [cutT]
  omega
theorem cut_law {l : List Timer} (hs : Srt l) (hf : ∀ x ∈ l, x.Fit) (now : Int) : l.take (cutN l now) = dueL l now true ∧ l.drop (cutN l now) = dueL l now false := by
  have key : (∀ x ∈ l.take (cutN l now), decide (x.at_ ≤ now) = true) ∧ (∀ x ∈ l.drop (cutN l now), decide (x.at_ ≤ now) = false) := by
    unfold cutN
    split
    · obtain ⟨h1, h2⟩ := hs.split (cutT now)
      exact ⟨fun x hx => by rw [← cut_lt (hf x (List.mem_of_mem_take hx))]; exact h1 x hx, fun x hx => by rw [← cut_lt (hf x (List.mem_of_mem_drop hx))]; exact h2 x hx⟩
    · rename_i hnow
      refine ⟨fun x hx => ?_, fun x hx => by simp at hx⟩
      have := (hf x (List.mem_of_mem_take hx)).2.2
      exact decide_eq_true (by omega)
  have hl := List.take_append_drop (cutN l now) l
  unfold dueL
  constructor
  · conv => rhs; rw [← hl]
    rw [List.filter_append, List.filter_eq_self.2 (fun x hx => by rw [key.1 x hx]; rfl), List.filter_eq_nil_iff.2 (fun x hx => by rw [key.2 x hx]; simp), List.append_nil]
  · conv => rhs; rw [← hl]
    rw [List.filter_append, List.filter_eq_nil_iff.2 (fun x hx => by rw [key.1 x hx]; simp), List.filter_eq_self.2 (fun x hx => by rw [key.2 x hx]; rfl), List.nil_append]
theorem LAt.take {w : World} {A : Option Addr} {n c : Nat} {l : List Timer} (h : LAt w (.slice A n c) l) (k : Nat) (hk : k ≤ l.length) : LAt w (.slice A k c) (l.take k) := by
  obtain ⟨A', c', e, hT, hc, hm, hA, hg⟩ := h
  injection e with e1 e2 e3
  subst e1 e3
  have hkl : (l.take k).length = k := by simp; omega
  exact ⟨A, c, by rw [hkl], hT.take k, by omega, hm, hA, hg⟩
theorem LAt.drop {w : World} {a : Addr} {n c : Nat} {l : List Timer} (h : LAt w (.slice (some a) n c) l) (k : Nat) (hk : k ≤ l.length) : LAt w (.slice (if c = k then some a else some (a.add (k * 3))) (n - k) (c - k)) (l.drop k) := by
  obtain ⟨A', c', e, hT, hc, hm, hA, hg⟩ := h
  injection e with e1 e2 e3
  subst e1 e2 e3
  refine ⟨_, c - k, by rw [List.length_drop], ?_, by rw [List.length_drop]; omega, by omega, ?_, ?_⟩
  · by_cases hkl : k < l.length
    · obtain ⟨b, o, e, hb⟩ := hT.form (by omega)
      injection e with e
      subst e
      rw [if_neg (by omega), Addr.add_lit]
      exact hT.drop k
    · rw [List.drop_eq_nil_of_le (by omega)]
      exact TmAt.nil
  · intro e
    split at e <;> cases e
  · intro g e
    refine hg g ?_
    split at e
    · exact e
    · rw [← e]
      simp [Addr.add]
      split <;> rfl
def FCt (A : Option Addr) (l : List Timer) (c k : Nat) (B : Nat) : Nat → Value → World → Prop := fun j v w => match j with
  | 0 => v = .slice A l.length c
  | 1 => v = .int .i64 k
  | 2 => LAt w v (l.take k)
  | 3 => OwnT w B v (l.take k)
  | 4 => v = .slice A l.length c
  | 5 => v = .int .i64 k
  | 6 => LAt w v (l.drop k)
  | _ => OwnT w B v (l.drop k)
theorem FCt.keep (A : Option Addr) (l : List Timer) (c k : Nat) (B : Nat) (j : Nat) (v : Value) (w w' : World) (h : FCt A l c k B j v w) (r : Below w.heap.size w w') : FCt A l c k B j v w' := by
  unfold FCt at h ⊢
  split at h
  · exact h
  · exact h
  · exact h.on r
  · exact h.below r (Nat.le_refl _)
  · exact h
  · exact h
  · exact h.on r
  · exact h.below r (Nat.le_refl _)
set_option maxRecDepth 100000 in
set_option maxHeartbeats 2000000 in
theorem ocut_bad (v : Value) (l : List Timer) (now : Int) (w : World) (h : LAt w v l) (hl : l.length ≤ 1000000) (hs : srtB l = false) :
    Calls Try.prog 25 #[v, .int .u64 now] w fun e w' => e = .returned (.tuple #[.slice none 0 0, .slice none 0 0, .int .i64 12]) ∧ Below w.heap.size w w' := by
  obtain ⟨A, c, rfl, hT, _⟩ := h
  have hcon := sorted_any A l c _ hT hl
  rw [hs] at hcon
  go_enter Try.func25, Try.ntmps25
  go_wp2_with fail
  refine hcon.mono ?_
  rintro e w1 ⟨rfl, hx⟩
  clear hcon
  go_wp2_with fail
  go_ret3
  exact ⟨rfl, hx⟩
structure SCt (A : Option Addr) (l : List Timer) (c : Nat) (w w' : World) : Prop where
  lat : LAt w' (.slice A l.length c) l
  below : Below w.heap.size w w'
theorem SCt.kept {A : Option Addr} {l : List Timer} {c : Nat} {w x y : World} (h : SCt A l c w x) (k : Below x.heap.size x y) : SCt A l c w y :=
  ⟨h.lat.on k, h.below.trans (Below.mono k h.below.size)⟩
theorem LAt.len {w : World} {A : Option Addr} {n c : Nat} {l : List Timer} (h : LAt w (.slice A n c) l) : n = l.length ∧ n ≤ c ∧ c ≤ maxLen ∧ (A = none → c = 0) := by
  obtain ⟨A', c', e, hT, hc, hm, hA, hg⟩ := h
  injection e with e1 e2 e3
  subst e1 e3
  exact ⟨e2, by omega, hm, hA⟩
theorem LAt.dropO {w : World} {A : Option Addr} {n c : Nat} {l : List Timer} (h : LAt w (.slice A n c) l) (k : Nat) (hk : k ≤ l.length) : LAt w (.slice (A.map fun a => if c = k then a else a.add (k * 3)) (n - k) (c - k)) (l.drop k) := by
  cases A with
  | none =>
    obtain ⟨e1, e2, _, e3⟩ := h.len
    have := e3 rfl
    have hl0 : l = [] := List.eq_nil_of_length_eq_zero (by omega)
    subst hl0
    have hk0 : k = 0 := by simpa using hk
    subst hk0
    have : n = 0 := by simpa using e1
    subst this
    subst c
    simpa using h
  | some a =>
    have := h.drop k hk
    by_cases hck : c = k
    · simpa [hck] using this
    · simpa [hck] using this
attribute [local irreducible] Calls
set_option maxRecDepth 100000 in
set_option maxHeartbeats 2000000 in
theorem ocut_ok (v : Value) (l : List Timer) (now : Int) (w : World) (h : LAt w v l) (hl : l.length ≤ 1000000) (hs : srtB l = true) (hnow : 0 ≤ now ∧ now ≤ 18446744073709551615) :
    Calls Try.prog 25 #[v, .int .u64 now] w fun e w' => ∃ v1 v2, e = .returned (.tuple #[v1, v2, .int .i64 0]) ∧ OwnT w' w.heap.size v1 (l.take (cutN l now)) ∧ OwnT w' w.heap.size v2 (l.drop (cutN l now)) ∧ Below w.heap.size w w' := by
  have hlat := h
  obtain ⟨A, c, rfl, hT, _⟩ := h
  have hcon := sorted_any A l c _ hT (by omega)
  rw [hs] at hcon
  have hsrt := (srtB_iff l).1 hs
  have hk := cutN_le l now
  have HN := Lib.hid (show cutN l now = if now < 18446744073709551615 then nBefore l (cutT now) else l.length from rfl)
  have HF := Lib.hid (fun w1 h1 => find_in A l c (cutT now) w1 h1 (by omega) hsrt)
  generalize cutN l now = k at *
  generalize nBefore l (cutT now) = n at *
  unfold cutT Timer.val at HF
  clear hT
  go_enter Try.func25, Try.ntmps25
  go_wp2_with fail
  refine hcon.mono ?_
  rintro e w1 ⟨rfl, hx⟩
  have l1 := hlat.on hx
  clear hcon hlat
  by_cases hlt : now < 18446744073709551615
  · have hkn : k = n := by rw [HN.out, if_pos hlt]
    subst hkn
    have hw1 : IntKind.u64.wrap (now + 1) = now + 1 := by
      simp only [IntKind.wrap, IntKind.bits, IntKind.signed]
      simp
      omega
    go_wp2_with fail
    refine (HF.out w1 l1.tm).mono ?_
    rintro e w2 ⟨rfl, hy⟩
    have k2 : SCt A l c w w2.drew := ⟨(l1.on hy).on ((Below.refl _ _).drew), (hx.trans (Below.mono hy hx.size)).drew⟩
    clear hy l1 hx hw1
    go_upto_region 6 with fail
    cases A with
    | none =>
        have hc0 := k2.lat.len.2.2.2 rfl
        have hlen0 : l.length = 0 := by have := k2.lat.len; omega
        have hkz : k = 0 := by omega
        have hlz : l = [] := List.eq_nil_of_length_eq_zero hlen0
        clear HN
        subst hc0 hlz hkz
        refine region_facts_tail 8 (fun _ => false) (FCt none ([] : List Timer) 0 0 w.heap.size) (SCt none ([] : List Timer) 0 w) (fun x y => Below x.heap.size x y) (List.range' 20 8 ++ []) (by kernel_rfl) (by kernel_rfl) (by kernel_rfl) (by decide) (by kernel_rfl) (by kernel_rfl) (FCt.keep none ([] : List Timer) 0 0 w.heap.size) (fun _ _ h k => h.kept k) (fun _ _ h => h.size) k2 ?_ ?_
        · intro fr hfr
          have f0 : fr.getD 0 undef = .slice none (([] : List Timer)).length 0 := by rw [hfr]; rfl
          have f7 : fr.getD 7 undef = .int .i64 (0 : Nat) := by first | (rw [hfr]; rfl) | (rw [hfr, HKN.out]; rfl)
          clear hfr
          iterate 8
            refine ⟨⟨trivial, ?_⟩, ?_⟩
            · intro ρ w' hρ hd hS
              refine ⟨?_, fun h => absurd h (by decide)⟩
              simp only [DepF, Region.binds, dat, Nat.reduceLT, Nat.reduceAdd, FCt, forall_const, and_true] at hd
              have hcon := hρ.con
              have e0 := (hρ.slot 0 (by kernel_rfl)).trans f0
              have e7 := (hρ.slot 7 (by kernel_rfl)).trans f7
              have hcut := hS.lat.take 0 hk
              have hdrp := LAt.dropO hS.lat 0 hk
              skip
              (try rw [execOp_call_fn _ _ _ _ _ _ _ _ _ (hρ.fn _)])
              go_simp
              (try simp only [Good, FCt])
              first
                | exact ⟨rfl, Below.refl _ _⟩
                | exact ⟨trivial, Below.refl _ _⟩
                | exact ⟨hcut, Below.refl _ _⟩
                | exact ⟨by simpa using hdrp, Below.refl _ _⟩
                | exact ⟨by have hz : (([] : List Timer)).length - 0 = 0 := by omega
                            simpa [hz] using hdrp, Below.refl _ _⟩
                | exact ⟨by have hck' : ¬ c = k := fun h => hck h.symm
                            simpa [hck'] using hdrp, Below.refl _ _⟩
                | exact ⟨LAt.nil _, Below.refl _ _⟩
                | (go_at_call 44; refine (clone_any _ _ w' (by first | exact hd.lw | exact hd.1.lw) (by first | (simp; omega) | simp | omega)).mono ?_; rintro e w'' ⟨v', rfl, ho, hk⟩; exact ⟨v', rfl, ho.mono hS.below.size, hk⟩)
          trivial
        · intro vs w3 hs3 hF _
          have h3 : OwnT w3 w.heap.size (vs 3) ((([] : List Timer)).take 0) := hF 3 (by decide)
          have h7 : OwnT w3 w.heap.size (vs 7) ((([] : List Timer)).drop 0) := hF 7 (by decide)
          have hb3 := hs3.below
          clear hF
          simp only [List.range'_succ, List.range'_zero, List.append_nil, setAll, List.setIfInBounds_toArray, List.set_cons_zero, List.set_cons_succ, Nat.reduceAdd]
          simp only [List.drop_succ_cons, List.drop_zero]
          go_wp2_with fail
          go_ret3
          exact ⟨_, _, rfl, h3, h7, hb3⟩
    | some a =>
      by_cases hck : k = c
      · subst hck
        refine region_facts_tail 8 (fun _ => false) (FCt (some a) l k k w.heap.size) (SCt (some a) l k w) (fun x y => Below x.heap.size x y) (List.range' 20 8 ++ []) (by kernel_rfl) (by kernel_rfl) (by kernel_rfl) (by decide) (by kernel_rfl) (by kernel_rfl) (FCt.keep (some a) l k k w.heap.size) (fun _ _ h k => h.kept k) (fun _ _ h => h.size) k2 ?_ ?_
        · intro fr hfr
          have f0 : fr.getD 0 undef = .slice (some a) (l).length k := by rw [hfr]; rfl
          have f7 : fr.getD 7 undef = .int .i64 (k : Nat) := by first | (rw [hfr]; rfl) | (rw [hfr, HKN.out]; rfl)
          clear hfr
          iterate 8
            refine ⟨⟨trivial, ?_⟩, ?_⟩
            · intro ρ w' hρ hd hS
              refine ⟨?_, fun h => absurd h (by decide)⟩
              simp only [DepF, Region.binds, dat, Nat.reduceLT, Nat.reduceAdd, FCt, forall_const, and_true] at hd
              have hcon := hρ.con
              have e0 := (hρ.slot 0 (by kernel_rfl)).trans f0
              have e7 := (hρ.slot 7 (by kernel_rfl)).trans f7
              have hcut := hS.lat.take k hk
              have hdrp := LAt.dropO hS.lat k hk
              skip
              (try rw [execOp_call_fn _ _ _ _ _ _ _ _ _ (hρ.fn _)])
              go_simp
              (try simp only [Good, FCt])
              first
                | exact ⟨rfl, Below.refl _ _⟩
                | exact ⟨trivial, Below.refl _ _⟩
                | exact ⟨hcut, Below.refl _ _⟩
                | exact ⟨by simpa using hdrp, Below.refl _ _⟩
                | exact ⟨by have hz : (l).length - k = 0 := by omega
                            simpa [hz] using hdrp, Below.refl _ _⟩
                | exact ⟨by have hck' : ¬ c = k := fun h => hck h.symm
                            simpa [hck'] using hdrp, Below.refl _ _⟩
                | exact ⟨LAt.nil _, Below.refl _ _⟩
                | (go_at_call 44; refine (clone_any _ _ w' (by first | exact hd.lw | exact hd.1.lw) (by first | (simp; omega) | simp | omega)).mono ?_; rintro e w'' ⟨v', rfl, ho, hk⟩; exact ⟨v', rfl, ho.mono hS.below.size, hk⟩)
          trivial
        · intro vs w3 hs3 hF _
          have h3 : OwnT w3 w.heap.size (vs 3) ((l).take k) := hF 3 (by decide)
          have h7 : OwnT w3 w.heap.size (vs 7) ((l).drop k) := hF 7 (by decide)
          have hb3 := hs3.below
          clear hF
          simp only [List.range'_succ, List.range'_zero, List.append_nil, setAll, List.setIfInBounds_toArray, List.set_cons_zero, List.set_cons_succ, Nat.reduceAdd]
          simp only [List.drop_succ_cons, List.drop_zero]
          go_wp2_with fail
          go_ret3
          exact ⟨_, _, rfl, h3, h7, hb3⟩
      · skip
        refine region_facts_tail 8 (fun _ => false) (FCt (some a) l c k w.heap.size) (SCt (some a) l c w) (fun x y => Below x.heap.size x y) (List.range' 20 8 ++ []) (by kernel_rfl) (by kernel_rfl) (by kernel_rfl) (by decide) (by kernel_rfl) (by kernel_rfl) (FCt.keep (some a) l c k w.heap.size) (fun _ _ h k => h.kept k) (fun _ _ h => h.size) k2 ?_ ?_
        · intro fr hfr
          have f0 : fr.getD 0 undef = .slice (some a) (l).length c := by rw [hfr]; rfl
          have f7 : fr.getD 7 undef = .int .i64 (k : Nat) := by first | (rw [hfr]; rfl) | (rw [hfr, HKN.out]; rfl)
          clear hfr
          iterate 8
            refine ⟨⟨trivial, ?_⟩, ?_⟩
            · intro ρ w' hρ hd hS
              refine ⟨?_, fun h => absurd h (by decide)⟩
              simp only [DepF, Region.binds, dat, Nat.reduceLT, Nat.reduceAdd, FCt, forall_const, and_true] at hd
              have hcon := hρ.con
              have e0 := (hρ.slot 0 (by kernel_rfl)).trans f0
              have e7 := (hρ.slot 7 (by kernel_rfl)).trans f7
              have hcut := hS.lat.take k hk
              have hdrp := LAt.dropO hS.lat k hk
              have hkc : k ≤ c := by have := hS.lat.len; omega
              (try rw [execOp_call_fn _ _ _ _ _ _ _ _ _ (hρ.fn _)])
              go_simp
              (try simp only [Good, FCt])
              first
                | exact ⟨rfl, Below.refl _ _⟩
                | exact ⟨trivial, Below.refl _ _⟩
                | exact ⟨hcut, Below.refl _ _⟩
                | exact ⟨by simpa using hdrp, Below.refl _ _⟩
                | exact ⟨by have hz : (l).length - k = 0 := by omega
                            simpa [hz] using hdrp, Below.refl _ _⟩
                | exact ⟨by have hck' : ¬ c = k := fun h => hck h.symm
                            simpa [hck'] using hdrp, Below.refl _ _⟩
                | exact ⟨LAt.nil _, Below.refl _ _⟩
                | (go_at_call 44; refine (clone_any _ _ w' (by first | exact hd.lw | exact hd.1.lw) (by first | (simp; omega) | simp | omega)).mono ?_; rintro e w'' ⟨v', rfl, ho, hk⟩; exact ⟨v', rfl, ho.mono hS.below.size, hk⟩)
          trivial
        · intro vs w3 hs3 hF _
          have h3 : OwnT w3 w.heap.size (vs 3) ((l).take k) := hF 3 (by decide)
          have h7 : OwnT w3 w.heap.size (vs 7) ((l).drop k) := hF 7 (by decide)
          have hb3 := hs3.below
          clear hF
          simp only [List.range'_succ, List.range'_zero, List.append_nil, setAll, List.setIfInBounds_toArray, List.set_cons_zero, List.set_cons_succ, Nat.reduceAdd]
          simp only [List.drop_succ_cons, List.drop_zero]
          go_wp2_with fail
          go_ret3
          exact ⟨_, _, rfl, h3, h7, hb3⟩
  · have hkn : k = l.length := by rw [HN.out, if_neg hlt]
    have k2 : SCt A l c w w1.drew := ⟨l1.on ((Below.refl _ _).drew), hx.drew⟩
    clear l1 hx HF
    have HKN := Lib.hid hkn
    clear hkn
    go_upto_region 6 with fail
    cases A with
    | none =>
        have hc0 := k2.lat.len.2.2.2 rfl
        have hlen0 : l.length = 0 := by have := k2.lat.len; omega
        have hkz : k = 0 := by omega
        have hlz : l = [] := List.eq_nil_of_length_eq_zero hlen0
        clear HN
        subst hc0 hlz hkz
        refine region_facts_tail 8 (fun _ => false) (FCt none ([] : List Timer) 0 0 w.heap.size) (SCt none ([] : List Timer) 0 w) (fun x y => Below x.heap.size x y) (List.range' 20 8 ++ []) (by kernel_rfl) (by kernel_rfl) (by kernel_rfl) (by decide) (by kernel_rfl) (by kernel_rfl) (FCt.keep none ([] : List Timer) 0 0 w.heap.size) (fun _ _ h k => h.kept k) (fun _ _ h => h.size) k2 ?_ ?_
        · intro fr hfr
          have f0 : fr.getD 0 undef = .slice none (([] : List Timer)).length 0 := by rw [hfr]; rfl
          have f7 : fr.getD 7 undef = .int .i64 (0 : Nat) := by first | (rw [hfr]; rfl) | (rw [hfr, HKN.out]; rfl)
          clear hfr
          iterate 8
            refine ⟨⟨trivial, ?_⟩, ?_⟩
            · intro ρ w' hρ hd hS
              refine ⟨?_, fun h => absurd h (by decide)⟩
              simp only [DepF, Region.binds, dat, Nat.reduceLT, Nat.reduceAdd, FCt, forall_const, and_true] at hd
              have hcon := hρ.con
              have e0 := (hρ.slot 0 (by kernel_rfl)).trans f0
              have e7 := (hρ.slot 7 (by kernel_rfl)).trans f7
              have hcut := hS.lat.take 0 hk
              have hdrp := LAt.dropO hS.lat 0 hk
              skip
              (try rw [execOp_call_fn _ _ _ _ _ _ _ _ _ (hρ.fn _)])
              go_simp
              (try simp only [Good, FCt])
              first
                | exact ⟨rfl, Below.refl _ _⟩
                | exact ⟨trivial, Below.refl _ _⟩
                | exact ⟨hcut, Below.refl _ _⟩
                | exact ⟨by simpa using hdrp, Below.refl _ _⟩
                | exact ⟨by have hz : (([] : List Timer)).length - 0 = 0 := by omega
                            simpa [hz] using hdrp, Below.refl _ _⟩
                | exact ⟨by have hck' : ¬ c = k := fun h => hck h.symm
                            simpa [hck'] using hdrp, Below.refl _ _⟩
                | exact ⟨LAt.nil _, Below.refl _ _⟩
                | (go_at_call 44; refine (clone_any _ _ w' (by first | exact hd.lw | exact hd.1.lw) (by first | (simp; omega) | simp | omega)).mono ?_; rintro e w'' ⟨v', rfl, ho, hk⟩; exact ⟨v', rfl, ho.mono hS.below.size, hk⟩)
          trivial
        · intro vs w3 hs3 hF _
          have h3 : OwnT w3 w.heap.size (vs 3) ((([] : List Timer)).take 0) := hF 3 (by decide)
          have h7 : OwnT w3 w.heap.size (vs 7) ((([] : List Timer)).drop 0) := hF 7 (by decide)
          have hb3 := hs3.below
          clear hF
          simp only [List.range'_succ, List.range'_zero, List.append_nil, setAll, List.setIfInBounds_toArray, List.set_cons_zero, List.set_cons_succ, Nat.reduceAdd]
          simp only [List.drop_succ_cons, List.drop_zero]
          go_wp2_with fail
          go_ret3
          exact ⟨_, _, rfl, h3, h7, hb3⟩
    | some a =>
      by_cases hck : k = c
      · subst hck
        refine region_facts_tail 8 (fun _ => false) (FCt (some a) l k k w.heap.size) (SCt (some a) l k w) (fun x y => Below x.heap.size x y) (List.range' 20 8 ++ []) (by kernel_rfl) (by kernel_rfl) (by kernel_rfl) (by decide) (by kernel_rfl) (by kernel_rfl) (FCt.keep (some a) l k k w.heap.size) (fun _ _ h k => h.kept k) (fun _ _ h => h.size) k2 ?_ ?_
        · intro fr hfr
          have f0 : fr.getD 0 undef = .slice (some a) (l).length k := by rw [hfr]; rfl
          have f7 : fr.getD 7 undef = .int .i64 (k : Nat) := by first | (rw [hfr]; rfl) | (rw [hfr, HKN.out]; rfl)
          clear hfr
          iterate 8
            refine ⟨⟨trivial, ?_⟩, ?_⟩
            · intro ρ w' hρ hd hS
              refine ⟨?_, fun h => absurd h (by decide)⟩
              simp only [DepF, Region.binds, dat, Nat.reduceLT, Nat.reduceAdd, FCt, forall_const, and_true] at hd
              have hcon := hρ.con
              have e0 := (hρ.slot 0 (by kernel_rfl)).trans f0
              have e7 := (hρ.slot 7 (by kernel_rfl)).trans f7
              have hcut := hS.lat.take k hk
              have hdrp := LAt.dropO hS.lat k hk
              skip
              (try rw [execOp_call_fn _ _ _ _ _ _ _ _ _ (hρ.fn _)])
              go_simp
              (try simp only [Good, FCt])
              first
                | exact ⟨rfl, Below.refl _ _⟩
                | exact ⟨trivial, Below.refl _ _⟩
                | exact ⟨hcut, Below.refl _ _⟩
                | exact ⟨by simpa using hdrp, Below.refl _ _⟩
                | exact ⟨by have hz : (l).length - k = 0 := by omega
                            simpa [hz] using hdrp, Below.refl _ _⟩
                | exact ⟨by have hck' : ¬ c = k := fun h => hck h.symm
                            simpa [hck'] using hdrp, Below.refl _ _⟩
                | exact ⟨LAt.nil _, Below.refl _ _⟩
                | (go_at_call 44; refine (clone_any _ _ w' (by first | exact hd.lw | exact hd.1.lw) (by first | (simp; omega) | simp | omega)).mono ?_; rintro e w'' ⟨v', rfl, ho, hk⟩; exact ⟨v', rfl, ho.mono hS.below.size, hk⟩)
          trivial
        · intro vs w3 hs3 hF _
          have h3 : OwnT w3 w.heap.size (vs 3) ((l).take k) := hF 3 (by decide)
          have h7 : OwnT w3 w.heap.size (vs 7) ((l).drop k) := hF 7 (by decide)
          have hb3 := hs3.below
          clear hF
          simp only [List.range'_succ, List.range'_zero, List.append_nil, setAll, List.setIfInBounds_toArray, List.set_cons_zero, List.set_cons_succ, Nat.reduceAdd]
          simp only [List.drop_succ_cons, List.drop_zero]
          go_wp2_with fail
          go_ret3
          exact ⟨_, _, rfl, h3, h7, hb3⟩
      · skip
        refine region_facts_tail 8 (fun _ => false) (FCt (some a) l c k w.heap.size) (SCt (some a) l c w) (fun x y => Below x.heap.size x y) (List.range' 20 8 ++ []) (by kernel_rfl) (by kernel_rfl) (by kernel_rfl) (by decide) (by kernel_rfl) (by kernel_rfl) (FCt.keep (some a) l c k w.heap.size) (fun _ _ h k => h.kept k) (fun _ _ h => h.size) k2 ?_ ?_
        · intro fr hfr
          have f0 : fr.getD 0 undef = .slice (some a) (l).length c := by rw [hfr]; rfl
          have f7 : fr.getD 7 undef = .int .i64 (k : Nat) := by first | (rw [hfr]; rfl) | (rw [hfr, HKN.out]; rfl)
          clear hfr
          iterate 8
            refine ⟨⟨trivial, ?_⟩, ?_⟩
            · intro ρ w' hρ hd hS
              refine ⟨?_, fun h => absurd h (by decide)⟩
              simp only [DepF, Region.binds, dat, Nat.reduceLT, Nat.reduceAdd, FCt, forall_const, and_true] at hd
              have hcon := hρ.con
              have e0 := (hρ.slot 0 (by kernel_rfl)).trans f0
              have e7 := (hρ.slot 7 (by kernel_rfl)).trans f7
              have hcut := hS.lat.take k hk
              have hdrp := LAt.dropO hS.lat k hk
              have hkc : k ≤ c := by have := hS.lat.len; omega
              (try rw [execOp_call_fn _ _ _ _ _ _ _ _ _ (hρ.fn _)])
              go_simp
              (try simp only [Good, FCt])
              first
                | exact ⟨rfl, Below.refl _ _⟩
                | exact ⟨trivial, Below.refl _ _⟩
                | exact ⟨hcut, Below.refl _ _⟩
                | exact ⟨by simpa using hdrp, Below.refl _ _⟩
                | exact ⟨by have hz : (l).length - k = 0 := by omega
                            simpa [hz] using hdrp, Below.refl _ _⟩
                | exact ⟨by have hck' : ¬ c = k := fun h => hck h.symm
                            simpa [hck'] using hdrp, Below.refl _ _⟩
                | exact ⟨LAt.nil _, Below.refl _ _⟩
                | (go_at_call 44; refine (clone_any _ _ w' (by first | exact hd.lw | exact hd.1.lw) (by first | (simp; omega) | simp | omega)).mono ?_; rintro e w'' ⟨v', rfl, ho, hk⟩; exact ⟨v', rfl, ho.mono hS.below.size, hk⟩)
          trivial
        · intro vs w3 hs3 hF _
          have h3 : OwnT w3 w.heap.size (vs 3) ((l).take k) := hF 3 (by decide)
          have h7 : OwnT w3 w.heap.size (vs 7) ((l).drop k) := hF 7 (by decide)
          have hb3 := hs3.below
          clear hF
          simp only [List.range'_succ, List.range'_zero, List.append_nil, setAll, List.setIfInBounds_toArray, List.set_cons_zero, List.set_cons_succ, Nat.reduceAdd]
          simp only [List.drop_succ_cons, List.drop_zero]
          go_wp2_with fail
          go_ret3
          exact ⟨_, _, rfl, h3, h7, hb3⟩
end Go.Proofs.Ytpbepmipfjcjbaa
