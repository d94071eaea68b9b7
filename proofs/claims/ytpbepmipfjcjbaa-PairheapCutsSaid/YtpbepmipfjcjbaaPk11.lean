/- Part 11: the texts PhE, laid end to end by a program. -/
import Derived.RangeFuncNested
import Derived.RangeFuncBound
import Derived.RangeFuncCalls
import Derived.RangeFuncLeaves
import Derived.RangeFuncBox
import Derived.Maps.AppendAt
import Derived.Shelf.Abstract
import Derived.Shelf.AbstractIn
import Derived.Shelf.RegionOpen
import Derived.LoopIn
import Derived.LoopNIn
import Derived.Test.YtpbepmipfjcjbaaPk9
namespace Go.Proofs.Ytpbepmipfjcjbaa
open Go.RowKit Go.Shelf
attribute [local go_sem] Oper.semAt_some
@[go_sem] theorem callVal_yield (l : Nat) (args a c : Array Value) : callVal (.func (.yield l) a c) args = Instr.yield l (a ++ args) := rfl
/-- The tops of what stands beside each other. -/
def topsL : BT → List (Nat × BT)
  | .nil => []
  | .node i l s => (i, l) :: topsL s
theorem topsL_ids : ∀ s : BT, fids (topsL s) = s.ids
  | .nil => rfl
  | .node i l s => by
    have := topsL_ids s
    simp only [topsL, fids_cons, BT.ids, this, List.cons_append]
/-- What the iterator has done: the trees set free, the rest, the ways elsewhere untouched. -/
structure EachI (V : Nat → Prop) (nd : Nat → Nat) (tm : Nat → Timer) (f0 : Lk) (s0 : BT) (done : List (Nat × BT)) (s : BT) (x : Option Nat) (f : Lk) (W : World) : Prop where
  nm : NM W V nd tm f
  half : ∃ b, Half f tm done b s x
  all : topsL s0 = done ++ topsL s
  out : ∀ i, i ∉ s0.ids → f0.Eq f i
/-- How far the iterator has still to go. -/
def leftG (G : List Nat) : Value → Nat
  | .pointer (some a) => G.length - G.idxOf a.block
  | _ => 0
theorem idx_mid {A C : List Nat} {g : Nat} (h : (A ++ g :: C).Nodup) : (A ++ g :: C).idxOf g = A.length := by
  have hn : g ∉ A := fun e => (List.nodup_append.1 h).2.2 g e g (by simp) rfl
  rw [List.idxOf_append, if_neg hn]
  simp
theorem nodup_map_nd {V : Nat → Prop} {nd : Nat → Nat} (inj : ∀ i j, V i → V j → nd i = nd j → i = j) : ∀ {l : List Nat}, (∀ i ∈ l, V i) → l.Nodup → (l.map nd).Nodup
  | [], _, _ => by simp
  | i :: l, hV, hn => by
    rw [List.nodup_cons] at hn
    rw [List.map_cons, List.nodup_cons]
    refine ⟨fun e => ?_, nodup_map_nd inj (fun j hj => hV j (by simp [hj])) hn.2⟩
    obtain ⟨j, hj, e⟩ := List.mem_map.1 e
    have := inj j i (hV j (by simp [hj])) (hV i (by simp)) e
    exact hn.1 (this ▸ hj)
theorem tops_sub : ∀ (L : List (Nat × BT)), (L.map (·.1)).Sublist (fids L)
  | [] => List.Sublist.slnil
  | (x, s) :: L => by
    rw [List.map_cons, fids_cons]
    exact ((tops_sub L).trans (List.sublist_append_right _ _)).cons_cons x
theorem head_tops {f : Lk} {b : Option Nat} {s : BT} {x : Option Nat} (h : Rep f b s x) : x = (topsL s).head?.map (·.1) := by
  cases s with
  | nil => exact h
  | node i l s => exact h.1
set_option maxRecDepth 100000 in
set_option maxHeartbeats 2000000 in
theorem peach1_in (n : Nat) (hn : 1 ≤ n) (l n₀ bx : Nat) (V : Nat → Prop) (nd : Nat → Nat) (tm : Nat → Timer) (f0 : Lk) (s0 : BT) (x0 : Option Nat) (hV : ∀ i ∈ s0.ids, V i) (hlen : s0.ids.length ≤ 1024) (hnd : ∀ i, V i → nd i < n₀) (J : List Nat → World → Prop)
    (hJw : ∀ pre W W', J pre W → Chg (NB V nd) W W' → J pre W')
    (hY : ∀ pre i W, J pre W → V i → pre.length < 4096 → YieldAt Fence.wide (n - 1) Try.prog l #[.pointer (some ⟨nd i, 0, none⟩)] W fun e W' => e = .returned (.bool true) ∧ J (pre ++ [i]) W' ∧ Below n₀ W W')
    (W : World) (hI : EachI V nd tm f0 s0 [] s0 x0 f0 W) (hB : Blk W bx 69 #[ptrN nd x0]) (hJ0 : J [] W) :
    CallsIn Fence.wide n Try.prog 78 #[.func (.yield l) #[] #[], .pointer (some ⟨bx, 0, none⟩)] W fun e W' => (∃ v, e = .returned v) ∧
      ∃ f, EachI V nd tm f0 s0 (topsL s0) .nil none f W' ∧ J ((topsL s0).map (·.1)) W' := by
  have d1 := hB.cell
  refine callsIn_of_wp Try.func78 rfl trivial ?_ rfl
  simp only [Try.ntmps78, List.size_toArray, List.length_cons, List.length_nil, Nat.reduceAdd, Nat.reduceSub, Array.replicate_succ, Array.replicate_zero, List.push_toArray, List.append_toArray, List.nil_append, List.cons_append]
  gi_wp2
  clear d1 hB
  obtain ⟨G, hG⟩ : ∃ G, G = (topsL s0).map fun p => nd p.1 := ⟨_, rfl⟩
  have HG := Lib.hid hG
  clear hG
  gi_loopw [3] (fun p wr => ∃ (done : List (Nat × BT)) (s : BT) (x : Option Nat) (f : Lk), p = ptrN nd x ∧ EachI V nd tm f0 s0 done s x f wr ∧ J (done.map (·.1)) wr) (fun p _ => leftG G p)
  case atStart => exact ⟨[], s0, x0, f0, rfl, hI, hJ0⟩
  case round =>
    clear hI hJ0
    obtain ⟨done, s, x, f, rfl, hI, hJ⟩ := hrel
    obtain ⟨b, hH⟩ := hI.half
    cases s with
    | nil =>
      have hx : x = none := hH.rep
      subst hx
      have hall := hI.all
      rw [topsL, List.append_nil] at hall
      rw [← hall] at hJ hI
      rw [ptrN]
      gi_wp2
      go_end0
      exact ⟨⟨_, rfl⟩, f, hI, hJ⟩
    | node i tl s =>
      obtain ⟨rfl, hH2, _⟩ := hH.step
      have hall := hI.all
      rw [topsL] at hall
      have hm : i ∈ s0.ids := by rw [← topsL_ids, hall, fids_append]; simp [fids_cons]
      have hVi := hV i hm
      have hGe : G = done.map (fun p => nd p.1) ++ nd i :: (topsL s).map fun p => nd p.1 := by rw [HG.out, hall]; simp
      have hGn : G.Nodup := by
        have hnd0 : s0.ids.Nodup := by
          have := hH.nd
          have e : s0.ids = fids done ++ (BT.node i tl s).ids := by rw [← topsL_ids, hI.all, fids_append, topsL_ids]
          rw [e]
          exact this
        have e : G = ((topsL s0).map (·.1)).map nd := by rw [HG.out]; simp
        rw [e]
        refine nodup_map_nd hI.nm.inj (fun j hj => hV j ?_) ((tops_sub _).nodup (by rw [topsL_ids]; exact hnd0))
        rw [← topsL_ids]
        exact (tops_sub _).subset hj
      have hdl : (done.map (·.1)).length < 4096 := by
        have h1 := (tops_sub (topsL s0)).length_le
        rw [topsL_ids, hall] at h1
        simp at h1 ⊢
        omega
      have hM : leftG G (ptrN nd (f.bs i)) < leftG G (ptrN nd (some i)) := by
        have e1 : G.idxOf (nd i) = done.length := by rw [hGe, idx_mid (hGe ▸ hGn)]; simp
        have e2 : done.length < G.length := by rw [hGe]; simp
        rw [head_tops hH2.rep]
        cases hs : topsL s with
        | nil => simp only [List.head?_nil, Option.map_none, ptrN, leftG]; omega
        | cons p C =>
          have e3 : G = (done.map (fun p => nd p.1) ++ [nd i]) ++ nd p.1 :: C.map fun p => nd p.1 := by rw [hGe, hs]; simp
          have e4 : G.idxOf (nd p.1) = done.length + 1 := by rw [e3, idx_mid (e3 ▸ hGn)]; simp
          simp only [List.head?_cons, Option.map_some, ptrN, leftG]
          omega
      have HM := Lib.hid hM
      have hb2 : s0.ids.length ≤ 1024 := hlen
      have bi := (hI.nm.blk i hVi).cell
      have zi := (hI.nm.blk i hVi).frozen
      have li := (hI.nm.blk i hVi).lt
      unfold ndC at bi
      have hN2 : NM ((wr.setCell ⟨nd i, 4, none⟩ (.pointer none)).setCell ⟨nd i, 5, none⟩ (.pointer none)) V nd tm (freeF f i) := (hI.nm.bs hVi none).bk hVi none
      have hC2 : Chg (NB V nd) wr ((wr.setCell ⟨nd i, 4, none⟩ (.pointer none)).setCell ⟨nd i, 5, none⟩ (.pointer none)) := ((Chg.refl (NB V nd) wr).setCell (p := ⟨nd i, 4, none⟩) (fun _ => ⟨i, hVi, rfl⟩) _).setCell (p := ⟨nd i, 5, none⟩) (fun _ => ⟨i, hVi, rfl⟩) _
      have hJ2 := hJw _ _ _ hJ hC2
      have HE := Lib.hid (show ∀ W3, Below n₀ ((wr.setCell ⟨nd i, 4, none⟩ (.pointer none)).setCell ⟨nd i, 5, none⟩ (.pointer none)) W3 → EachI V nd tm f0 s0 (done ++ [(i, tl)]) s (f.bs i) (freeF f i) W3 from fun W3 k =>
        ⟨⟨fun j hj => (hN2.blk j hj).below k (hnd j hj), hN2.inj⟩, ⟨some i, hH2⟩, by rw [hall]; simp, fun j hj => (hI.out j hj).trans (freeF_eq fun e => hj (e ▸ hm))⟩)
      obtain ⟨fn, tmps, assign, body, hy, hR⟩ := hY (done.map (·.1)) i _ hJ2 hVi hdl
      rw [ptrN_some] at HM ⊢
      generalize hnv : ptrN nd (f.bs i) = nv at *
      have HNV := Lib.hid hnv
      clear hY hnv hM hGe hGn hall hI hJ hH hH2 hN2 hC2 hJ2
      gi_wp2
      refine hR.mono ?_
      rintro e W3 ⟨rfl, hJ3, hk3⟩
      have HE3 := Lib.hid (HE.out W3 hk3)
      clear HE hk3 hy
      gi_wp2
      go_roundw
      case rel => exact ⟨done ++ [(i, tl)], s, f.bs i, freeF f i, HNV.out.symm, HE3.out, by simpa using hJ3⟩
      case measure => exact HM.out
theorem peach_any (nd : Nat → Nat) (x : Option Nat) (w : World) : Calls Try.prog 65 #[ptrN nd x] w fun e w' =>
    e = .returned (.func (.func 78) #[] #[.pointer (some ⟨w.heap.size, 0, none⟩)]) ∧ w' = w.alloc (.cells #[ptrN nd x] 69) := by
  cases x with
  | none =>
    simp only [ptrN]
    go_enter Try.func65, Try.ntmps65
    go_wp2
    go_ret
    exact ⟨by simp, rfl⟩
  | some i =>
    simp only [ptrN]
    go_enter Try.func65, Try.ntmps65
    go_wp2
    go_ret
    exact ⟨by simp, rfl⟩
end Go.Proofs.Ytpbepmipfjcjbaa
