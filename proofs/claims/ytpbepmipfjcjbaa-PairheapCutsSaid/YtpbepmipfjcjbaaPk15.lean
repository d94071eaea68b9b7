/- Part 15: the texts PhJ PhT PhN PhV, laid end to end by a program. -/
import Derived.OwnWalkIn
import Derived.RangeFuncWrites
import Derived.Test.YtpbepmipfjcjbaaPk13
import Derived.Test.YtpbepmipfjcjbaaPk14
import Derived.Test.YtpbepmipfjcjbaaPk8
import Derived.Test.YtpbepmipfjcjbaaPk1
namespace Go.Proofs.Ytpbepmipfjcjbaa
open Go.RowKit Go.Shelf
attribute [local go_sem] Oper.semAt_some
theorem PL.mono {nd : Nat → Nat} {w : World} {lo lo' hi : Nat} {v : Value} {l : List Nat} (h : PL nd w lo hi v l) (hl : lo' ≤ lo) : PL nd w lo' hi v l := by
  obtain ⟨A, c, rfl, h1, h2, h3, h4, h5⟩ := h
  exact ⟨A, c, rfl, h1, h2, h3, fun g hg => ⟨Nat.le_trans hl (h4 g hg).1, (h4 g hg).2⟩, h5⟩
theorem ownFrom_nm {β : Type} {B : Nat} {V : Nat → Prop} {nd : Nat → Nat} {tm : Nat → Timer} (f : β → Lk) (hnd : ∀ i, V i → nd i < B) : OwnFrom B (fun (s : β) W => NM W V nd tm (f s)) :=
  fun s W W' row h hg hr => ⟨fun i hi => (hg.block (nd i) (h.lt hi) fun e => by have := (hr _ e.symm).1; have := hnd i hi; omega).trans (h.blk i hi), h.inj⟩
theorem ownFrom_blk {β : Type} {B g : Nat} {t : TypeId} {cs : Array Value} (hgB : g < B) : OwnFrom B (fun (_ : β) W => Blk W g t cs) :=
  fun s W W' row h hg hr => (hg.block g h.lt fun e => by have := (hr _ e.symm).1; omega).trans h
theorem ownFrom_chg {β : Type} {B : Nat} {T : Nat → Prop} {w : World} (hB : w.heap.size ≤ B) : OwnFrom B (fun (_ : β) W => Chg T w W) :=
  fun s W W' row h hg hr => ⟨hg.os.trans h.os, hg.tape.trans h.tape, hg.output.trans h.output, Nat.le_trans h.size hg.size, fun k hk hn => (hg.block k (Nat.lt_of_lt_of_le hk h.size) fun e => by have := (hr _ e.symm).1; omega).trans (h.block k hk hn)⟩
theorem ownFrom_each {β : Type} {B : Nat} {V : Nat → Prop} {nd : Nat → Nat} {tm : Nat → Timer} {f0 : Lk} {s0 : BT} {done : List (Nat × BT)} {s : BT} {x : Option Nat} (hnd : ∀ i, V i → nd i < B) : OwnFrom B (fun (_ : β) W => ∃ f, EachI V nd tm f0 s0 done s x f W) :=
  fun u W W' row ⟨f, h⟩ hg hr => ⟨f, ⟨fun i hi => (hg.block (nd i) (h.nm.lt hi) fun e => by have := (hr _ e.symm).1; have := hnd i hi; omega).trans (h.nm.blk i hi), h.nm.inj⟩, h.half, h.all, h.out⟩
/-- What a round of gather's loop keeps. -/
def GI (V : Nat → Prop) (nd : Nat → Nat) (w : World) (pre : List Nat) (W : World) : Prop :=
  (∃ v, Boxed W (w.heap.size + 1) 68 v ∧ W.ownsRow (w.heap.size + 1) 69 1 v pre.length (pre.map fun i => Value.pointer (some ⟨nd i, 0, none⟩)) ∧ True) ∧ Blk W w.heap.size 69 #[.pointer none] ∧ Chg (NB V nd) w W
theorem GI.own {V : Nat → Prop} {nd : Nat → Nat} {w : World} {B : Nat} (hB : w.heap.size < B) : OwnFrom B (GI V nd w) :=
  OwnFrom.and (Own.from (holdsRow_own (w.heap.size + 1) (w.heap.size + 1) 68 69 1 (fun pre : List Nat => pre.length) (fun pre => pre.map fun i => Value.pointer (some ⟨nd i, 0, none⟩)) (fun _ _ => True)) _) (OwnFrom.and (ownFrom_blk hB) (ownFrom_chg (Nat.le_of_lt hB)))
theorem GI.chg {V : Nat → Prop} {nd : Nat → Nat} {w : World} (hnd : ∀ i, V i → nd i < w.heap.size) {pre : List Nat} {X Y : World} (h : GI V nd w pre X) (k : Chg (NB V nd) X Y) : GI V nd w pre Y := by
  have hN : ∀ g, NB V nd g → g < w.heap.size := fun g ⟨i, hi, e⟩ => by have := hnd i hi; omega
  obtain ⟨⟨v, h1, h2, _⟩, h3, h4⟩ := h
  exact ⟨⟨v, Blk.chg h1 k fun e => by have := hN _ e; omega, ownsRow_keep h2 fun g hlt hv => k.block g hlt fun e => by have := own_base h2 g hv; have := hN g e; omega, trivial⟩, h3.chg k fun e => by have := hN _ e; omega, h4.trans k fun _ _ e => e⟩
set_option maxRecDepth 100000 in
set_option maxHeartbeats 4000000 in
theorem ph_gather (V : Nat → Prop) (nd : Nat → Nat) (tm : Nat → Timer) (f : Lk) (s : BT) (b x : Option Nat) (w : World) (hH : Half f tm [] b s x) (hV : ∀ i ∈ s.ids, V i) (hN : NM w V nd tm f) (hlen : s.ids.length ≤ 1024) :
    Calls Try.prog 54 #[ptrN nd x] w fun e w' => ∃ f' M, e = .returned (ptrN nd (rootL M)) ∧ Forest f' tm M ∧ M.length ≤ 1 ∧ (fids M).Perm s.ids ∧ (∀ i, i ∉ s.ids → f.Eq f' i) ∧ NM w' V nd tm f' ∧ Chg (NB V nd) w w' := by
  have hnd : ∀ i, V i → nd i < w.heap.size := fun i hi => hN.lt hi
  have hT0 : Boxed ((w.alloc (.cells #[.pointer none] 69)).alloc (.cells #[.slice none 0 0] 68)) (w.heap.size + 1) 68 (.slice none 0 0) := by simpa using Boxed.new (w.alloc (.cells #[.pointer none] 69)) 68 (.slice none 0 0)
  have hP0 : Blk ((w.alloc (.cells #[.pointer none] 69)).alloc (.cells #[.slice none 0 0] 68)) w.heap.size 69 #[.pointer none] := (Blk.new _ _ _).alloc _
  have hbl : Below w.heap.size w ((w.alloc (.cells #[.pointer none] 69)).alloc (.cells #[.slice none 0 0] 68)) := two_new _ _ _
  have hsz : ((w.alloc (.cells #[.pointer none] 69)).alloc (.cells #[.slice none 0 0] 68)).heap.size = w.heap.size + 1 + 1 := by simp
  have hea := peach_any nd x ((w.alloc (.cells #[.pointer none] 69)).alloc (.cells #[.slice none 0 0] 68))
  generalize hpx : ptrN nd x = px at *
  refine (callsIn_wide (n := 3)).1 ?_
  refine callsIn_of_wp_marks Try.func54 rfl trivial ?_ rfl
  simp only [Try.ntmps54, List.size_toArray, List.length_cons, List.length_nil, Nat.reduceAdd, Nat.reduceSub, Array.replicate_succ, Array.replicate_zero, List.push_toArray, List.append_toArray, List.nil_append, List.cons_append]
  gi_wp2_with (refine ⟨trivial, ?_⟩; gi_at_call 65; refine (callsIn_wide.2 hea).mono ?_; rintro e w' ⟨rfl, rfl⟩)
  clear hea
  generalize (w.alloc (.cells #[.pointer none] 69)).alloc (.cells #[.slice none 0 0] 68) = wr at *
  have hB1 : Blk (wr.alloc (.cells #[px] 69)) wr.heap.size 69 #[px] := Blk.new _ _ _
  have hT1 := hT0.alloc (.cells #[px] 69)
  have hP1 := hP0.alloc (.cells #[px] 69)
  have hb1 : Below w.heap.size w (wr.alloc (.cells #[px] 69)) := hbl.alloc (by omega) _
  have hse : (wr.alloc (.cells #[px] 69)).heap.size = w.heap.size + 1 + 1 + 1 := by simp [hsz]
  rw [hsz] at *
  generalize wr.alloc (.cells #[px] 69) = w0 at *
  clear hT0 hP0 hbl hsz
  have hN0 := hN.below hb1
  have h0 : GI V nd w [] w0 := ⟨⟨_, hT1, ⟨rfl, .inl ⟨rfl, rfl⟩⟩, trivial⟩, hP1, Chg.of_same hb1 _⟩
  have hE0 : EachI V nd tm f s [] s x f w0 := ⟨hN0, ⟨b, hH⟩, by simp, fun _ _ => Lk.Eq.refl _ _⟩
  have hndB : ∀ i, V i → nd i < w0.heap.size := fun i hi => by have := hnd i hi; omega
  have HH := Lib.hid hH
  clear hT1 hP1 hb1 hN hN0
  refine range_turns (α := Nat) (N := 4096) (by omega) (gf := 78) (lb := #[.pointer (some ⟨w.heap.size + 1 + 1, 0, none⟩)]) rfl trivial (enters_of Try.func78 (by kernel_rfl) rfl)
    (encs := fun i => #[.pointer (some ⟨nd i, 0, none⟩)]) (Ok := V) (xs := (topsL s).map (·.1)) (S := fun W => ∃ f1, EachI V nd tm f s (topsL s) .nil none f1 W) (n₀ := w.heap.size + 1) (by omega) (Wr := Chg (NB V nd)) ?seq ?wr (fun _ => rfl)
    (GI V nd w) (GI.own (by omega)) (fun pre X Y h k => h.chg hnd k) (ownFrom_each hndB) h0 ?a1 ?assign ?body ?done
  case seq =>
    intro l J W hb hJ hY hJ0
    refine (peach1_in 2 (by omega) l (w.heap.size + 1) (w.heap.size + 1 + 1) V nd tm f s x hV hlen (fun i hi => by have := hnd i hi; omega) J hJ hY W ⟨hE0.nm.below hb, hE0.half, hE0.all, hE0.out⟩ (by rw [hpx]; exact hB1.below hb hB1.lt) hJ0).mono ?_
    rintro e W' ⟨⟨v, rfl⟩, f1, hE, hJx⟩
    exact ⟨⟨v, rfl⟩, ⟨f1, hE⟩, hJx⟩
  case wr =>
    intro X Y k o hk hB hX hc
    exact (hk.block k (Array.getElem?_eq_some_iff.1 hX).1 fun ⟨i, hi, e⟩ => by have := hndB i hi; omega).trans hX
  case assign =>
    intro l x W K hK
    gi_wp2
    exact hK
  case body =>
    rintro l pre x W ⟨⟨v, hv, hrow, _⟩, hP, hC⟩ hx hlt
    obtain ⟨i0, hi, hz0, hz1, hz2⟩ := info_parts info_pn
    have hc := hv.cell
    have hcs := hC.size
    have hW1 : w.heap.size + 1 ≤ W.heap.size := by have := hv.lt; omega
    generalize hgx : nd x = gx at *
    gi_wp2_with (gi_at_builtin; refine wpListIn_append_own _ rfl _ _ 68 rfl (w.heap.size + 1) 69 i0 (.pointer none) 1 8 Try.underlying68 hi hz0 hz1 hz2 rfl (by decide) _ _ _ rfl (hrow.alloc _) ⟨W.heap.size, 0, none⟩ 1 1 [.pointer (some ⟨gx, 0, none⟩)] rfl rfl (cell_one_new _ _ _) (by simp [Value.oneCell']) (by unfold maxLen; omega) (by omega) (by simp; omega) ?_; intro v' w1 hown' hgrow _; obtain ⟨g', cap', rfl⟩ := ownsRow_succ hown'; obtain ⟨hv1, hv2, hr2, hk2, hb2⟩ := hv.appended (by decide) hrow hW1 (Nat.le_refl _) hown' hgrow; have hc1 := hv1.cell; have hf1 := hv1.frozen)
    have hP2 := hP.below hb2 (by omega)
    refine ⟨hk2.from _, hb2, ⟨⟨_, hv2, ?_, trivial⟩, hP2, hC.trans (Chg.of_below hb2) fun g hg e => absurd e (by omega)⟩⟩
    simpa [hgx] using hr2
  case done =>
    rintro D W hD ⟨f1, hE⟩ ⟨⟨v, hv, hrow, _⟩, hP, hC⟩ hK
    have hc := hP.cell
    have hz := hP.frozen
    have hl := hP.lt
    gi_wp2
    have hD1 : w.heap.size + 1 + 1 + 1 ≤ D := by omega
    have hP2 := hP.put 0 (.pointer none)
    simp only [List.setIfInBounds_toArray, List.set_cons_zero] at hP2
    have hv2 : Blk (W.setCell ⟨w.heap.size, 0, none⟩ (.pointer none)) (w.heap.size + 1) 68 #[v] := Blk.far hv (by simp) _
    have hK2 := chg_cell W w.heap.size 0 (.pointer none)
    have hC2 : Chg (NB V nd) w (W.setCell ⟨w.heap.size, 0, none⟩ (.pointer none)) := hC.trans hK2 fun g hg e => absurd e (by omega)
    have hN2 := hE.nm.chg hK2 fun i hi e => by have := hnd i hi; omega
    have hr2 : OwnP nd (W.setCell ⟨w.heap.size, 0, none⟩ (.pointer none)) (w.heap.size + 1) v ((topsL s).map (·.1)) := ownsRow_keep hrow fun g hg hv => hK2.block g hg fun e => by have := own_base hrow g hv; omega
    have hK' : (W.setCell ⟨w.heap.size, 0, none⟩ (.pointer none)).heap[D]? = some (.deferred (some [])) := (KeepsOthers.setCell W ⟨w.heap.size, 0, none⟩ (.pointer none)).same D _ hK rfl
    generalize W.setCell ⟨w.heap.size, 0, none⟩ (.pointer none) = W2 at *
    have hg3 := grownBy_putObj' W2 D (.deferred none)
    have hne : ∀ k, k < w.heap.size + 1 + 1 + 1 → some k ≠ some D := fun k hk e => by injection e with e; omega
    have hP3 : Blk (W2.putObj D (.deferred none)) w.heap.size 69 #[.pointer none] := (hg3.block _ hP2.lt (hne _ (by omega))).trans hP2
    have hv3 : Blk (W2.putObj D (.deferred none)) (w.heap.size + 1) 68 #[v] := (hg3.block _ hv2.lt (hne _ (by omega))).trans hv2
    have hN3 : NM (W2.putObj D (.deferred none)) V nd tm f1 := ⟨fun i hi => (hg3.block _ (hN2.lt hi) (hne _ (by have := hnd i hi; omega))).trans (hN2.blk i hi), hN2.inj⟩
    have hr3 : OwnP nd (W2.putObj D (.deferred none)) (w.heap.size + 1) v ((topsL s).map (·.1)) := ownsRow_putObj hr2 _ hK' rfl
    have hC3 : Chg (NB V nd) w (W2.putObj D (.deferred none)) := ⟨hg3.os.trans hC2.os, hg3.tape.trans hC2.tape, hg3.output.trans hC2.output, Nat.le_trans hC2.size hg3.size, fun k hk hn => (hg3.block k (Nat.lt_of_lt_of_le hk hC2.size) (hne k (by omega))).trans (hC2.block k hk hn)⟩
    obtain ⟨b1, hH1⟩ := hE.half
    have hsz3 := hg3.size
    have hpl := hr3.pl (Nat.le_refl _)
    have htl : (topsL s).length ≤ 1024 := by
      have h1 := (tops_sub (topsL s)).length_le
      rw [topsL_ids] at h1
      simp at h1
      omega
    have hga := fun n u => ph_gather1 n V nd tm w.heap.size f1 (topsL s) v (w.heap.size + 1) w.heap.size _ hH1.fr (by rw [topsL_ids]; exact hV) hN3 (hpl.mono (Nat.le_succ _)) hnd (Nat.le_trans hC2.size hsz3) htl hv3 hP3 (by omega) (by omega) (Nat.le_refl _) u
    refine ⟨by simp, .inl ⟨_, _, rfl, run_takeDeferred hK', ?_⟩⟩
    refine ⟨by simp, .inr ⟨by simp, _, _, 63, #[.pointer (some ⟨w.heap.size + 1, 0, none⟩), .pointer (some ⟨w.heap.size, 0, none⟩)], rfl, by simp [invoke, go_sem], fun _ _ => trivial, (hga _ _).mono ?_⟩⟩
    rintro e u' w'' ⟨rfl, ⟨vv, rfl⟩, f2, M, hFM, hM1, hMp, hMe, hNM, hBM, hCM⟩
    have hcm := hBM.cell
    refine ⟨ptrN nd (rootL M), ?_, f2, M, rfl, hFM, hM1, hMp.trans (by rw [topsL_ids]), fun i hi => (hE.out i hi).trans (hMe i (by rw [topsL_ids]; exact hi)), hNM, hC3.trans hCM fun g hg e => ?_⟩
    · simp [results, Try.results54, go_sem, hcm]
    · rcases e with e | e | e
      · exact e
      · omega
      · omega
end Go.Proofs.Ytpbepmipfjcjbaa
namespace Go.Proofs.Ytpbepmipfjcjbaa
open Go.RowKit

theorem nodup_len : ∀ (l m : List Nat), l.Nodup → (∀ x ∈ l, x ∈ m) → l.length ≤ m.length
  | [], _, _, _ => Nat.zero_le _
  | x :: l, m, hn, hs => by
    have hn' := List.nodup_cons.1 hn
    have hx := hs x (by simp)
    have := nodup_len l (m.erase x) hn'.2 (fun y hy => (List.mem_erase_of_ne (fun e => hn'.1 (by rw [← e]; exact hy))).2 (hs y (List.mem_cons_of_mem _ hy)))
    rw [List.length_erase_of_mem hx] at this
    have h0 : 0 < m.length := List.length_pos_of_mem hx
    simp only [List.length_cons]
    omega
theorem qs_nodes {q nb P : Nat} {on : Nat → Bool} {nd : Nat → Nat} {w w' : World} (k : Chg (NB (Liv P on) nd) w w') : Chg (QS q nb P on nd) w w' := k.mono fun _ _ e => .inr (.inr e)
/-- cut, in the queue's words: x stands by itself, with what stood below it. -/
theorem ph_cutq (q nb P : Nat) (on : Nat → Bool) (nd : Nat → Nat) (tm : Nat → Timer) (f : Lk) (L : List (Nat × BT)) (n : Int) (x : Nat) (w : World) (h : PM w q nb P on nd tm f (rootL L) n) (hp : PF P on tm f L) (hL : L.length ≤ 1) (hx : x < P) (ho : on x = true) :
    Calls Try.prog 49 #[.pointer (some ⟨q, 0, none⟩), .pointer (some ⟨nd x, 0, none⟩)] w fun e w' => e = .returned (.tuple #[]) ∧ ∃ s C f1, C.length ≤ 1 ∧ PF P on tm f1 ((x, s) :: C) ∧ PM w' q nb P on nd tm f1 (rootL C) n ∧ Chg (QS q nb P on nd) w w' := by
  by_cases hr : rootL L = some x
  · obtain ⟨s, rfl⟩ := hp.first hL hx ho hr
    refine (ph_cut_top q nb P nd x n w h.qb).mono ?_
    rintro e w' ⟨rfl, rfl⟩
    exact ⟨rfl, s, [], f, by simp, hp, h.root_ none, (chg_cell w q 1 _).mono fun _ _ e => .inl e⟩
  · obtain ⟨r, s, rfl, hne, hp2, ⟨p, hpP, hpo, hk⟩, hbs⟩ := hp.second hL hx ho hr
    obtain ⟨n1, n2⟩ := hp.ne_self hx ho hne
    refine (ph_cut q nb P (Liv P on) nd tm f (some r) x p n w h.nm h.qb ⟨hx, ho⟩ (fun e => hne (by injection e)) (fun r' e => ?_) hk ⟨hpP, hpo⟩ (n1 p hk) (fun c hc => hp.ways ⟨hpP, hpo⟩ (.inl hc)) (fun y hy => ⟨hbs y hy, n2 y hy⟩)).mono ?_
    · injection e with e
      subst e
      exact (hp.mem r).1 (by simp [fids])
    · rintro e w' ⟨rfl, hm⟩
      exact ⟨rfl, _, _, _, by simp, hp2, h.nodes hm.nm hm.chg, qs_nodes hm.chg⟩
/-- What the memory is in the second part of take, of the operations p done, with the values vs. -/
structure STk (V : Nat → Prop) (nd : Nat → Nat) (tm : Nat → Timer) (f : Lk) (x : Nat) (s : BT) (C : List (Nat × BT)) (we : World) (p : Nat → Bool) (vs : Nat → Value) (w : World) : Prop where
  low : ∃ g, NM w V nd tm g ∧ g.bl x = f.bl x
  ahead : p 9 = false → NM w V nd tm f
  mid : p 9 = true → p 10 = false → ∃ g M, vs 9 = ptrN nd (rootL M) ∧ Forest g tm M ∧ M.length ≤ 1 ∧ (fids M).Perm s.ids ∧ (∀ i, i ∉ s.ids → f.Eq g i) ∧ NM w V nd tm g
  last : p 10 = true → ∃ g M, vs 10 = ptrN nd (meldO tm g (rootL C) (rootL M)).2 ∧ Forest g tm M ∧ M.length ≤ 1 ∧ (fids M).Perm s.ids ∧ (∀ i, i ∉ s.ids → f.Eq g i) ∧ NM w V nd tm (meldO tm g (rootL C) (rootL M)).1
  chg : Chg (NB V nd) we w
  dep : p 10 = true → p 9 = true
theorem STk.other {V : Nat → Prop} {nd : Nat → Nat} {tm : Nat → Timer} {f : Lk} {x : Nat} {s : BT} {C : List (Nat × BT)} {we w : World} {p : Nat → Bool} {vs : Nat → Value} (h : STk V nd tm f x s C we p vs w) {i : Nat} (h9 : i ≠ 9) (h10 : i ≠ 10) (v : Value) : STk V nd tm f x s C we (also p i) (updV vs i v) w := by
  have e9 : also p i 9 = p 9 := by simp [also, Ne.symm h9]
  have e10 : also p i 10 = p 10 := by simp [also, Ne.symm h10]
  refine ⟨h.low, ?_, ?_, ?_, h.chg, by rw [e9, e10]; exact h.dep⟩
  · rw [e9]; exact h.ahead
  · rw [e9, e10, updV_ne _ _ (Ne.symm h9)]; exact h.mid
  · rw [e10, updV_ne _ _ (Ne.symm h10)]; exact h.last
section
variable {V : Nat → Prop} {nd : Nat → Nat} {tm : Nat → Timer} {f g : Lk} {x : Nat} {s : BT} {C M : List (Nat × BT)} {we w w' : World} {p : Nat → Bool} {vs : Nat → Value}
theorem STk.gath (h : STk V nd tm f x s C we p vs w) (h9 : p 9 = false) (hxs : x ∉ s.ids) (hF : Forest g tm M) (hM : M.length ≤ 1) (hp : (fids M).Perm s.ids) (he : ∀ i, i ∉ s.ids → f.Eq g i) (hN : NM w' V nd tm g) (k : Chg (NB V nd) w w') :
    STk V nd tm f x s C we (also p 9) (updV vs 9 (ptrN nd (rootL M))) w' := by
  have e10 : also p 9 10 = p 10 := by simp [also]
  have e9 : also p 9 9 = true := by simp [also]
  have h10 : p 10 = true → False := fun e => by rw [h.dep e] at h9; cases h9
  exact ⟨⟨g, hN, (he x hxs).1⟩, fun e => (by rw [e9] at e; cases e), fun _ _ => ⟨g, M, updV_at _ _ _, hF, hM, hp, he, hN⟩, fun e => (h10 (by rw [← e10]; exact e)).elim, h.chg.trans k fun _ _ e => e, fun _ => e9⟩
theorem STk.meld (h : STk V nd tm f x s C we p vs w) (h9 : p 9 = true) (hxs : x ∉ s.ids) (hxC : x ∉ fids C) (hC : C.length ≤ 1) (hFC : Forest g tm (C ++ M)) (hF : Forest g tm M) (hM : M.length ≤ 1) (hp : (fids M).Perm s.ids) (he : ∀ i, i ∉ s.ids → f.Eq g i) (k : MO V nd tm (meldO tm g (rootL C) (rootL M)).1 w w') :
    STk V nd tm f x s C we (also p 10) (updV vs 10 (ptrN nd (meldO tm g (rootL C) (rootL M)).2)) w' := by
  have e10 : also p 10 10 = true := by simp [also]
  have e9 : also p 10 9 = p 9 := by simp [also]
  obtain ⟨_, _, _, _, _, h5⟩ := Forest.meldO (R := []) (by simpa using hFC) hC hM
  have hx5 := h5 x fun e => by
    rcases List.mem_append.1 e with e | e
    · exact hxC e
    · exact hxs (hp.mem_iff.1 e)
  exact ⟨⟨_, k.nm, hx5.1.trans (he x hxs).1⟩, fun e => (by rw [e9, h9] at e; cases e), fun _ e => (by rw [e10] at e; cases e), fun _ => ⟨g, M, updV_at _ _ _, hF, hM, hp, he, k.nm⟩, h.chg.trans k.chg fun _ _ e => e, fun _ => by rw [e9]; exact h9⟩
end
def FTk (l : List Value) (j : Nat) (v : Value) (_ : World) : Prop := if j = 9 ∨ j = 10 then True else v = l.getD j undef
attribute [local irreducible] Calls
set_option linter.unusedSimpArgs false in
set_option maxRecDepth 100000 in
set_option maxHeartbeats 4000000 in
theorem ph_take (q nb P : Nat) (on : Nat → Bool) (nd : Nat → Nat) (tm : Nat → Timer) (f : Lk) (L : List (Nat × BT)) (n : Int) (x : Nat) (w : World) (h : PM w q nb P on nd tm f (rootL L) n) (hp : PF P on tm f L) (hL : L.length ≤ 1) (hP : P ≤ 1024) (hx : x < P) (ho : on x = true) :
    Calls Try.prog 40 #[.pointer (some ⟨q, 0, none⟩), .pointer (some ⟨nd x, 0, none⟩)] w fun e w' => e = .returned (.tuple #[]) ∧ ∃ D f1, D.length ≤ 1 ∧ PF P (updB on x false) tm f1 D ∧ PM w' q nb P on nd tm f1 (rootL D) n ∧ f1.bl x = none ∧ f1.bs x = none ∧ f1.bk x = none ∧ Chg (QS q nb P on nd) w w' := by
  have hcu := ph_cutq q nb P on nd tm f L n x w h hp hL hx ho
  go_enter Try.func40, Try.ntmps40
  go_wp2_with fail
  refine hcu.mono ?_
  rintro e w1 ⟨rfl, s, C, f1, hC1, hp1, h1, hk1⟩
  clear hcu
  have hV : Liv P on x := ⟨hx, ho⟩
  have hsl : s.ids.length ≤ 1024 := by
    have hnd := hp1.fr.nd
    rw [fids_cons] at hnd
    have h2 : s.ids.Nodup := (List.nodup_cons.1 (List.nodup_append.1 hnd).1).2
    have := nodup_len s.ids (List.range P) h2 fun i hi => List.mem_range.2 ((hp1.mem i).1 (by rw [fids_cons]; simp [hi])).1
    simp at this
    omega
  have hsV : ∀ i ∈ s.ids, Liv P on i := fun i hi => (hp1.mem i).1 (by rw [fids_cons]; simp [hi])
  have hxs : x ∉ s.ids ∧ x ∉ fids C := by
    have hnd := hp1.fr.nd
    rw [fids_cons] at hnd
    obtain ⟨a1, _, a3⟩ := List.nodup_append.1 hnd
    exact ⟨(List.nodup_cons.1 a1).1, fun e => a3 x (by simp) x e rfl⟩
  obtain ⟨hqn, hnq⟩ := h1.ne
  have hga := fun w' (hn : NM w' (Liv P on) nd tm f1) => ph_gather (Liv P on) nd tm f1 s (some x) (f1.bl x) w' hp1.half hsV hn hsl
  have hs0 : STk (Liv P on) nd tm f1 x s C w1 (fun _ => false) (fun _ => undef) w1.drew := ⟨⟨f1, h1.nm.drew, rfl⟩, fun _ => h1.nm.drew, fun e => (by cases e), fun e => (by cases e), (Chg.refl _ _).drew, fun e => (by cases e)⟩
  go_wp2_with fail
  refine region_facts_val 11 (fun _ => false) (FTk [.pointer (some ⟨q, 0, none⟩), .pointer (some ⟨q, 0, none⟩), .pointer (some ⟨q, 0, none⟩), .pointer (some ⟨q, 1, none⟩), ptrN nd (rootL C), .pointer (some ⟨nd x, 0, none⟩), .pointer (some ⟨nd x, 0, none⟩), .pointer (some ⟨nd x, 3, none⟩), ptrN nd (f1.bl x)]) (STk (Liv P on) nd tm f1 x s C w1) (fun _ x y => x.heap.size ≤ y.heap.size) [7, 8, 9, 10, 11, 12, 13, 14, 15, 16, 17] (by kernel_rfl) (by kernel_rfl) (by kernel_rfl) (by decide) (by kernel_rfl)
    (fun _ _ _ _ _ _ h _ => h) (fun _ _ _ h => h) (fun vs => ⟨hs0.low, hs0.ahead, fun e => (by cases e), fun e => (by cases e), hs0.chg, hs0.dep⟩) ?_ ?_
  · intro fr hfr
    have f0 : fr.getD 0 undef = .pointer (some ⟨q, 0, none⟩) := by rw [hfr]; rfl
    have f1' : fr.getD 1 undef = .pointer (some ⟨nd x, 0, none⟩) := by rw [hfr]; rfl
    clear hfr
    iterate 10
      refine ⟨⟨trivial, ?_⟩, ?_⟩
      · intro ρ w' p vs hp hdq hρ hd hV9 hSt
        simp only [DepF, Region.binds, List.getD_cons_zero, List.getD_cons_succ, FTk, forall_const, and_true, true_and, Nat.reduceEqDiff, if_false, if_true, reduceIte, reduceCtorEq, or_false, false_or, or_self] at hd
        have hcon := hρ.con
        have e0 := (hρ.slot 0 (by kernel_rfl)).trans f0
        have e1 := (hρ.slot 1 (by kernel_rfl)).trans f1'
        have eq := (Blk.chg h1.qb hSt.chg (fun ⟨i, hi, e⟩ => (hnq i hi).1 e)).cell
        obtain ⟨gl, hgl, hbl⟩ := hSt.low
        have en := (hgl.blk x hV).cell
        unfold ndC at en
        rw [hbl] at en
        clear hgl hbl
        clear hdq hV9
        (try rw [execOp_call_fn _ _ _ _ _ _ _ _ _ (hρ.fn _)])
        go_simp
        (try simp only [GoodV, FTk, List.getD_cons_zero, List.getD_cons_succ, Nat.reduceEqDiff, if_false, if_true, reduceIte, reduceCtorEq, or_false, false_or, or_self])
        first
          | exact ⟨fun h => absurd h (by decide), rfl, Nat.le_refl _, fun h => absurd h (by decide), hSt.other (by decide) (by decide) _⟩
          | exact ⟨fun h => absurd h (by decide), trivial, Nat.le_refl _, fun h => absurd h (by decide), hSt.other (by decide) (by decide) _⟩
          | (refine (hga w' (hSt.ahead hp)).mono ?_
             rintro e w'' ⟨g, M, rfl, hF, hM1, hMp, hMe, hN, hC⟩
             exact ⟨_, rfl, fun h => absurd h (by decide), trivial, hC.size, fun h => absurd h (by decide), hSt.gath hp hxs.1 hF hM1 hMp hMe hN hC⟩)
    refine ⟨⟨trivial, ?_⟩, ?_⟩
    · intro ρ w' p vs hp hdq hρ hd hV9 hSt
      simp [DepQ, Region.binds] at hdq
      have h9 : p 9 = true := by first | exact hdq.2 | exact hdq.2.1
      have hp' : p 10 = false := hp
      obtain ⟨g, M, hv9, hF, hM1, hMp, hMe, hN⟩ := hSt.mid h9 hp'
      have e16 : ρ (.tmp 16) = ptrN nd (rootL M) := (hV9 9 h9).trans hv9
      simp only [DepF, Region.binds, List.getD_cons_zero, List.getD_cons_succ, FTk, forall_const, and_true, true_and, Nat.reduceEqDiff, if_false, if_true, reduceIte, reduceCtorEq, or_false, false_or, or_self, or_true, true_or] at hd
      obtain ⟨ho1, _, _⟩ := hp1.out hF hMp hMe
      have hme := ph_meld_roots (R := []) hN (A := C) (B := M) (by simpa using ho1.fr) fun i hi => by
        rw [List.append_nil] at hi
        obtain ⟨a1, a2⟩ := (ho1.mem i).1 hi
        refine ⟨a1, ?_⟩
        unfold updB at a2
        split at a2
        · cases a2
        · exact a2
      clear hdq hV9
      rw [execOp_call_fn _ _ _ _ _ _ _ _ _ (hρ.fn _)]
      go_simp
      simp only [GoodV, FTk, List.getD_cons_zero, List.getD_cons_succ, Nat.reduceEqDiff, if_false, if_true, reduceIte, reduceCtorEq, or_false, false_or, or_self]
      refine hme.mono ?_
      rintro e w'' ⟨rfl, hx⟩
      exact ⟨_, rfl, fun h => absurd h (by decide), by simp, hx.chg.size, fun h => absurd h (by decide), hSt.meld h9 hxs.1 hxs.2 hC1 ho1.fr hF hM1 hMp hMe hx⟩
    trivial
  · intro vs w6 hSt hF _
    obtain ⟨g, M, hv10, hFM, hM1, hMp, hMe, hN6⟩ := hSt.last (by simp)
    obtain ⟨D, d1, d2, d3, d4, d5⟩ := hp1.take hC1 hFM hM1 hMp hMe
    have h0 : vs 0 = .pointer (some ⟨q, 0, none⟩) := by simpa [FTk] using hF 0 (by decide)
    have e10 : vs 10 = ptrN nd (meldO tm g (rootL C) (rootL M)).2 := by simpa using hv10
    rw [← d3] at e10
    have hC6 := hSt.chg
    generalize meldO tm g (rootL C) (rootL M) = mo at *
    obtain ⟨f3, mr⟩ := mo
    dsimp only at d2 d3 d4 d5 hN6
    have h6 := h1.nodes hN6 hC6
    have h7 := h6.root_ (rootL D)
    have h8 := h7.nodes (h7.nm.bl hV none) (chg_nd x hV _ 3 _)
    have hk8 : Chg (QS q nb P on nd) w (((w6.setCell ⟨q, 1, none⟩ (ptrN nd (rootL D))).setCell ⟨nd x, 3, none⟩ (ptrN nd none))) :=
      ((hk1.trans (qs_nodes hC6) fun _ _ e => e).trans ((chg_cell w6 q 1 _).mono fun _ _ e => .inl e) fun _ _ e => e).trans (qs_nodes (chg_nd x hV _ 3 _)) fun _ _ e => e
    have cq := Blk.cell h6.qb
    have zq := Blk.frozen h6.qb
    have lq := Blk.lt h6.qb
    have cx := (h7.nm.blk x hV).cell
    have zx := (h7.nm.blk x hV).frozen
    have lx := (h7.nm.blk x hV).lt
    have RES : Hid (∃ D' f1, D'.length ≤ 1 ∧ PF P (updB on x false) tm f1 D' ∧ PM ((w6.setCell ⟨q, 1, none⟩ (ptrN nd (rootL D))).setCell ⟨nd x, 3, none⟩ (.pointer none)) q nb P on nd tm f1 (rootL D') n ∧ f1.bl x = none ∧ f1.bs x = none ∧ f1.bk x = none ∧ Chg (QS q nb P on nd) w ((w6.setCell ⟨q, 1, none⟩ (ptrN nd (rootL D))).setCell ⟨nd x, 3, none⟩ (.pointer none))) :=
      Lib.hid ⟨D, _, d1, d2, h8, updO_at _ _ _, d4, d5, hk8⟩
    simp only [setAll, List.setIfInBounds_toArray, List.set_cons_zero, List.set_cons_succ, Nat.reduceAdd]
    rw [h0, e10]
    simp only [List.drop_succ_cons, List.drop_zero, List.drop_nil]
    clear h0 e10 hF hSt hv10 hga hs0 d2 d3 d4 d5 hN6 h6 h7 h8 hk8 h h1 hp hp1 hC6
    generalize rootL D = rd at *
    clear hk1
    cases rd with
    | none =>
      simp only [ptrN] at cx zx lx RES ⊢
      unfold ndC at cx
      go_upto_region 2 with fail
      generalize w6.setCell ⟨q, 1, none⟩ (.pointer none) = w7 at *
      clear cq zq lq
      go_wp2_with fail
      go_end0
      exact ⟨rfl, RES.out⟩
    | some j =>
      simp only [ptrN] at cx zx lx RES ⊢
      unfold ndC at cx
      go_upto_region 2 with fail
      generalize w6.setCell ⟨q, 1, none⟩ (.pointer (some ⟨nd j, 0, none⟩)) = w7 at *
      clear cq zq lq
      go_wp2_with fail
      go_end0
      exact ⟨rfl, RES.out⟩
end Go.Proofs.Ytpbepmipfjcjbaa
namespace Go.Proofs.Ytpbepmipfjcjbaa
open Go.RowKit
def teV (t : Timer) (c : Int) : Value := .tuple #[t.val, .int .i64 c]
theorem liv_off {P : Nat} {on : Nat → Bool} {i j : Nat} (h : Liv P (updB on i false) j) : Liv P on j := by
  obtain ⟨h1, h2⟩ := h
  unfold updB at h2
  split at h2
  · cases h2
  · exact ⟨h1, h2⟩
/-- One is out: its slot holds none. -/
theorem PM.clear {w : World} {q nb P : Nat} {on : Nat → Bool} {nd : Nat → Nat} {tm : Nat → Timer} {f : Lk} {root : Option Nat} {n : Int} (h : PM w q nb P on nd tm f root n) {i : Nat} (hi : i < P) : PM (w.setCell ⟨nb, i, none⟩ (.pointer none)) q nb P (updB on i false) nd tm f root n := by
  obtain ⟨h1, h2⟩ := h.ne
  refine ⟨(h.nm.chg (chg_cell w nb i _) fun j hj e => (h2 j hj).2 e).sub fun j hj => liv_off hj, Blk.chg h.qb (chg_cell w nb i _) h1, ?_⟩
  have := h.ar.put i (.pointer none)
  rwa [naC_clear P on nd i hi] at this
theorem qs_off {q nb P i : Nat} {on : Nat → Bool} {nd : Nat → Nat} {g : Nat} (h : QS q nb P (updB on i false) nd g) : QS q nb P on nd g := by
  rcases h with h | h | ⟨j, hj, e⟩
  · exact .inl h
  · exact .inr (.inl h)
  · exact .inr (.inr ⟨j, liv_off hj, e⟩)
set_option maxRecDepth 100000 in
set_option maxHeartbeats 2000000 in
theorem ph_can_no (q nb P : Nat) (on : Nat → Bool) (nd : Nat → Nat) (tm : Nat → Timer) (f : Lk) (root : Option Nat) (n : Int) (p c : Int) (w : World) (h : PM w q nb P on nd tm f root n) (hP : P ≤ 1024) (hc0 : c ≠ 0) (hf : fndV P on nd p = .tuple #[.pointer none, .int .i64 c]) :
    Calls Try.prog 20 #[.pointer (some ⟨q, 0, none⟩), .int .i64 p] w fun e w' => e = .returned (teV Timer.zero c) ∧ Below w.heap.size w w' := by
  have HB := Lib.hid (show ∀ cs, Below w.heap.size w (w.alloc (.cells cs 35)) from fun cs => (Below.refl _ _).alloc (Nat.le_refl _) _)
  have hk := h.below (alloc_kept' w (.cells #[.int .u64 0, .int .u64 0, .int .i64 0] 35))
  have hfi := ph_find q nb P on nd tm f root n p _ hk hP
  rw [hf] at hfi
  clear h hk hf
  go_enter Try.func20, Try.ntmps20
  go_wp2_with fail
  refine hfi.mono ?_
  rintro e w1 ⟨rfl, rfl⟩
  clear hfi
  go_wp2_with fail
  refine bodyPost_ret (v := teV Timer.zero c) (by simp [results, Try.results20, go_sem, teV, Timer.val, Timer.zero]) rfl ⟨rfl, ?_⟩
  first | exact HB.out _ | exact (((HB.out _).setCell (Nat.le_refl _) _).setCell (Nat.le_refl _) _).setCell (Nat.le_refl _) _
attribute [local irreducible] Calls
set_option maxRecDepth 100000 in
set_option maxHeartbeats 4000000 in
theorem ph_can_ok (q nb P : Nat) (on : Nat → Bool) (nd : Nat → Nat) (tm : Nat → Timer) (f : Lk) (L : List (Nat × BT)) (n : Int) (x : Nat) (w : World) (h : PM w q nb P on nd tm f (rootL L) n) (hp : PF P on tm f L) (hL : L.length ≤ 1) (hP : P ≤ 1024) (hx : x < P) (ho : on x = true) (hn : 0 ≤ n ∧ n ≤ 1024) :
    Calls Try.prog 20 #[.pointer (some ⟨q, 0, none⟩), .int .i64 x] w fun e w' => e = .returned (teV (tm x) 0) ∧ ∃ D f1, D.length ≤ 1 ∧ PF P (updB on x false) tm f1 D ∧ PM w' q nb P (updB on x false) nd tm f1 (rootL D) (n - 1) ∧ Chg (QS q nb P on nd) w w' := by
  have hb0 := alloc_kept' w (.cells #[.int .u64 0, .int .u64 0, .int .i64 0] 35)
  have hk := h.below hb0
  have hfi := ph_find q nb P on nd tm f (rootL L) n x _ hk hP
  have hfv : fndV P on nd x = .tuple #[.pointer (some ⟨nd x, 0, none⟩), .int .i64 0] := by
    unfold fndV
    rw [if_neg (by omega), Int.toNat_natCast, if_pos ho]
  rw [hfv] at hfi
  have hta := ph_take q nb P on nd tm f L n x _ hk hp hL hP hx ho
  have hN0 := Blk.new w 35 #[.int .u64 0, .int .u64 0, .int .i64 0]
  have hV : Liv P on x := ⟨hx, ho⟩
  have hql := Blk.lt h.qb
  have hnl := h.ar.lt
  have hxl := h.nm.lt hV
  have hC0 : Chg (QS q nb P on nd) w (w.alloc (.cells #[.int .u64 0, .int .u64 0, .int .i64 0] 35)) := Chg.of_same hb0 _
  have hQl : ∀ g, QS q nb P on nd g → g < w.heap.size := fun g e => by
    rcases e with e | e | ⟨j, hj, e⟩
    · omega
    · omega
    · have := h.nm.lt hj; omega
  clear hk hfv
  go_enter Try.func20, Try.ntmps20
  go_wp2_with fail
  refine hfi.mono ?_
  rintro e w1 ⟨rfl, rfl⟩
  clear hfi
  generalize w.alloc (.cells #[.int .u64 0, .int .u64 0, .int .i64 0] 35) = w0 at *
  go_wp2_with fail
  refine hta.mono ?_
  rintro e w2 ⟨rfl, D, f1, hD, hPF, hM, _, _, _, hC⟩
  have hR2 := hN0.chg hC fun e => by have := hQl _ e; omega
  have hC2 := hC0.trans hC fun _ _ e => e
  have hM3 := hM.clear hx
  have hC3 := hC2.trans (chg_cell w2 nb x (.pointer none)) fun _ _ e => .inr (.inl e)
  have hM4 := hM3.count (n - 1)
  have hC4 := hC3.trans (chg_cell _ q 2 (.int .i64 (n - 1))) fun _ _ e => .inl e
  obtain ⟨hqn, hnq⟩ := hM.ne
  have hX4 := ((hM.nm.blk x hV).far (p := ⟨nb, x, none⟩) (hnq x hV).2 (.pointer none)).far (p := ⟨q, 2, none⟩) (hnq x hV).1 (.int .i64 (n - 1))
  have hR4 := (hR2.far (p := ⟨nb, x, none⟩) (by show w.heap.size ≠ nb; omega) (.pointer none)).far (p := ⟨q, 2, none⟩) (by show w.heap.size ≠ q; omega) (.int .i64 (n - 1))
  have hCs : Chg (fun g => g = w.heap.size) ((w2.setCell ⟨nb, x, none⟩ (.pointer none)).setCell ⟨q, 2, none⟩ (.int .i64 (n - 1))) (((((w2.setCell ⟨nb, x, none⟩ (.pointer none)).setCell ⟨q, 2, none⟩ (.int .i64 (n - 1))).setCell ⟨w.heap.size, 0, none⟩ (.int .u64 (tm x).at_)).setCell ⟨w.heap.size, 1, none⟩ (.int .u64 (tm x).seq)).setCell ⟨w.heap.size, 2, none⟩ (.int .i64 (tm x).place)) :=
    ((chg_cell _ w.heap.size 0 (.int .u64 (tm x).at_)).trans (chg_cell _ w.heap.size 1 (.int .u64 (tm x).seq)) fun _ _ e => e).trans (chg_cell _ w.heap.size 2 (.int .i64 (tm x).place)) fun _ _ e => e
  have hM5 : PM (((((w2.setCell ⟨nb, x, none⟩ (.pointer none)).setCell ⟨q, 2, none⟩ (.int .i64 (n - 1))).setCell ⟨w.heap.size, 0, none⟩ (.int .u64 (tm x).at_)).setCell ⟨w.heap.size, 1, none⟩ (.int .u64 (tm x).seq)).setCell ⟨w.heap.size, 2, none⟩ (.int .i64 (tm x).place)) q nb P (updB on x false) nd tm f1 (rootL D) (n - 1) :=
    ⟨hM4.nm.chg hCs fun j hj e => by have := hQl (nd j) (.inr (.inr ⟨j, liv_off hj, rfl⟩)); omega, Blk.chg hM4.qb hCs (by omega), hM4.ar.chg hCs (by omega)⟩
  have hC5 := hC4.trans hCs fun g hg e => absurd e (by omega)
  have RES := Lib.hid (And.intro hD (And.intro hPF (And.intro hM5 hC5)))
  have cq := Blk.cell hM.qb
  have cn := (hM.ar.cell x).trans (naC_get P on nd x hx)
  rw [if_pos ho] at cn
  have zn := hM.ar.frozen
  have ln := hM.ar.lt
  have cq3 := Blk.cell hM3.qb
  have zq3 := Blk.frozen hM3.qb
  have lq3 := Blk.lt hM3.qb
  have cx4 := hX4.cell
  unfold ndC at cx4
  have hW : wrap64 (n - 1) = n - 1 := by unfold wrap64; omega
  have cr := hR4.cell
  have zr := hR4.frozen
  have lr := hR4.lt
  generalize htx : tm x = t at *
  have HTX := Lib.hid htx
  clear htx
  generalize hgx : nd x = gx at *
  generalize ptrN nd (rootL D) = rv at *
  have HR4 := Lib.hid hR4
  clear hR4 hM hM3 hM4 hM5 hC hC2 hC3 hC4 hC5 hCs hX4 hR2 hta h hp hPF hN0 hC0 hQl hnq hb0
  go_upto_region 6 with fail
  generalize w2.setCell ⟨nb, x, none⟩ (.pointer none) = w3 at *
  clear cq cn zn ln
  go_upto_region 7 with fail
  generalize w3.setCell ⟨q, 2, none⟩ (.int .i64 (n - 1)) = w4 at *
  clear cq3 zq3 lq3
  have h7 := ((HR4.out.put 0 (.int .u64 t.at_)).put 1 (.int .u64 t.seq)).put 2 (.int .i64 t.place)
  simp only [List.setIfInBounds_toArray, List.set_cons_zero, List.set_cons_succ] at h7
  have c7 := h7.cell
  clear h7
  go_wp2_with fail
  refine bodyPost_ret (v := teV t 0) (by simp [results, Try.results20, go_sem, teV, Timer.val, c7]) rfl ⟨by rw [HTX.out], D, f1, RES.out.1, RES.out.2.1, RES.out.2.2.1, RES.out.2.2.2⟩
end Go.Proofs.Ytpbepmipfjcjbaa
namespace Go.Proofs.Ytpbepmipfjcjbaa
open Go.RowKit

set_option maxRecDepth 100000 in
set_option maxHeartbeats 2000000 in
theorem ph_mov_no (q nb P : Nat) (on : Nat → Bool) (nd : Nat → Nat) (tm : Nat → Timer) (f : Lk) (root : Option Nat) (n : Int) (t : Timer) (c : Int) (w : World) (h : PM w q nb P on nd tm f root n) (hP : P ≤ 1024) (hc0 : c ≠ 0) (hf : fndV P on nd t.place = .tuple #[.pointer none, .int .i64 c]) :
    Calls Try.prog 28 #[.pointer (some ⟨q, 0, none⟩), t.val] w fun e w' => e = .returned (.int .i64 c) ∧ Below w.heap.size w w' := by
  have hb0 := alloc_kept' w (.cells #[.int .u64 t.at_, .int .u64 t.seq, .int .i64 t.place] 35)
  have HB := Lib.hid hb0
  have hk := h.below hb0
  have hfi := ph_find q nb P on nd tm f root n t.place _ hk hP
  rw [hf] at hfi
  have bx := (Blk.new w 35 #[.int .u64 t.at_, .int .u64 t.seq, .int .i64 t.place]).cell
  clear h hk hf hb0
  unfold Timer.val
  go_enter Try.func28, Try.ntmps28
  go_wp2_with fail
  refine hfi.mono ?_
  rintro e w1 ⟨rfl, rfl⟩
  clear hfi
  go_wp2_with fail
  go_ret
  exact ⟨rfl, HB.out⟩
attribute [local irreducible] Calls
set_option linter.unusedSimpArgs false in
set_option maxRecDepth 100000 in
set_option maxHeartbeats 4000000 in
theorem ph_mov_ok (q nb P : Nat) (on : Nat → Bool) (nd : Nat → Nat) (tm : Nat → Timer) (f : Lk) (L : List (Nat × BT)) (n : Int) (t : Timer) (x : Nat) (w : World) (h : PM w q nb P on nd tm f (rootL L) n) (hp : PF P on tm f L) (hL : L.length ≤ 1) (hP : P ≤ 1024) (ht : t.place = x) (hx : x < P) (ho : on x = true) :
    Calls Try.prog 28 #[.pointer (some ⟨q, 0, none⟩), t.val] w fun e w' => e = .returned (.int .i64 0) ∧ ∃ D f1, D.length ≤ 1 ∧ PF P on (updT tm x t) f1 D ∧ PM w' q nb P on nd (updT tm x t) f1 (rootL D) n ∧ Chg (QS q nb P on nd) w w' := by
  have hb0 := alloc_kept' w (.cells #[.int .u64 t.at_, .int .u64 t.seq, .int .i64 t.place] 35)
  have hk := h.below hb0
  have hfi := ph_find q nb P on nd tm f (rootL L) n t.place _ hk hP
  have hfv : fndV P on nd t.place = .tuple #[.pointer (some ⟨nd x, 0, none⟩), .int .i64 0] := by
    unfold fndV
    rw [if_neg (by omega), ht, Int.toNat_natCast, if_pos ho]
  rw [hfv] at hfi
  have hN0 := Blk.new w 35 #[.int .u64 t.at_, .int .u64 t.seq, .int .i64 t.place]
  have hV : Liv P on x := ⟨hx, ho⟩
  have hC0 : Chg (QS q nb P on nd) w (w.alloc (.cells #[.int .u64 t.at_, .int .u64 t.seq, .int .i64 t.place] 35)) := Chg.of_same hb0 _
  have hQl : ∀ g, QS q nb P on nd g → g < w.heap.size := fun g e => by
    have hql := Blk.lt h.qb
    have hnl := h.ar.lt
    rcases e with e | e | ⟨j, hj, e⟩
    · omega
    · omega
    · have := h.nm.lt hj; omega
  have bx := hN0.cell
  have hcm := fun w => cmp_below t (tm x) w
  have hcv : decide (cmpT t (tm x) < 0) = t.lt (tm x) := by
    cases e : t.lt (tm x) with
    | true => exact decide_eq_true ((cmpT_neg t (tm x)).2 e)
    | false => exact decide_eq_false fun e2 => by rw [(cmpT_neg t (tm x)).1 e2] at e; cases e
  have HT := Lib.hid ht
  clear hfv h ht
  unfold Timer.val
  go_enter Try.func28, Try.ntmps28
  go_wp2_with fail
  refine hfi.mono ?_
  rintro e w1 ⟨rfl, rfl⟩
  clear hfi
  generalize w.alloc (.cells #[.int .u64 t.at_, .int .u64 t.seq, .int .i64 t.place] 35) = w0 at *
  go_wp2_with fail
  have bnx := (hk.nm.blk x hV)
  unfold ndC at bnx
  have hbw0 := hN0
  generalize hcc : cmpT t (tm x) = cv at *
  have HCC := Lib.hid hcc
  clear hcc
  have hs0 : Below w0.heap.size w0 w0.drew := (Below.refl _ _).drew
  refine region_facts_set 7 (fun _ => false) (FV [t.val, .pointer (some ⟨nd x, 0, none⟩), .pointer (some ⟨nd x, 0, none⟩), .pointer (some ⟨nd x, 0, none⟩), (tm x).val, .int .i64 cv, .bool (decide (cv < 0))]) (fun _ x => Below w0.heap.size w0 x) (fun _ x y => x.heap.size ≤ y.heap.size) [17, 18, 19, 20, 21, 22, 23] (by kernel_rfl) (by kernel_rfl) (by kernel_rfl) (by decide) (by kernel_rfl) (by kernel_rfl) (fun _ _ _ _ _ _ h _ => h) (fun _ _ _ h => h) hs0 ?_ ?_
  · intro fr hfr
    have f3 : fr.getD 3 undef = .pointer (some ⟨w.heap.size, 0, none⟩) := by rw [hfr]; rfl
    have f5 : fr.getD 5 undef = .pointer (some ⟨nd x, 0, none⟩) := by rw [hfr]; rfl
    clear hfr hcv
    iterate 7
      refine ⟨⟨by first | trivial | exact ⟨rfl, fun _ _ h => h⟩, ?_⟩, ?_⟩
      · intro ρ w' p hp hdq hρ hd hSt
        simp only [DepF, Region.binds, List.getD_cons_zero, List.getD_cons_succ, FV, forall_const, and_true, true_and] at hd
        have hcon := hρ.con
        (have e3 := (hρ.slot 3 (by kernel_rfl)).trans f3; have e5 := (hρ.slot 5 (by kernel_rfl)).trans f5)
        (have ea := (hN0.below hSt hN0.lt).cell; have eb := (bnx.below hSt bnx.lt).cell)
        (try rw [execOp_call_fn _ _ _ _ _ _ _ _ _ (hρ.fn _)])
        go_simp
        (try simp only [GoodQ, FV, List.getD_cons_zero, List.getD_cons_succ])
        first
          | exact ⟨rfl, Nat.le_refl _, fun h => absurd h (by decide), hSt⟩
          | exact ⟨trivial, Nat.le_refl _, fun h => absurd h (by decide), hSt⟩
          | (refine (hcm w').mono ?_; rintro e w'' ⟨rfl, hx⟩; exact ⟨_, rfl, rfl, hx.size, fun h => absurd h (by decide), hSt.trans (Below.mono hx hSt.size)⟩)
    trivial
  · intro vs w5 hSt hF _
    have h6 : vs 6 = .bool (decide (cv < 0)) := hF 6 (by decide)
    have hM5 := hk.below hSt
    have hN5 := hN0.below hSt hN0.lt
    have hC5 : Chg (QS q nb P on nd) w w5 := hC0.trans (Chg.of_same hSt _) fun _ _ e => e
    have hcu := ph_cutq q nb P on nd tm f L n x w5 hM5 hp hL hx ho
    have hta := ph_take q nb P on nd tm f L n x w5 hM5 hp hL hP hx ho
    simp only [setAll, List.setIfInBounds_toArray, List.set_cons_zero, List.set_cons_succ, Nat.reduceAdd]
    rw [h6, hcv]
    simp only [List.drop_succ_cons, List.drop_zero, List.drop_nil]
    clear h6 hF hs0 hSt hk hN0 hC0 hcm bnx bx hM5 hbw0 hcv hb0
    by_cases hlt : t.lt (tm x) = true
    · rw [hlt]
      clear hta
      go_wp2_with fail
      refine hcu.mono ?_
      rintro e w6 ⟨rfl, s, C, f1, hC1, hp1, h1, hk1⟩
      have hpx := hp1.ahead hlt
      have hN6 := hN5.chg hk1 fun e => by have := hQl _ e; omega
      have hk6 := hC5.trans hk1 fun _ _ e => e
      have hCT : Chg (NB (Liv P on) nd) w6 (((w6.setCell ⟨nd x, 0, none⟩ (.int .u64 t.at_)).setCell ⟨nd x, 1, none⟩ (.int .u64 t.seq)).setCell ⟨nd x, 2, none⟩ (.int .i64 t.place)) :=
        ((chg_nd x hV w6 0 _).trans (chg_nd x hV _ 1 _) fun _ _ e => e).trans (chg_nd x hV _ 2 _) fun _ _ e => e
      have hM7 := h1.nodes (h1.nm.time hV t) hCT
      have hk7 := hk6.trans (qs_nodes hCT) fun _ _ e => e
      have hpp := hpx.perm (show ((x, s) :: C).Perm (C ++ [(x, s)]) from List.perm_append_comm (l₁ := [(x, s)]) (l₂ := C))
      have hme := ph_meld_roots (R := []) hM7.nm (A := C) (B := [(x, s)]) (by simpa using hpp.fr) fun i hi => (hpp.mem i).1 (by simpa using hi)
      obtain ⟨D, hD1, hD2, hD3, _⟩ := hpp.meldO hC1 (by simp)
      rw [show rootL [(x, s)] = some x from rfl] at hme hD2 hD3
      obtain ⟨j, hj⟩ : ∃ j, (meldO (updT tm x t) f1 (rootL C) (some x)).2 = some j := by
        cases rootL C with
        | none => exact ⟨x, rfl⟩
        | some r => exact ⟨_, rfl⟩
      rw [hj] at hme hD3
      rw [ptrN_some, ptrN_some] at hme
      have cx := (h1.nm.blk x hV).cell
      have zx := (h1.nm.blk x hV).frozen
      have lx := (h1.nm.blk x hV).lt
      unfold ndC at cx
      have cb := hN6.cell
      have hq7 := Blk.cell hM7.qb
      have hHD := Lib.hid hD3
      generalize ptrN nd (rootL C) = rv at *
      have HM7 := Lib.hid hM7
      have HPF := Lib.hid hD2
      have HK7 := Lib.hid hk7
      clear hN6 hN5 hC5 hk1 hk6 hCT hM7 hk7 hpp hpx hp hD2 hD3 hj h1 hQl
      go_upto_region 8 with fail
      generalize ((w6.setCell ⟨nd x, 0, none⟩ (.int .u64 t.at_)).setCell ⟨nd x, 1, none⟩ (.int .u64 t.seq)).setCell ⟨nd x, 2, none⟩ (.int .i64 t.place) = w7 at *
      clear cx zx lx cb
      go_wp2_with fail
      refine hme.mono ?_
      rintro e w8 ⟨rfl, hMO⟩
      have hM8 := HM7.out.nodes hMO.nm hMO.chg
      have hq8 := Blk.cell hM8.qb
      have hz8 := Blk.frozen hM8.qb
      have hl8 := Blk.lt hM8.qb
      have HF := Lib.hid (hM8.root_ (some j))
      have HK9 := Lib.hid ((HK7.out.trans (qs_nodes hMO.chg) fun _ _ e => e).trans ((chg_cell w8 q 1 (ptrN nd (some j))).mono fun _ _ e => .inl e) fun _ _ e => e)
      rw [ptrN_some] at HF HK9
      generalize ptrN nd (rootL C) = rv2 at *
      clear hme hMO hM8 hq7
      go_wp2_with fail
      go_ret
      exact ⟨rfl, D, _, hD1, HPF.out, by rw [hHD.out]; exact HF.out, HK9.out⟩
    · rw [show t.lt (tm x) = false from by simpa using hlt]
      clear hcu
      go_wp2_with fail
      refine hta.mono ?_
      rintro e w6 ⟨rfl, C, f1, hC1, hp1, h1, hb1, hb2, hb3, hk1⟩
      have hpx := hp1.again t hx ho hb1 hb2 hb3
      have hN6 := hN5.chg hk1 fun e => by have := hQl _ e; omega
      have hk6 := hC5.trans hk1 fun _ _ e => e
      have hCT : Chg (NB (Liv P on) nd) w6 (((w6.setCell ⟨nd x, 0, none⟩ (.int .u64 t.at_)).setCell ⟨nd x, 1, none⟩ (.int .u64 t.seq)).setCell ⟨nd x, 2, none⟩ (.int .i64 t.place)) :=
        ((chg_nd x hV w6 0 _).trans (chg_nd x hV _ 1 _) fun _ _ e => e).trans (chg_nd x hV _ 2 _) fun _ _ e => e
      have hM7 := h1.nodes (h1.nm.time hV t) hCT
      have hk7 := hk6.trans (qs_nodes hCT) fun _ _ e => e
      have hpp := hpx.perm (show ((x, BT.nil) :: C).Perm (C ++ [(x, BT.nil)]) from List.perm_append_comm (l₁ := [(x, BT.nil)]) (l₂ := C))
      have hme := ph_meld_roots (R := []) hM7.nm (A := C) (B := [(x, BT.nil)]) (by simpa using hpp.fr) fun i hi => (hpp.mem i).1 (by simpa using hi)
      obtain ⟨D, hD1, hD2, hD3, _⟩ := hpp.meldO hC1 (by simp)
      rw [show rootL [(x, BT.nil)] = some x from rfl] at hme hD2 hD3
      obtain ⟨j, hj⟩ : ∃ j, (meldO (updT tm x t) f1 (rootL C) (some x)).2 = some j := by
        cases rootL C with
        | none => exact ⟨x, rfl⟩
        | some r => exact ⟨_, rfl⟩
      rw [hj] at hme hD3
      rw [ptrN_some, ptrN_some] at hme
      have cx := (h1.nm.blk x hV).cell
      have zx := (h1.nm.blk x hV).frozen
      have lx := (h1.nm.blk x hV).lt
      unfold ndC at cx
      have cb := hN6.cell
      have hq7 := Blk.cell hM7.qb
      have hHD := Lib.hid hD3
      generalize ptrN nd (rootL C) = rv at *
      have HM7 := Lib.hid hM7
      have HPF := Lib.hid hD2
      have HK7 := Lib.hid hk7
      clear hN6 hN5 hC5 hk1 hk6 hCT hM7 hk7 hpp hpx hp hD2 hD3 hj h1 hQl
      go_upto_region 8 with fail
      generalize ((w6.setCell ⟨nd x, 0, none⟩ (.int .u64 t.at_)).setCell ⟨nd x, 1, none⟩ (.int .u64 t.seq)).setCell ⟨nd x, 2, none⟩ (.int .i64 t.place) = w7 at *
      clear cx zx lx cb
      go_wp2_with fail
      refine hme.mono ?_
      rintro e w8 ⟨rfl, hMO⟩
      have hM8 := HM7.out.nodes hMO.nm hMO.chg
      have hq8 := Blk.cell hM8.qb
      have hz8 := Blk.frozen hM8.qb
      have hl8 := Blk.lt hM8.qb
      have HF := Lib.hid (hM8.root_ (some j))
      have HK9 := Lib.hid ((HK7.out.trans (qs_nodes hMO.chg) fun _ _ e => e).trans ((chg_cell w8 q 1 (ptrN nd (some j))).mono fun _ _ e => .inl e) fun _ _ e => e)
      rw [ptrN_some] at HF HK9
      generalize ptrN nd (rootL C) = rv2 at *
      clear hme hMO hM8 hq7
      go_wp2_with fail
      go_ret
      exact ⟨rfl, D, _, hD1, HPF.out, by rw [hHD.out]; exact HF.out, HK9.out⟩
end Go.Proofs.Ytpbepmipfjcjbaa
