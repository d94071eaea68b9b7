/- Part 19: the texts PhD PhB PhK PhS PhU Ptw Pwk, laid end to end by a program. -/
import Derived.Test.YtpbepmipfjcjbaaPk15
import Derived.Test.YtpbepmipfjcjbaaPk18
import Derived.Test.YtpbepmipfjcjbaaPk20
import Derived.Test.YtpbepmipfjcjbaaPk1
namespace Go.Proofs.Ytpbepmipfjcjbaa
open Go.RowKit

/-- Due's rounds: l has been taken, m is left. -/
structure DuI (q nb P : Nat) (on : Nat → Bool) (nd : Nat → Nat) (tm : Nat → Timer) (now : Int) (m0 : List Timer) (w : World) (l m : List Timer) (on' : Nat → Bool) (f' : Lk) (D : List (Nat × BT)) (v : Value) (W : World) : Prop where
  pm : PM W q nb P on' nd tm f' (rootL D) m.length
  pf : PF P on' tm f' D
  one : D.length ≤ 1
  rel : PRel P on' tm m
  t1 : dueL m0 now true = l ++ dueL m now true
  t2 : dueL m0 now false = dueL m now false
  sub : ∀ i, on' i = true → on i = true
  own : OwnT W w.heap.size v l
  len : l.length + m.length ≤ P
  chg : Chg (QS q nb P on nd) w W
theorem DuI.qs {q nb P : Nat} {on : Nat → Bool} {nd : Nat → Nat} {tm : Nat → Timer} {now : Int} {m0 : List Timer} {w : World} {l m : List Timer} {on' : Nat → Bool} {f' : Lk} {D : List (Nat × BT)} {v : Value} {W : World} (h : DuI q nb P on nd tm now m0 w l m on' f' D v W) {g : Nat} (e : QS q nb P on' nd g) : QS q nb P on nd g := by
  rcases e with e | e | ⟨j, hj, e⟩
  · exact .inl e
  · exact .inr (.inl e)
  · exact .inr (.inr ⟨j, ⟨hj.1, h.sub j hj.2⟩, e⟩)
/-- What Due leaves. -/
def DuO (q nb P : Nat) (on : Nat → Bool) (nd : Nat → Nat) (tm : Nat → Timer) (now : Int) (m : List Timer) (w : World) (v : Value) (w' : World) : Prop :=
  ∃ D f1 on', OwnT w' w.heap.size v (dueL m now true) ∧ D.length ≤ 1 ∧ PF P on' tm f1 D ∧ PM w' q nb P on' nd tm f1 (rootL D) (dueL m now false).length ∧ PRel P on' tm (dueL m now false) ∧ (∀ i, on' i = true → on i = true) ∧ Chg (QS q nb P on nd) w w'
attribute [local irreducible] Calls
set_option maxRecDepth 100000 in
set_option maxHeartbeats 4000000 in
theorem ph_due (q nb P : Nat) (on : Nat → Bool) (nd : Nat → Nat) (tm : Nat → Timer) (f : Lk) (L : List (Nat × BT)) (m : List Timer) (now : Int) (w : World) (h : PM w q nb P on nd tm f (rootL L) m.length) (hp : PF P on tm f L) (hL : L.length ≤ 1) (hP : P ≤ 1024) (hr : PRel P on tm m) :
    Calls Try.prog 26 #[.pointer (some ⟨q, 0, none⟩), .int .u64 now] w fun e w' => ∃ v, e = .returned v ∧ DuO q nb P on nd tm now m w v w' := by
  have hI : DuI q nb P on nd tm now m w [] m on f L (.slice none 0 0) w := ⟨h, hp, hL, hr, rfl, rfl, fun _ e => e, OwnT.nil _ _, by simpa using hr.len_le, Chg.refl _ _⟩
  have hQl : ∀ g, QS q nb P on nd g → g < w.heap.size := fun g e => by
    have hql := Blk.lt h.qb
    have hnl := h.ar.lt
    rcases e with e | e | ⟨j, hj, e⟩
    · omega
    · omega
    · have := h.nm.lt hj; omega
  obtain ⟨i0, hi, hz0, hz1, hz2⟩ := info_parts info_timer
  clear h hp hL hr
  go_enter Try.func26, Try.ntmps26
  go_wp2_with fail
  go_loopw [5] (fun v wr => ∃ l m1 on' f' D v1, v1 = v ∧ DuI q nb P on nd tm now m w l m1 on' f' D v1 wr) (fun v _ => P + 1 - lenV v)
  case atStart => exact ⟨[], m, on, f, L, _, rfl, hI⟩
  case round =>
    clear hI
    obtain ⟨l, m1, on1, f1, D, v, rfl, hI⟩ := hrel
    have hc := Blk.cell hI.pm.qb
    rcases D with _ | ⟨⟨r, s⟩, _ | ⟨_, _⟩⟩
    · skip
      have hm : m1 = [] := hI.pf.head_none hI.rel
      subst hm
      have RES : Hid (OwnT wr w.heap.size v (dueL m now true) ∧ PM wr q nb P on1 nd tm f1 (rootL []) (dueL m now false).length ∧ PRel P on1 tm (dueL m now false)) := Lib.hid ⟨by rw [hI.t1]; simpa [dueL] using hI.own, by rw [hI.t2]; exact hI.pm, by rw [hI.t2]; exact hI.rel⟩
      have HI := Lib.hid hI
      clear hI
      simp only [rootL, List.head?_nil, Option.map_none, ptrN] at hc
      go_wp2_with fail
      go_ret
      exact ⟨v, rfl, [], f1, on1, RES.out.1, by simp, HI.out.pf, RES.out.2.1, RES.out.2.2, HI.out.sub, HI.out.chg⟩
    rotate_left
    · exact absurd hI.one (by simp)
    · skip
      have hrl : r < P ∧ on1 r = true := (hI.pf.mem r).1 (by simp [fids])
      have hhd := hI.pf.head hI.rel
      obtain ⟨m2, rfl⟩ : ∃ m2, m1 = tm r :: m2 := by
        cases m1 with
        | nil => cases hhd
        | cons y m2 => injection hhd with e; exact ⟨m2, by rw [e]⟩
      have cr := (hI.pm.nm.blk r hrl).cell
      unfold ndC at cr
      simp only [rootL, List.head?_cons, Option.map_some, ptrN_some] at hc
      by_cases hle : (tm r).at_ ≤ now
      · have hca := ph_can_ok q nb P on1 nd tm f1 [(r, s)] (tm r :: m2).length r wr hI.pm hI.pf hI.one hP hrl.1 hrl.2 (by have := hI.len; simp only [List.length_cons] at this ⊢; omega)
        have hpl := hI.rel.place r hrl.1 hrl.2
        rw [hpl] at cr
        have HI := Lib.hid hI
        have HLE := Lib.hid hle
        have HPL := Lib.hid hpl
        have hwl := hI.chg.size
        have hll : l.length ≤ 1024 := by have := hI.len; omega
        have hlv : ∃ A c, v = .slice A l.length c := by obtain ⟨A, c, e, _⟩ := hI.own.at; exact ⟨A, c, e⟩
        clear hI hhd hpl
        generalize htx : tm r = t at *
        have HTX := Lib.hid htx
        clear htx
        go_wp2_with fail
        refine hca.mono ?_
        rintro e w1 ⟨rfl, D, f2, hD, hPF, hM, hC⟩
        have hC1 : Chg (QS q nb P on nd) wr w1 := hC.mono fun g _ e => HI.out.qs e
        have hO1 : OwnT w1 w.heap.size v l := ownsRow_keep HI.out.own fun g hg hv => hC1.block g hg fun e => by have := own_base HI.out.own g hv; have := hQl g e; omega
        have hCC := HI.out.chg.trans hC1 fun _ _ e => e
        clear hca cr hc hC hC1
        unfold teV Timer.val
        have hw1 := hCC.size
        have hb2 : Below w1.heap.size w1 (w1.alloc (.cells #[.int .u64 t.at_, .int .u64 t.seq, .int .i64 t.place] 35)) := (Below.refl _ w1).alloc (Nat.le_refl _) _
        have hx2 := Blk.new w1 35 #[.int .u64 t.at_, .int .u64 t.seq, .int .i64 t.place]
        go_upto_region 4 with fail
        generalize w1.alloc (.cells #[.int .u64 t.at_, .int .u64 t.seq, .int .i64 t.place] 35) = w2 at *
        have hM2 := hM.below hb2
        have hO2 := own_below hO1 hb2 (Nat.le_refl _)
        have hC2 := hCC.trans (Chg.of_same hb2 (QS q nb P on nd)) fun _ _ e => e
        have cx := hx2.cell
        have hw2 := hb2.size
        clear hM hO1 hCC hb2 hx2
        go_wp2_with (at_builtin; refine wpList_append_own _ rfl _ _ 28 rfl w.heap.size 35 i0 (.agg #[.int .u64 0, .int .u64 0, .int .i64 0]) 3 24 Try.underlying28 hi hz0 hz1 hz2 rfl (by decide) _ _ _ rfl (hO2.alloc _) ⟨w2.heap.size, 0, none⟩ 1 1 t.cells rfl ?c0 ?c1 ?c2 ?c3 ?c4 ?c5 ?_)
        case c0 => rfl
        case c1 => exact cells_new w2 35 t.cells
        case c2 => intro v hv; exact one_cell [t] v (by rw [cells_one]; exact hv)
        case c3 => unfold maxLen; omega
        case c4 => omega
        case c5 => simp; omega
        intro v2 w3 hown2 hgr2 _
        have hg2 := hgr2
        have hK3 : Chg (fun g => w.heap.size ≤ g) w2 w3 := ((Chg.refl (fun g => w.heap.size ≤ g) w2).alloc _).trans (grown_ch hg2) fun g _ e => own_base hO2 g e
        have hM3 : PM w3 q nb P (updB on1 r false) nd tm f2 (rootL D) ((m2.length : Int) + 1 - 1) := by
          refine ⟨hM2.nm.chg hK3 fun i hi e => ?_, Blk.chg hM2.qb hK3 fun e => ?_, hM2.ar.chg hK3 fun e => ?_⟩
          · have := hQl (nd i) (HI.out.qs (.inr (.inr ⟨i, liv_off hi, rfl⟩)))
            omega
          · have := hQl q (.inl rfl)
            omega
          · have := hQl nb (.inr (.inl rfl))
            omega
        have hC3 := hC2.trans hK3 fun g hg e => absurd e (by omega)
        have hP2 : PRel P (updB on1 r false) tm m2 := by
          have h1 := HI.out.rel.without hrl.1 hrl.2
          have h2 := without_head HI.out.rel
          rw [HPL.out] at h2
          rwa [h2] at h1
        have hNX : DuI q nb P on nd tm now m w (l ++ [t]) m2 (updB on1 r false) f2 D v2 w3 := by
          obtain ⟨e1, e2⟩ := due_next (m := m2) HLE.out
          refine ⟨by rw [show ((m2.length : Nat) : Int) = (m2.length : Int) + 1 - 1 by omega]; exact hM3, hPF, hD, hP2, ?_, ?_, fun i hi => ?_, ?_, ?_, hC3⟩
          · rw [HI.out.t1, e1]; simp
          · rw [HI.out.t2, e2]
          · unfold updB at hi
            split at hi
            · cases hi
            · exact HI.out.sub i hi
          · unfold OwnT
            rw [List.length_append, List.flatMap_append, cells_one]
            exact hown2
          · have := HI.out.len
            simp only [List.length_append, List.length_cons, List.length_nil] at this ⊢
            omega
        obtain ⟨A2, c2, e2, _⟩ := hNX.own.at
        have HNX := Lib.hid hNX
        have HV := Lib.hid e2
        obtain ⟨A1, c1, hv1⟩ := hlv
        have HV1 := Lib.hid hv1
        have hlm := HI.out.len
        clear hNX hM3 hC3 hM2 hC2 hK3 hg2 hgr2 hown2 hO2 cx e2 hv1 hP2 hPF
        go_wp2
        go_roundw
        case rel => exact ⟨_, _, _, _, _, _, rfl, HNX.out⟩
        case measure =>
          simp [HV.out, HV1.out, lenV]
          simp at hlm
          omega
      · have hdu := due_first (now := now) hI.rel.srt fun x hx => by injection hx with hx; subst hx; omega
        have RES : Hid (OwnT wr w.heap.size v (dueL m now true) ∧ PM wr q nb P on1 nd tm f1 (rootL [(r, s)]) (dueL m now false).length ∧ PRel P on1 tm (dueL m now false)) := Lib.hid ⟨by rw [hI.t1, hdu.1]; simpa using hI.own, by rw [hI.t2, hdu.2]; exact hI.pm, by rw [hI.t2, hdu.2]; exact hI.rel⟩
        have HI := Lib.hid hI
        generalize nd r = g at *
        generalize (tm r).at_ = ta at *
        clear hI hhd hdu
        go_wp2_with fail
        go_ret
        exact ⟨v, rfl, [(r, s)], f1, on1, RES.out.1, by simp, HI.out.pf, RES.out.2.1, RES.out.2.2, HI.out.sub, HI.out.chg⟩
end Go.Proofs.Ytpbepmipfjcjbaa
namespace Go.Proofs.Ytpbepmipfjcjbaa
open Go.RowKit
/-- What is told of both: of the places of the second, what it tells. -/
def mixA {α : Type} (on2 : Nat → Bool) (b a : Nat → α) : Nat → α := fun i => if on2 i = true then b i else a i
def mixB (on on2 : Nat → Bool) : Nat → Bool := fun i => on i || on2 i
def mixF (on2 : Nat → Bool) (g f : Lk) : Lk := { bl := mixA on2 g.bl f.bl, bs := mixA on2 g.bs f.bs, bk := mixA on2 g.bk f.bk }
theorem mixA_on {α : Type} {on2 : Nat → Bool} (b a : Nat → α) {i : Nat} (h : on2 i = true) : mixA on2 b a i = b i := if_pos h
theorem mixA_off {α : Type} {on2 : Nat → Bool} (b a : Nat → α) {i : Nat} (h : on2 i = false) : mixA on2 b a i = a i := if_neg (by rw [h]; decide)
theorem mixF_on {on2 : Nat → Bool} (g f : Lk) {i : Nat} (h : on2 i = true) : g.Eq (mixF on2 g f) i := ⟨mixA_on _ _ h, mixA_on _ _ h, mixA_on _ _ h⟩
theorem mixF_off {on2 : Nat → Bool} (g f : Lk) {i : Nat} (h : on2 i = false) : f.Eq (mixF on2 g f) i := ⟨mixA_off _ _ h, mixA_off _ _ h, mixA_off _ _ h⟩
section
variable {P : Nat} {on on2 : Nat → Bool} {tm tm2 : Nat → Timer} {f g : Lk} {L M : List (Nat × BT)} {nd nd2 : Nat → Nat} {w : World} {m m2 : List Timer}
theorem PF.mix (h : PF P on tm f L) (k : PF P on2 tm2 g M) (hd : ∀ i, i < P → on i = true → on2 i = false) : PF P (mixB on on2) (mixA on2 tm2 tm) (mixF on2 g f) (L ++ M) := by
  have hl : ∀ i ∈ fids L, on2 i = false := fun i hi => by obtain ⟨a, b⟩ := (h.mem i).1 hi; exact hd i a b
  have hm : ∀ i ∈ fids M, on2 i = true := fun i hi => ((k.mem i).1 hi).2
  have e1 : ∀ p ∈ L, ∀ i ∈ (BT.node p.1 p.2 .nil).ids, i ∈ fids L := fun p hp i hi => List.mem_flatMap.2 ⟨p, hp, by simpa [BT.ids] using hi⟩
  have e2 : ∀ p ∈ M, ∀ i ∈ (BT.node p.1 p.2 .nil).ids, i ∈ fids M := fun p hp i hi => List.mem_flatMap.2 ⟨p, hp, by simpa [BT.ids] using hi⟩
  refine ⟨⟨fun p hp => ?_, ?_, fun p hp => ?_⟩, fun i => ?_⟩
  · rcases List.mem_append.1 hp with hp | hp
    · exact (h.fr.rep p hp).congr fun i hi => mixF_off _ _ (hl i (e1 p hp i hi))
    · exact (k.fr.rep p hp).congr fun i hi => mixF_on _ _ (hm i (e2 p hp i hi))
  · rw [fids_append, List.nodup_append]
    exact ⟨h.fr.nd, k.fr.nd, fun a ha b hb e => by subst e; have h1 := hl a ha; rw [hm a hb] at h1; cases h1⟩
  · rcases List.mem_append.1 hp with hp | hp
    · exact (h.fr.ok p hp).congr fun i hi => mixA_off _ _ (hl i (e1 p hp i hi))
    · exact (k.fr.ok p hp).congr fun i hi => mixA_on _ _ (hm i (e2 p hp i hi))
  · rw [fids_append, List.mem_append, h.mem, k.mem]
    unfold mixB
    rw [Bool.or_eq_true]
    constructor
    · rintro (⟨a, b⟩ | ⟨a, b⟩)
      · exact ⟨a, .inl b⟩
      · exact ⟨a, .inr b⟩
    · rintro ⟨a, b | b⟩
      · exact .inl ⟨a, b⟩
      · exact .inr ⟨a, b⟩
theorem liv_mix {i : Nat} : Liv P (mixB on on2) i ↔ Liv P on i ∨ Liv P on2 i := by
  unfold Liv mixB
  rw [Bool.or_eq_true]
  constructor
  · rintro ⟨a, b | b⟩
    · exact .inl ⟨a, b⟩
    · exact .inr ⟨a, b⟩
  · rintro (⟨a, b⟩ | ⟨a, b⟩)
    · exact ⟨a, .inl b⟩
    · exact ⟨a, .inr b⟩
theorem NM.mix (h : NM w (Liv P on) nd tm f) (k : NM w (Liv P on2) nd2 tm2 g) (hpf : PF P on tm f L) (kpf : PF P on2 tm2 g M) (hd : ∀ i, i < P → on i = true → on2 i = false) (hne : ∀ i j, Liv P on i → Liv P on2 j → nd i ≠ nd2 j) :
    NM w (Liv P (mixB on on2)) (mixA on2 nd2 nd) (mixA on2 tm2 tm) (mixF on2 g f) := by
  refine ⟨fun i hi => ?_, fun i j hi hj e => ?_⟩
  · rcases liv_mix.1 hi with hi | hi
    · have ho := hd i hi.1 hi.2
      have hb := h.blk i hi
      have ee := mixF_off g f ho
      have e : ndC (mixA on2 nd2 nd) (mixF on2 g f) (mixA on2 tm2 tm i) i = ndC nd f (tm i) i := by
        unfold ndC
        rw [mixA_off _ _ ho, ee.1, ee.2.1, ee.2.2]
        have one : ∀ y, (f.bl i = some y ∨ f.bs i = some y ∨ f.bk i = some y) → mixA on2 nd2 nd y = nd y := fun y hy => by
          obtain ⟨a, b⟩ := hpf.ways hi hy
          exact mixA_off _ _ (hd y a b)
        rw [ptrN_congr fun y hy => one y (.inl hy), ptrN_congr fun y hy => one y (.inr (.inl hy)), ptrN_congr fun y hy => one y (.inr (.inr hy))]
      rw [e, mixA_off _ _ ho]
      exact hb
    · have ho := hi.2
      have hb := k.blk i hi
      have ee := mixF_on g f ho
      have e : ndC (mixA on2 nd2 nd) (mixF on2 g f) (mixA on2 tm2 tm i) i = ndC nd2 g (tm2 i) i := by
        unfold ndC
        rw [mixA_on _ _ ho, ee.1, ee.2.1, ee.2.2]
        have one : ∀ y, (g.bl i = some y ∨ g.bs i = some y ∨ g.bk i = some y) → mixA on2 nd2 nd y = nd2 y := fun y hy => mixA_on _ _ (kpf.ways hi hy).2
        rw [ptrN_congr fun y hy => one y (.inl hy), ptrN_congr fun y hy => one y (.inr (.inl hy)), ptrN_congr fun y hy => one y (.inr (.inr hy))]
      rw [e, mixA_on _ _ ho]
      exact hb
  · rcases liv_mix.1 hi with hi | hi <;> rcases liv_mix.1 hj with hj | hj
    · rw [mixA_off _ _ (hd i hi.1 hi.2), mixA_off _ _ (hd j hj.1 hj.2)] at e
      exact h.inj i j hi hj e
    · rw [mixA_off _ _ (hd i hi.1 hi.2), mixA_on _ _ hj.2] at e
      exact absurd e (hne i j hi hj)
    · rw [mixA_on _ _ hi.2, mixA_off _ _ (hd j hj.1 hj.2)] at e
      exact absurd e.symm (hne j i hj hi)
    · rw [mixA_on _ _ hi.2, mixA_on _ _ hj.2] at e
      exact k.inj i j hi hj e
/-- All of a list put into another one. -/
def putsL (m m2 : List Timer) : List Timer := m2.foldl putL m
theorem putsL_perm : ∀ (m2 m : List Timer), (putsL m m2).Perm (m ++ m2)
  | [], m => by simp [putsL]
  | x :: m2, m => by
    have h := putsL_perm m2 (putL m x)
    refine h.trans (((putL_perm m x).append_right m2).trans ?_)
    exact List.perm_middle.symm
theorem Srt.puts : ∀ (m2 : List Timer) {m : List Timer}, Srt m → Srt (putsL m m2)
  | [], _, h => h
  | x :: m2, _, h => Srt.puts m2 (h.put x)
theorem pend_mix (hd : ∀ i, i < P → on i = true → on2 i = false) : ∀ n, n ≤ P → (pendL n (mixB on on2) (mixA on2 tm2 tm)).Perm (pendL n on tm ++ pendL n on2 tm2)
  | 0, _ => by simp [pendL]
  | n + 1, hn => by
    have ih := pend_mix hd n (by omega)
    rw [pend_succ, pend_succ, pend_succ]
    by_cases h1 : on n = true
    · have h2 := hd n (by omega) h1
      rw [if_pos (by simp [mixB, h1]), if_pos h1, if_neg (by rw [h2]; decide), mixA_off _ _ h2, List.append_nil]
      refine (ih.append_right _).trans ?_
      rw [List.append_assoc, List.append_assoc]
      exact List.perm_append_comm.append_left _
    · by_cases h2 : on2 n = true
      · rw [if_pos (by simp [mixB, h2]), if_neg h1, if_pos h2, mixA_on _ _ h2, List.append_nil, ← List.append_assoc]
        exact ih.append_right _
      · rw [if_neg (by simp [mixB, h1, h2]), if_neg h1, if_neg h2, List.append_nil, List.append_nil, List.append_nil]
        exact ih
theorem PRel.mix (h : PRel P on tm m) (k : PRel P on2 tm2 m2) (hd : ∀ i, i < P → on i = true → on2 i = false) : PRel P (mixB on on2) (mixA on2 tm2 tm) (putsL m m2) := by
  refine ⟨Srt.puts m2 h.srt, (putsL_perm m2 m).trans (((h.perm.append_right m2).trans (k.perm.append_left _)).trans (pend_mix hd P (Nat.le_refl _)).symm), fun i hi ho => ?_⟩
  unfold mixB at ho
  rw [Bool.or_eq_true] at ho
  rcases ho with ho | ho
  · rw [mixA_off _ _ (hd i hi ho)]
    exact h.place i hi ho
  · rw [mixA_on _ _ ho]
    exact k.place i hi ho
/-- The arrays of both, half way. -/
theorem naC_mix_step (P : Nat) (on on2 : Nat → Bool) (nd nd2 : Nat → Nat) (k : Nat) (hk : k < P) (ho : on2 k = true) :
    (naC P (mixB on fun i => decide (i < k) && on2 i) (mixA (fun i => decide (i < k) && on2 i) nd2 nd)).setIfInBounds k (.pointer (some ⟨nd2 k, 0, none⟩)) = naC P (mixB on fun i => decide (i < k + 1) && on2 i) (mixA (fun i => decide (i < k + 1) && on2 i) nd2 nd) := by
  rw [naC_put P _ _ k _ hk]
  refine naC_congr (fun i hi => ?_) fun i hi h => ?_
  · by_cases e : i = k
    · subst e
      simp [updB_at, mixB, ho]
    · rw [updB_ne _ _ e]
      have : decide (i < k + 1) = decide (i < k) := by simp; omega
      simp [mixB, this]
  · by_cases e : i = k
    · subst e
      rw [updN_at, mixA_on _ _ (by simp [ho])]
    · rw [updN_ne _ _ e]
      have : decide (i < k + 1) = decide (i < k) := by simp; omega
      simp [mixA, this]
theorem naC_mix_skip (P : Nat) (on on2 : Nat → Bool) (nd nd2 : Nat → Nat) (k : Nat) (ho : on2 k = false) :
    naC P (mixB on fun i => decide (i < k) && on2 i) (mixA (fun i => decide (i < k) && on2 i) nd2 nd) = naC P (mixB on fun i => decide (i < k + 1) && on2 i) (mixA (fun i => decide (i < k + 1) && on2 i) nd2 nd) := by
  have e : (fun i => decide (i < k) && on2 i) = fun i => decide (i < k + 1) && on2 i := by
    funext i
    by_cases e : i = k
    · subst e; simp [ho]
    · have : decide (i < k + 1) = decide (i < k) := by simp; omega
      rw [this]
  rw [e]
theorem naC_left_step (P : Nat) (on2 : Nat → Bool) (nd2 : Nat → Nat) (k : Nat) (hk : k < P) : (naC P (fun i => decide (k ≤ i) && on2 i) nd2).setIfInBounds k (.pointer none) = naC P (fun i => decide (k + 1 ≤ i) && on2 i) nd2 := by
  rw [naC_clear P _ _ k hk]
  refine naC_congr (fun i hi => ?_) fun _ _ _ => rfl
  by_cases e : i = k
  · subst e
    simp [updB_at]
    intro h
    omega
  · rw [updB_ne _ _ e]
    have : decide (k + 1 ≤ i) = decide (k ≤ i) := by simp; omega
    rw [this]
theorem naC_left_skip (P : Nat) (on2 : Nat → Bool) (nd2 : Nat → Nat) (k : Nat) (ho : on2 k = false) : naC P (fun i => decide (k ≤ i) && on2 i) nd2 = naC P (fun i => decide (k + 1 ≤ i) && on2 i) nd2 := by
  refine naC_congr (fun i hi => ?_) fun _ _ _ => rfl
  by_cases e : i = k
  · subst e; simp [ho]
  · have : decide (k + 1 ≤ i) = decide (k ≤ i) := by simp; omega
    rw [this]
end
end Go.Proofs.Ytpbepmipfjcjbaa
namespace Go.Proofs.Ytpbepmipfjcjbaa
open Go.RowKit

theorem under_ptrQ : Try.prog.underlying 24 = some (.pointer 71) := by kernel_rfl
theorem info_Q : (Try.prog.info? 71).map (·.size) = some 3 ∨ (Try.prog.info? 71).map (·.size) = some 5 := by first | exact .inl (by kernel_rfl) | exact .inr (by kernel_rfl)
theorem eqQ_other {w : World} {g h : Nat} {t u : TypeId} {cs ds : Array Value} (hg : Blk w g t cs) (hh : Blk w h u ds) (hne : g ≠ h) : (binOp .eql 24 (.pointer (some ⟨g, 0, none⟩)) (.pointer (some ⟨h, 0, none⟩))).run Try.prog w = .ok (.bool false) w := by
  obtain ⟨i, hi, hs⟩ : ∃ i, Try.prog.info? 71 = some i ∧ (i.size = 3 ∨ i.size = 5) := by
    have := info_Q
    cases h : Try.prog.info? 71 with
    | none => rw [h] at this; rcases this with h | h <;> cases h
    | some i => rw [h] at this; exact ⟨i, rfl, by simpa using this⟩
  have h1 := run_sameAddr_other (P := Try.prog) (a := ⟨g, 0, none⟩) (b := ⟨h, 0, none⟩) w (fun e => hne (by injection e)) hg hh
  have hd : ∀ d : Nat, (Op.equalIn (d + 1) 24 (.pointer (some ⟨g, 0, none⟩)) (.pointer (some ⟨h, 0, none⟩))).run Try.prog w = .ok false w := fun d => by
    rcases hs with hs | hs <;> simp [Op.equalIn, run_underlying under_ptrQ, sizeOf, typeInfo, hi, hs, h1]
  simp only [binOp]
  simp [Op.equal, Op.maxDepth, hd 9999]
attribute [local irreducible] Calls
set_option linter.unusedSimpArgs false in
set_option maxRecDepth 100000 in
set_option maxHeartbeats 2000000 in
theorem ph_meld_arg (q nb o nbo P P2 : Nat) (on on2 : Nat → Bool) (nd nd2 : Nat → Nat) (tm tm2 : Nat → Timer) (f g : Lk) (r r2 : Option Nat) (n n2 : Int) (w : World) (h : PM w q nb P on nd tm f r n) (k : PM w o nbo P2 on2 nd2 tm2 g r2 n2) (hne : P ≠ P2) :
    Calls Try.prog 17 #[.pointer (some ⟨q, 0, none⟩), .pointer (some ⟨o, 0, none⟩)] w fun e w' => e = .returned (.int .i64 1) ∧ Below w.heap.size w w' := by
  have hqb := h.qb
  have hob := k.qb
  unfold QB at hqb hob
  go_enter Try.func17, Try.ntmps17
  go_wp2_with fail
  have hs0 : Below w.heap.size w w.drew := (Below.refl _ _).drew
  refine region_facts_set 11 (fun _ => false) (FV [.pointer (some ⟨q, 0, none⟩), .pointer (some ⟨q, 0, none⟩), .pointer (some ⟨q, 0, none⟩), .slice (some ⟨nb, 0, none⟩) P P, .int .i64 P, .pointer (some ⟨o, 0, none⟩), .pointer (some ⟨o, 0, none⟩), .pointer (some ⟨o, 0, none⟩), .slice (some ⟨nbo, 0, none⟩) P2 P2, .int .i64 P2, .bool ((P : Int) != (P2 : Int))]) (fun _ x => Below w.heap.size w x) (fun _ x y => x.heap.size ≤ y.heap.size) [9, 10, 11, 12, 13, 14, 15, 16, 17, 18, 19] (by kernel_rfl) (by kernel_rfl) (by kernel_rfl) (by decide) (by kernel_rfl) (by kernel_rfl) (fun _ _ _ _ _ _ h _ => h) (fun _ _ _ h => h) hs0 ?_ ?_
  · intro fr hfr
    have f0 : fr.getD 0 undef = .pointer (some ⟨q, 0, none⟩) := by rw [hfr]; rfl
    have f1 : fr.getD 1 undef = .pointer (some ⟨o, 0, none⟩) := by rw [hfr]; rfl
    clear hfr
    iterate 11
      refine ⟨⟨by first | trivial | exact ⟨rfl, fun _ _ h => h⟩, ?_⟩, ?_⟩
      · intro ρ w' p hp hdq hρ hd hSt
        simp only [DepF, Region.binds, List.getD_cons_zero, List.getD_cons_succ, FV, forall_const, and_true, true_and] at hd
        have hcon := hρ.con
        (have e0 := (hρ.slot 0 (by kernel_rfl)).trans f0; have e1 := (hρ.slot 1 (by kernel_rfl)).trans f1)
        (have ea := (hqb.below hSt hqb.lt).cell; have eb := (hob.below hSt hob.lt).cell)
        (try rw [execOp_call_fn _ _ _ _ _ _ _ _ _ (hρ.fn _)])
        go_simp
        (try simp only [GoodQ, FV, List.getD_cons_zero, List.getD_cons_succ])
        first
          | exact ⟨rfl, Nat.le_refl _, fun h => absurd h (by decide), hSt⟩
          | exact ⟨trivial, Nat.le_refl _, fun h => absurd h (by decide), hSt⟩
          | fail
    trivial
  · intro vs w5 hSt hF _
    have h10 : vs 10 = .bool ((P : Int) != (P2 : Int)) := hF 10 (by decide)
    rw [show ((P : Int) != (P2 : Int)) = true from by simp; omega] at h10
    simp only [setAll, List.setIfInBounds_toArray, List.set_cons_zero, List.set_cons_succ, Nat.reduceAdd]
    rw [h10]
    simp only [List.drop_succ_cons, List.drop_zero, List.drop_nil]
    clear h10 hF hs0 h k hqb hob
    go_wp2_with fail
    go_ret
    exact ⟨rfl, hSt⟩
/-- The memory is known whole: one store (operation m) turns it. -/
def SDet (m : Nat) (W1 W2 : World) (p : Nat → Bool) (x : World) : Prop := x = if p m = true then W2 else W1
theorem SDet.start (m : Nat) (W1 W2 : World) : SDet m W1 W2 (fun _ => false) W1 := rfl
theorem SDet.other {m i : Nat} {W1 W2 x : World} {p : Nat → Bool} (h : SDet m W1 W2 p x) (hi : i ≠ m) : SDet m W1 W2 (also p i) x := by
  unfold SDet at *
  rw [show also p i m = p m from by simp [also, Ne.symm hi]]
  exact h
theorem SDet.here (m : Nat) (W1 W2 : World) (p : Nat → Bool) : SDet m W1 W2 (also p m) W2 := by
  unfold SDet
  rw [show also p m m = true from by simp [also]]
  rfl
theorem SDet.old {m : Nat} {W1 W2 x : World} {p : Nat → Bool} (h : SDet m W1 W2 p x) (hp : p m = false) : x = W1 := by
  unfold SDet at h
  rw [hp] at h
  exact h
theorem SDet.new {m : Nat} {W1 W2 x : World} {p : Nat → Bool} (h : SDet m W1 W2 p x) (hp : p m = true) : x = W2 := by
  unfold SDet at h
  rw [hp] at h
  exact h
theorem SDet.two {m : Nat} {W1 W2 x : World} {p : Nat → Bool} (h : SDet m W1 W2 p x) {Q : World → Prop} (h1 : Q W1) (h2 : Q W2) : Q x := by
  cases e : p m with
  | true => rw [h.new e]; exact h2
  | false => rw [h.old e]; exact h1
/-- What the memory is where the roots are melded (operation 10) and stored (13), of the operations p done. -/
structure SRt (q nb o nbo P : Nat) (on' : Nat → Bool) (nd' nd2 : Nat → Nat) (tm' : Nat → Timer) (f' f3 : Lk) (r r2 rr : Option Nat) (n n2 : Int) (we : World) (p : Nat → Bool) (x : World) : Prop where
  pm : PM x q nb P on' nd' tm' (if p 10 = true then f3 else f') (if p 13 = true then rr else r) n
  ob : QB x o nbo P nd' r2 n2
  ar2 : Blk x nbo 69 (naC P (fun _ => false) nd2)
  chg : Chg (fun b => NB (Liv P on') nd' b ∨ b = q) we x
  dep : p 13 = true → p 5 = true ∧ p 10 = true
section
variable {q nb o nbo P : Nat} {on' : Nat → Bool} {nd' nd2 : Nat → Nat} {tm' : Nat → Timer} {f' f3 : Lk} {r r2 rr : Option Nat} {n n2 : Int} {we x x' : World} {p : Nat → Bool} {i : Nat}
theorem SRt.other (h : SRt q nb o nbo P on' nd' nd2 tm' f' f3 r r2 rr n n2 we p x) (h1 : i ≠ 10) (h2 : i ≠ 13) : SRt q nb o nbo P on' nd' nd2 tm' f' f3 r r2 rr n n2 we (also p i) x := by
  have e1 : also p i 10 = p 10 := by simp [also, Ne.symm h1]
  have e2 : also p i 13 = p 13 := by simp [also, Ne.symm h2]
  have e3 : p 5 = true → also p i 5 = true := fun e => by simp [also, e]
  exact ⟨by rw [e1, e2]; exact h.pm, h.ob, h.ar2, h.chg, by rw [e1, e2]; exact fun e => ⟨e3 (h.dep e).1, (h.dep e).2⟩⟩
theorem SRt.early (h : SRt q nb o nbo P on' nd' nd2 tm' f' f3 r r2 rr n n2 we p x) (hp : p 5 = false ∨ p 10 = false) : p 13 = false := by
  cases e : p 13 with
  | false => rfl
  | true =>
    obtain ⟨a, b⟩ := h.dep e
    rcases hp with hp | hp
    · rw [a] at hp; cases hp
    · rw [b] at hp; cases hp
theorem SRt.root (h : SRt q nb o nbo P on' nd' nd2 tm' f' f3 r r2 rr n n2 we p x) (hp : p 5 = false ∨ p 10 = false) : ∀ i, x.cell? ⟨q, i, none⟩ = #[.slice (some ⟨nb, 0, none⟩) P P, ptrN nd' r, .int .i64 n][i]? := by
  have := Blk.cell h.pm.qb
  rw [h.early hp] at this
  exact this
theorem SRt.meld (h : SRt q nb o nbo P on' nd' nd2 tm' f' f3 r r2 rr n n2 we p x) (hp : p 10 = false) (hno : ∀ i, Liv P on' i → nd' i ≠ o ∧ nd' i ≠ nbo) (k : MO (Liv P on') nd' tm' f3 x x') : SRt q nb o nbo P on' nd' nd2 tm' f' f3 r r2 rr n n2 we (also p 10) x' := by
  have h13 := h.early (.inr hp)
  have e1 : also p 10 10 = true := by simp [also]
  have e2 : also p 10 13 = p 13 := by simp [also]
  have hpm := h.pm
  rw [hp, h13] at hpm
  refine ⟨?_, Blk.chg h.ob k.chg fun ⟨i, hi, e⟩ => (hno i hi).1 e, h.ar2.chg k.chg fun ⟨i, hi, e⟩ => (hno i hi).2 e, h.chg.trans k.chg fun _ _ e => .inl e, fun e => by rw [e2, h13] at e; cases e⟩
  rw [e1, e2, h13]
  exact hpm.nodes k.nm k.chg
theorem SRt.store (h : SRt q nb o nbo P on' nd' nd2 tm' f' f3 r r2 rr n n2 we p x) (h5 : p 5 = true) (h10 : p 10 = true) (hqo : q ≠ o) (hqn : q ≠ nbo) : SRt q nb o nbo P on' nd' nd2 tm' f' f3 r r2 rr n n2 we (also p 13) (x.setCell ⟨q, 1, none⟩ (ptrN nd' rr)) := by
  have e1 : also p 13 10 = true := by simp [also, h10]
  have e2 : also p 13 13 = true := by simp [also]
  have e3 : also p 13 5 = true := by simp [also, h5]
  have hpm := h.pm
  rw [h10] at hpm
  have hk := chg_cell x q 1 (ptrN nd' rr)
  refine ⟨?_, Blk.chg h.ob hk hqo.symm, h.ar2.chg hk hqn.symm, h.chg.trans hk fun _ _ e => .inr e, fun _ => ⟨e3, e1⟩⟩
  rw [e1, e2]
  exact hpm.root_ rr
end
theorem wrap_small {x : Int} (h : 0 ≤ x ∧ x ≤ 100000) : IntKind.i64.wrap x = x := by
  simp [IntKind.wrap, IntKind.bits, IntKind.signed]
  omega
/-- As SDet; the store waits for operation j. -/
structure SDe (m j : Nat) (W1 W2 : World) (p : Nat → Bool) (x : World) : Prop where
  det : SDet m W1 W2 p x
  dep : p m = true → p j = true
theorem SDe.other {m j i : Nat} {W1 W2 x : World} {p : Nat → Bool} (h : SDe m j W1 W2 p x) (hi : i ≠ m) : SDe m j W1 W2 (also p i) x := by
  refine ⟨h.det.other hi, fun e => ?_⟩
  have e2 : also p i m = p m := by simp [also, Ne.symm hi]
  rw [e2] at e
  have := h.dep e
  simp [also, this]
theorem SDe.here {m j : Nat} {W1 W2 x : World} {p : Nat → Bool} (_h : SDe m j W1 W2 p x) (hj : p j = true) : SDe m j W1 W2 (also p m) W2 := ⟨SDet.here _ _ _ _, fun _ => by simp [also, hj]⟩
theorem SDe.early {m j : Nat} {W1 W2 x : World} {p : Nat → Bool} (h : SDe m j W1 W2 p x) (hj : p j = false) : x = W1 := h.det.old (by
  cases e : p m with
  | false => rfl
  | true => rw [h.dep e] at hj; cases hj)
/-- Two places' blocks lie apart. -/
def Apart (P q nb o nbo : Nat) (on on2 : Nat → Bool) (nd nd2 : Nat → Nat) : Prop := ∀ b, QS q nb P on nd b → QS o nbo P on2 nd2 b → False
/-- What Meld leaves. -/
def MeO (q nb o nbo P : Nat) (on on2 : Nat → Bool) (nd nd2 : Nat → Nat) (tm tm2 : Nat → Timer) (g : Lk) (n n2 : Int) (w w' : World) : Prop :=
  ∃ D f1, D.length ≤ 1 ∧ PF P (mixB on on2) (mixA on2 tm2 tm) f1 D ∧ PM w' q nb P (mixB on on2) (mixA on2 nd2 nd) (mixA on2 tm2 tm) f1 (rootL D) (n + n2) ∧ PM w' o nbo P (fun _ => false) nd2 tm2 g none 0 ∧ Chg (fun b => QS q nb P on nd b ∨ QS o nbo P on2 nd2 b) w w'
def MeQ (q nb o nbo P : Nat) (on on2 : Nat → Bool) (nd nd2 : Nat → Nat) (tm tm2 : Nat → Timer) (g : Lk) (n n2 : Int) (w : World) (e : Ending) (w' : World) : Prop :=
  ((∃ i, i < P ∧ on i = true ∧ on2 i = true) ∧ e = .returned (.int .i64 4) ∧ Below w.heap.size w w') ∨ ((∀ i, i < P → on i = true → on2 i = false) ∧ e = .returned (.int .i64 0) ∧ MeO q nb o nbo P on on2 nd nd2 tm tm2 g n n2 w w')
/-- The two arrays, half way (k slots have been gone through). -/
structure MeI (q nb o nbo P : Nat) (on on2 : Nat → Bool) (nd nd2 : Nat → Nat) (tm tm2 : Nat → Timer) (f g : Lk) (r r2 : Option Nat) (n n2 : Int) (we : World) (k : Nat) (w : World) : Prop where
  nm : NM w (Liv P on) nd tm f
  nm2 : NM w (Liv P on2) nd2 tm2 g
  qb : QB w q nb P nd r n
  qb2 : QB w o nbo P nd2 r2 n2
  ar : Blk w nb 69 (naC P (mixB on fun i => decide (i < k) && on2 i) (mixA (fun i => decide (i < k) && on2 i) nd2 nd))
  ar2 : Blk w nbo 69 (naC P (fun i => decide (k ≤ i) && on2 i) nd2)
  chg : Chg (fun b => b = nb ∨ b = nbo) we w
set_option linter.unusedSimpArgs false in
set_option maxRecDepth 100000 in
set_option maxHeartbeats 8000000 in
theorem ph_meldq (q nb o nbo P : Nat) (on on2 : Nat → Bool) (nd nd2 : Nat → Nat) (tm tm2 : Nat → Timer) (f g : Lk) (L M : List (Nat × BT)) (n n2 : Int) (w : World) (h : PM w q nb P on nd tm f (rootL L) n) (k : PM w o nbo P on2 nd2 tm2 g (rootL M) n2) (hp : PF P on tm f L) (kp : PF P on2 tm2 g M) (hL : L.length ≤ 1) (hM : M.length ≤ 1) (hP : P ≤ 1024) (hap : Apart P q nb o nbo on on2 nd nd2) (hn : 0 ≤ n ∧ n ≤ 1024) (hn2 : 0 ≤ n2 ∧ n2 ≤ 1024) :
    Calls Try.prog 17 #[.pointer (some ⟨q, 0, none⟩), .pointer (some ⟨o, 0, none⟩)] w fun e w' => MeQ q nb o nbo P on on2 nd nd2 tm tm2 g n n2 w e w' := by
  have hqo : q ≠ o := fun e => hap q (.inl rfl) (.inl e)
  have hqnb := h.ne.1
  have honb := k.ne.1
  have hqnbo : q ≠ nbo := fun e => hap q (.inl rfl) (.inr (.inl e))
  have hnbo : nb ≠ o := fun e => hap nb (.inr (.inl rfl)) (.inl e)
  have hnn : nb ≠ nbo := fun e => hap nb (.inr (.inl rfl)) (.inr (.inl e))
  have hqb := h.qb
  have hob := k.qb
  unfold QB at hqb hob
  go_enter Try.func17, Try.ntmps17
  go_wp2_with fail
  have hs0 : Below w.heap.size w w.drew := (Below.refl _ _).drew
  refine region_facts_set 11 (fun _ => false) (FV [.pointer (some ⟨q, 0, none⟩), .pointer (some ⟨q, 0, none⟩), .pointer (some ⟨q, 0, none⟩), .slice (some ⟨nb, 0, none⟩) P P, .int .i64 P, .pointer (some ⟨o, 0, none⟩), .pointer (some ⟨o, 0, none⟩), .pointer (some ⟨o, 0, none⟩), .slice (some ⟨nbo, 0, none⟩) P P, .int .i64 P, .bool ((P : Int) != (P : Int))]) (fun _ x => Below w.heap.size w x) (fun _ x y => x.heap.size ≤ y.heap.size) [9, 10, 11, 12, 13, 14, 15, 16, 17, 18, 19] (by kernel_rfl) (by kernel_rfl) (by kernel_rfl) (by decide) (by kernel_rfl) (by kernel_rfl) (fun _ _ _ _ _ _ h _ => h) (fun _ _ _ h => h) hs0 ?_ ?_
  · intro fr hfr
    have f0 : fr.getD 0 undef = .pointer (some ⟨q, 0, none⟩) := by rw [hfr]; rfl
    have f1 : fr.getD 1 undef = .pointer (some ⟨o, 0, none⟩) := by rw [hfr]; rfl
    clear hfr
    iterate 11
      refine ⟨⟨by first | trivial | exact ⟨rfl, fun _ _ h => h⟩, ?_⟩, ?_⟩
      · intro ρ w' p hp hdq hρ hd hSt
        simp only [DepF, Region.binds, List.getD_cons_zero, List.getD_cons_succ, FV, forall_const, and_true, true_and] at hd
        have hcon := hρ.con
        (have e0 := (hρ.slot 0 (by kernel_rfl)).trans f0; have e1 := (hρ.slot 1 (by kernel_rfl)).trans f1)
        (have ea := (hqb.below hSt hqb.lt).cell; have eb := (hob.below hSt hob.lt).cell)
        (try rw [execOp_call_fn _ _ _ _ _ _ _ _ _ (hρ.fn _)])
        go_simp
        (try simp only [GoodQ, FV, List.getD_cons_zero, List.getD_cons_succ])
        first
          | exact ⟨rfl, Nat.le_refl _, fun h => absurd h (by decide), hSt⟩
          | exact ⟨trivial, Nat.le_refl _, fun h => absurd h (by decide), hSt⟩
          | fail
    trivial
  · intro vs w5 hSt hF _
    have h10 : vs 10 = .bool ((P : Int) != (P : Int)) := hF 10 (by decide)
    rw [bne_self_eq_false] at h10
    have h5 := h.below hSt
    have k5 := k.below hSt
    simp only [setAll, List.setIfInBounds_toArray, List.set_cons_zero, List.set_cons_succ, Nat.reduceAdd]
    rw [h10]
    simp only [List.drop_succ_cons, List.drop_zero, List.drop_nil]
    clear h10 hF hs0 h k hqb hob
    have cq := Blk.cell h5.qb
    have co := Blk.cell k5.qb
    have ca := h5.ar.cell
    have ca2 := k5.ar.cell
    go_wp2_with fail
    go_loopw [25] (fun i wr => ∃ j : Nat, j ≤ P ∧ i = .int .i64 j ∧ w5 = wr ∧ ∀ z, z < j → on z = true → on2 z = false) (fun i _ => P - (intOf i).toNat)
    case atStart => exact ⟨0, Nat.zero_le _, rfl, rfl, fun z hz => absurd hz (by omega)⟩
    case round =>
      obtain ⟨j, hj, rfl, rfl, hz⟩ := hrel
      by_cases hlt : j < P
      · have cj := (ca j).trans (naC_get P on nd j hlt)
        have cj2 := (ca2 j).trans (naC_get P on2 nd2 j hlt)
        have HZ := Lib.hid hz
        clear ca ca2 hz
        by_cases h1 : on2 j = true
        · rw [if_pos h1] at cj2
          by_cases h2 : on j = true
          · rw [if_pos h2] at cj
            have RES : Hid (MeQ q nb o nbo P on on2 nd nd2 tm tm2 g n n2 w (.returned (.int .i64 4)) w5) := Lib.hid (.inl ⟨⟨j, hlt, h2, h1⟩, rfl, hSt⟩)
            clear h5 k5 hap hSt h1 h2
            go_wp2_with fail
            go_ret
            exact RES.out
          · rw [if_neg h2] at cj
            clear h5 k5 hap hSt h1
            go_wp2_with fail
            go_roundw
            case rel => exact ⟨j + 1, by omega, by go_num, trivial, fun z hz1 hz2 => by
              by_cases e : z = j
              · exact absurd (e ▸ hz2) h2
              · exact HZ.out z (by omega) hz2⟩
            case measure => simp [intOf]; omega
        · rw [if_neg h1] at cj2
          clear h5 k5 hap hSt
          go_wp2_with fail
          go_roundw
          case rel => exact ⟨j + 1, by omega, by go_num, trivial, fun z hz1 hz2 => by
              by_cases e : z = j
              · subst e; simpa using h1
              · exact HZ.out z (by omega) hz2⟩
          case measure => simp [intOf]; omega
      · obtain rfl : P = j := by omega
        have HZ := Lib.hid hz
        have hE := eqQ_other h5.qb k5.qb hqo
        clear ca ca2 hz
        go_wp2_with fail
        have hI : MeI q nb o nbo P on on2 nd nd2 tm tm2 f g (rootL L) (rootL M) n n2 w5 0 w5 := by
          refine ⟨h5.nm, k5.nm, h5.qb, k5.qb, ?_, ?_, Chg.refl _ _⟩
          · rw [show naC P (mixB on fun i => decide (i < 0) && on2 i) (mixA (fun i => decide (i < 0) && on2 i) nd2 nd) = naC P on nd from naC_congr (fun i _ => by simp [mixB]) fun i _ _ => by simp [mixA]]
            exact h5.ar
          · rw [show naC P (fun i => decide (0 ≤ i) && on2 i) nd2 = naC P on2 nd2 from naC_congr (fun i _ => by simp) fun _ _ _ => rfl]
            exact k5.ar
        have hap1 : ∀ i, Liv P on i → nd i ≠ nb ∧ nd i ≠ nbo := fun i hi => ⟨(h5.ne.2 i hi).2, fun e => hap _ (.inr (.inr ⟨i, hi, rfl⟩)) (.inr (.inl e))⟩
        have hap2 : ∀ i, Liv P on2 i → nd2 i ≠ nb ∧ nd2 i ≠ nbo := fun i hi => ⟨fun e => hap _ (.inr (.inl rfl)) (.inr (.inr ⟨i, hi, e⟩)), (k5.ne.2 i hi).2⟩
        have H5 := Lib.hid h5
        have K5 := Lib.hid k5
        clear h5 k5 cq hE
        go_wp2_with fail
        go_loopw [51] (fun i wr => ∃ j : Nat, j ≤ P ∧ i = .int .i64 j ∧ MeI q nb o nbo P on on2 nd nd2 tm tm2 f g (rootL L) (rootL M) n n2 w5 j wr) (fun i _ => P - (intOf i).toNat)
        case atStart => exact ⟨0, Nat.zero_le _, rfl, hI⟩
        case round =>
          clear hI co
          obtain ⟨j, hj, rfl, hI⟩ := hrel
          by_cases hlt : j < P
          · have cj2 := (hI.ar2.cell j).trans (naC_get P _ nd2 j hlt)
            have cj1 := (hI.ar.cell j).trans (naC_get P _ _ j hlt)
            by_cases h1 : on2 j = true
            · rw [if_pos (by simp [h1])] at cj2
              have hx1 : MeI q nb o nbo P on on2 nd nd2 tm tm2 f g (rootL L) (rootL M) n n2 w5 j wr.drew := ⟨hI.nm.drew, hI.nm2.drew, Blk.drew hI.qb, Blk.drew hI.qb2, hI.ar.drew, hI.ar2.drew, hI.chg.drew⟩
              have hk2 := chg_cell wr.drew nb j (.pointer (some ⟨nd2 j, 0, none⟩))
              have hQ2 : QB (wr.drew.setCell ⟨nb, j, none⟩ (.pointer (some ⟨nd2 j, 0, none⟩))) q nb P nd (rootL L) n := Blk.chg hx1.qb hk2 hqnb
              have hO2 : QB (wr.drew.setCell ⟨nb, j, none⟩ (.pointer (some ⟨nd2 j, 0, none⟩))) o nbo P nd2 (rootL M) n2 := Blk.chg hx1.qb2 hk2 hnbo.symm
              have hA2 := hx1.ar.put j (.pointer (some ⟨nd2 j, 0, none⟩))
              rw [naC_mix_step P on on2 nd nd2 j hlt h1] at hA2
              have hB2 := hx1.ar2.chg hk2 hnn.symm
              have hk3 := chg_cell (wr.drew.setCell ⟨nb, j, none⟩ (.pointer (some ⟨nd2 j, 0, none⟩))) nbo j (.pointer none)
              have hB3 := hB2.put j (.pointer none)
              rw [naC_left_step P on2 nd2 j hlt] at hB3
              have hN := Lib.hid (show MeI q nb o nbo P on on2 nd nd2 tm tm2 f g (rootL L) (rootL M) n n2 w5 (j + 1) ((wr.drew.setCell ⟨nb, j, none⟩ (.pointer (some ⟨nd2 j, 0, none⟩))).setCell ⟨nbo, j, none⟩ (.pointer none)) from
                ⟨(hx1.nm.chg hk2 fun i hi => (hap1 i hi).1).chg hk3 fun i hi => (hap1 i hi).2, (hx1.nm2.chg hk2 fun i hi => (hap2 i hi).1).chg hk3 fun i hi => (hap2 i hi).2, Blk.chg hQ2 hk3 hqnbo, Blk.chg hO2 hk3 honb, hA2.chg hk3 hnn, hB3, (hx1.chg.trans hk2 fun _ _ e => .inl e).trans hk3 fun _ _ e => .inr e⟩)
              have hQ1 := hx1.qb
              have hO1 := hx1.qb2
              have zn := hx1.ar.frozen
              have ln := hx1.ar.lt
              have cn : wr.drew.cell? ⟨nb, j, none⟩ = _ := (hx1.ar.cell j).trans (naC_get P _ _ j hlt)
              have zo := hB2.frozen
              have lo := hB2.lt
              have co : (wr.drew.setCell ⟨nb, j, none⟩ (.pointer (some ⟨nd2 j, 0, none⟩))).cell? ⟨nbo, j, none⟩ = _ := (hB2.cell j).trans (naC_get P _ _ j hlt)
              unfold QB at hQ1 hQ2 hO1 hO2
              generalize hgx : nd2 j = gx at *
              clear hI hx1 hk2 hA2 hB2 hk3 hB3 cj1 hgx
              go_wp2_with fail
              refine region_facts_all 13 (fun _ => false) (FV [.pointer (some ⟨q, 0, none⟩), .pointer (some ⟨q, 0, none⟩), .pointer (some ⟨q, 0, none⟩), .slice (some ⟨nb, 0, none⟩) P P, .int .i64 j, .pointer (some ⟨o, 0, none⟩), .pointer (some ⟨o, 0, none⟩), .pointer (some ⟨o, 0, none⟩), .slice (some ⟨nbo, 0, none⟩) P P, .int .i64 j, .pointer (some ⟨gx, 0, none⟩), .pointer (some ⟨nb, j, none⟩), undef])
                (SDet 12 wr.drew (wr.drew.setCell ⟨nb, j, none⟩ (.pointer (some ⟨gx, 0, none⟩)))) (fun _ x y => x.heap.size ≤ y.heap.size) [58, 59, 60, 61, 62, 63, 64, 65, 66, 67, 68, 69, 1000] (by kernel_rfl) (by kernel_rfl) (by kernel_rfl) (by decide) (by kernel_rfl) (fun _ _ _ _ _ _ h _ => h) (fun _ _ _ h => h) (SDet.start _ _ _) ?_ ?_
              · intro fr hfr
                have f0 : fr.getD 0 undef = .pointer (some ⟨q, 0, none⟩) := by rw [hfr]; rfl
                have f1 : fr.getD 1 undef = .pointer (some ⟨o, 0, none⟩) := by rw [hfr]; rfl
                have f7 : fr.getD 7 undef = .int .i64 j := by rw [hfr]; rfl
                have f8 : fr.getD 8 undef = .pointer (some ⟨gx, 0, none⟩) := by rw [hfr]; rfl
                clear hfr
                iterate 13
                  refine ⟨⟨trivial, ?_⟩, ?_⟩
                  · intro ρ w' p hp' hdq hρ hd hSt
                    simp only [DepF, Region.binds, List.getD_cons_zero, List.getD_cons_succ, FV, forall_const, and_true, true_and] at hd
                    have hcon := hρ.con
                    have e0 := (hρ.slot 0 (by kernel_rfl)).trans f0
                    have e1 := (hρ.slot 1 (by kernel_rfl)).trans f1
                    have e7 := (hρ.slot 7 (by kernel_rfl)).trans f7
                    have e8 := (hρ.slot 8 (by kernel_rfl)).trans f8
                    have eq : ∀ i, w'.cell? ⟨q, i, none⟩ = #[.slice (some ⟨nb, 0, none⟩) P P, ptrN nd (rootL L), .int .i64 n][i]? := hSt.two (Q := fun x => ∀ i, x.cell? ⟨q, i, none⟩ = #[.slice (some ⟨nb, 0, none⟩) P P, ptrN nd (rootL L), .int .i64 n][i]?) hQ1.cell hQ2.cell
                    have eo : ∀ i, w'.cell? ⟨o, i, none⟩ = #[.slice (some ⟨nbo, 0, none⟩) P P, ptrN nd2 (rootL M), .int .i64 n2][i]? := hSt.two (Q := fun x => ∀ i, x.cell? ⟨o, i, none⟩ = #[.slice (some ⟨nbo, 0, none⟩) P P, ptrN nd2 (rootL M), .int .i64 n2][i]?) hO1.cell hO2.cell
                    have HS := Lib.hid hSt
                    (try have e12 : w' = wr.drew := hSt.old (show p 12 = false from hp'))
                    clear hSt
                    (try subst e12)
                    go_simp
                    (try simp only [GoodR, FV, List.getD_cons_zero, List.getD_cons_succ])
                    first
                      | exact ⟨fun h => absurd h (by decide), rfl, Nat.le_refl _, fun h => absurd h (by decide), HS.out.other (by decide)⟩
                      | exact ⟨fun h => absurd h (by decide), trivial, Nat.le_refl _, fun h => absurd h (by decide), HS.out.other (by decide)⟩
                      | exact ⟨trivial, (by simp [World.setCell]), fun h => absurd h (by decide), SDet.here _ _ _ _⟩
                trivial
              · intro vs w8 hSt hF _
                have h8 : vs 8 = .slice (some ⟨nbo, 0, none⟩) P P := hF 8 (by decide)
                have h9 : vs 9 = .int .i64 j := hF 9 (by decide)
                have e8 : w8 = wr.drew.setCell ⟨nb, j, none⟩ (.pointer (some ⟨gx, 0, none⟩)) := hSt.new (by decide)
                clear hSt
                subst e8
                simp only [setAll, List.setIfInBounds_toArray, List.set_cons_zero, List.set_cons_succ, Nat.reduceAdd]
                rw [h8, h9]
                simp only [List.drop_succ_cons, List.drop_zero, List.drop_nil]
                clear h8 h9 hF hQ1 hQ2 hO1 hO2 zn ln cn
                generalize wr.drew.setCell ⟨nb, j, none⟩ (.pointer (some ⟨gx, 0, none⟩)) = w8 at *
                go_wp2_with fail
                go_roundw
                case rel => exact ⟨j + 1, by omega, by go_num, hN.out⟩
                case measure => simp [intOf]; omega
            · have h1' : on2 j = false := by simpa using h1
              rw [if_neg (by simp [h1'])] at cj2
              have HI := Lib.hid hI
              clear hI cj1
              go_wp2_with fail
              go_roundw
              case rel => exact ⟨j + 1, by omega, by go_num, HI.out.nm, HI.out.nm2, HI.out.qb, HI.out.qb2, by rw [← naC_mix_skip P on on2 nd nd2 j h1']; exact HI.out.ar, by rw [← naC_left_skip P on2 nd2 j h1']; exact HI.out.ar2, HI.out.chg⟩
              case measure => simp [intOf]; omega
          · obtain rfl : P = j := by omega
            have hnn2 : ∀ i j, Liv P on i → Liv P on2 j → nd i ≠ nd2 j := fun i j hi hj e => hap _ (.inr (.inr ⟨i, hi, rfl⟩)) (.inr (.inr ⟨j, hj, e.symm⟩))
            have hNM := hI.nm.mix hI.nm2 hp kp (fun i a b => HZ.out i a b) hnn2
            have hPF := hp.mix kp (fun i a b => HZ.out i a b)
            have hrt : ∀ j, rootL L = some j → mixA on2 nd2 nd j = nd j := fun j e => by
              obtain ⟨p, hpL, rfl⟩ := rootL_in e
              obtain ⟨a, b⟩ := (hp.mem p.1).1 (List.mem_flatMap.2 ⟨p, hpL, by simp⟩)
              exact mixA_off _ _ (HZ.out _ a b)
            have hrt2 : ∀ j, rootL M = some j → mixA on2 nd2 nd j = nd2 j := fun j e => by
              obtain ⟨p, hpL, rfl⟩ := rootL_in e
              obtain ⟨a, b⟩ := (kp.mem p.1).1 (List.mem_flatMap.2 ⟨p, hpL, by simp⟩)
              exact mixA_on _ _ b
            have hqb7 := hI.qb
            have hob7 := hI.qb2
            unfold QB at hqb7 hob7
            rw [← ptrN_congr hrt] at hqb7
            rw [← ptrN_congr hrt2] at hob7
            have har7 := hI.ar
            rw [show naC P (mixB on fun i => decide (i < P) && on2 i) (mixA (fun i => decide (i < P) && on2 i) nd2 nd) = naC P (mixB on on2) (mixA on2 nd2 nd) from naC_congr (fun i hi => by simp [mixB, hi]) fun i hi _ => by simp [mixA, hi]] at har7
            have har8 := hI.ar2
            rw [show naC P (fun i => decide (P ≤ i) && on2 i) nd2 = naC P (fun _ => false) nd2 from naC_congr (fun i hi => by simp; omega) fun _ _ _ => rfl] at har8
            have h7 : PM wr q nb P (mixB on on2) (mixA on2 nd2 nd) (mixA on2 tm2 tm) (mixF on2 g f) (rootL L) n := ⟨hNM, hqb7, har7⟩
            have hno : ∀ i, Liv P (mixB on on2) i → mixA on2 nd2 nd i ≠ o ∧ mixA on2 nd2 nd i ≠ nbo := fun i hi => by
              rcases liv_mix.1 hi with hi | hi
              · rw [mixA_off _ _ (HZ.out i hi.1 hi.2)]
                exact ⟨fun e => hap _ (.inr (.inr ⟨i, hi, rfl⟩)) (.inl e), (hap1 i hi).2⟩
              · rw [mixA_on _ _ hi.2]
                exact ⟨(K5.out.ne.2 i hi).1, (hap2 i hi).2⟩
            have hNBm : ∀ b, NB (Liv P (mixB on on2)) (mixA on2 nd2 nd) b → QS q nb P on nd b ∨ QS o nbo P on2 nd2 b := fun b ⟨i, hi, e⟩ => by
              rcases liv_mix.1 hi with hi | hi
              · rw [mixA_off _ _ (HZ.out i hi.1 hi.2)] at e
                exact .inl (.inr (.inr ⟨i, hi, e⟩))
              · rw [mixA_on _ _ hi.2] at e
                exact .inr (.inr (.inr ⟨i, hi, e⟩))
            have hme := fun w' hn => ph_meld_roots (R := []) (V := Liv P (mixB on on2)) (nd := mixA on2 nd2 nd) (tm := mixA on2 tm2 tm) (f := mixF on2 g f) (w := w') hn (A := L) (B := M) (by simpa using hPF.fr) fun i hi => (hPF.mem i).1 (by simpa using hi)
            obtain ⟨D, hD1, hD2, hD3, _⟩ := hPF.meldO hL hM
            have hC7 : Chg (fun b => QS q nb P on nd b ∨ QS o nbo P on2 nd2 b) w wr := (Chg.of_same hSt _).trans hI.chg fun b _ e => by
              rcases e with e | e
              · exact .inl (.inr (.inl e))
              · exact .inr (.inr (.inl e))
            have HD := Lib.hid (And.intro hD1 (And.intro hD2 hD3))
            generalize hmo : meldO (mixA on2 tm2 tm) (mixF on2 g f) (rootL L) (rootL M) = mo at *
            obtain ⟨f3, rr⟩ := mo
            dsimp only at hme HD
            have hs0 : SRt q nb o nbo P (mixB on on2) (mixA on2 nd2 nd) nd2 (mixA on2 tm2 tm) (mixF on2 g f) f3 (rootL L) (rootL M) rr n n2 wr (fun _ => false) wr.drew := ⟨h7.drew, Blk.drew hob7, har8.drew, (Chg.refl _ _).drew, fun e => (by cases e)⟩
            have HMO := Lib.hid hmo
            clear hmo hI hNM hPF hrt hrt2 hqb7 har7 hob7 har8 hD1 hD2 hD3 H5 hnn2 hap1 hap2
            go_wp2_with fail
            cases rr with
            | none =>
              rw [show ptrN (mixA on2 nd2 nd) none = .pointer none from rfl] at hme
              refine region_facts_all 14 (fun _ => false) (FV [.pointer (some ⟨q, 0, none⟩), .pointer (some ⟨o, 0, none⟩), .pointer (some ⟨q, 0, none⟩), .pointer (some ⟨q, 0, none⟩), .pointer (some ⟨q, 1, none⟩), ptrN (mixA on2 nd2 nd) (rootL L), .pointer (some ⟨o, 0, none⟩), .pointer (some ⟨o, 0, none⟩), .pointer (some ⟨o, 1, none⟩), ptrN (mixA on2 nd2 nd) (rootL M), .pointer none, .pointer (some ⟨q, 0, none⟩), .pointer (some ⟨q, 1, none⟩), undef]) _ (fun _ x y => x.heap.size ≤ y.heap.size) [72, 73, 74, 75, 76, 77, 78, 79, 80, 81, 82, 83, 84, 1000] (by kernel_rfl) (by kernel_rfl) (by kernel_rfl) (by decide) (by kernel_rfl) (fun _ _ _ _ _ _ h _ => h) (fun _ _ _ h => h) hs0 ?_ ?_
              · intro fr hfr
                have f0 : fr.getD 0 undef = .pointer (some ⟨q, 0, none⟩) := by rw [hfr]; rfl
                have f1 : fr.getD 1 undef = .pointer (some ⟨o, 0, none⟩) := by rw [hfr]; rfl
                clear hfr
                iterate 13
                  refine ⟨⟨trivial, ?_⟩, ?_⟩
                  · intro ρ w' p hp' hdq hρ hd hSt
                    simp only [DepF, Region.binds, List.getD_cons_zero, List.getD_cons_succ, FV, forall_const, and_true, true_and] at hd
                    have hcon := hρ.con
                    have e0 := (hρ.slot 0 (by kernel_rfl)).trans f0
                    have e1 := (hρ.slot 1 (by kernel_rfl)).trans f1
                    (try have eq := hSt.root (.inl hp'))
                    have eo := Blk.cell hSt.ob
                    (try rw [execOp_call_fn _ _ _ _ _ _ _ _ _ (hρ.fn _)])
                    go_simp
                    (try simp only [GoodR, FV, List.getD_cons_zero, List.getD_cons_succ])
                    first
                      | exact ⟨fun h => absurd h (by decide), rfl, Nat.le_refl _, fun h => absurd h (by decide), hSt.other (by decide) (by decide)⟩
                      | exact ⟨fun h => absurd h (by decide), trivial, Nat.le_refl _, fun h => absurd h (by decide), hSt.other (by decide) (by decide)⟩
                      | (have h10 : p 10 = false := hp'
                         refine (hme w' (by have := hSt.pm.nm; rw [h10] at this; exact this)).mono ?_
                         rintro e w'' ⟨rfl, hx⟩
                         exact ⟨_, rfl, fun h => absurd h (by decide), rfl, hx.chg.size, fun h => absurd h (by decide), hSt.meld h10 hno hx⟩)
                refine ⟨⟨trivial, ?_⟩, trivial⟩
                intro ρ w' p hp' hdq hρ hd hSt
                simp only [DepF, Region.binds, List.getD_cons_zero, List.getD_cons_succ, FV, forall_const, and_true, true_and] at hd
                simp [DepQ, Region.binds] at hdq
                have h5 : p 5 = true := by simp [hdq]
                have h10 : p 10 = true := by simp [hdq]
                have cq := Blk.cell hSt.pm.qb
                have zq := Blk.frozen hSt.pm.qb
                have lq := Blk.lt hSt.pm.qb
                clear hdq
                go_simp
                simp only [GoodR, FV, List.getD_cons_zero, List.getD_cons_succ]
                exact ⟨trivial, (by simp [World.setCell]), fun h => absurd h (by decide), hSt.store h5 h10 hqo hqnbo⟩
              · intro vs w8 hSt hF _
                have h1 : vs 1 = .pointer (some ⟨o, 0, none⟩) := hF 1 (by decide)
                have hpm := hSt.pm
                simp only [decide_eq_true_eq, Nat.reduceLT, if_true, decide_true, reduceIte] at hpm
                have hob := hSt.ob
                have har := hSt.ar2
                have hC8 := hSt.chg
                simp only [setAll, List.setIfInBounds_toArray, List.set_cons_zero, List.set_cons_succ, Nat.reduceAdd]
                rw [h1]
                simp only [List.drop_succ_cons, List.drop_zero, List.drop_nil]
                clear h1 hF hSt hs0 hme
                have co := Blk.cell hob
                have zo := Blk.frozen hob
                have lo := Blk.lt hob
                have hk9 := chg_cell w8 o 1 (.pointer none)
                have h9 : PM (w8.setCell ⟨o, 1, none⟩ (.pointer none)) q nb P (mixB on on2) (mixA on2 nd2 nd) (mixA on2 tm2 tm) f3 _ n := ⟨hpm.nm.chg hk9 fun i hi => (hno i hi).1, Blk.chg hpm.qb hk9 hqo, hpm.ar.chg hk9 hnbo⟩
                have hob9 := Blk.put hob 1 (.pointer none)
                simp only [List.setIfInBounds_toArray, List.set_cons_zero, List.set_cons_succ] at hob9
                have har9 := har.chg hk9 honb.symm
                have hC9 := (hC7.trans hC8 fun b _ e => e.elim (hNBm b) fun e => .inl (.inl e)).trans hk9 fun b _ e => .inr (.inl e)
                have hM9 := h9.drew
                have hb9 := Blk.drew hob9
                have ha9 := har9.drew
                have hC9d := hC9.drew
                clear hpm hob har hC8 hk9 h9 har9 hC9 hC7
                go_upto_region 18 with fail
                generalize w8.setCell ⟨o, 1, none⟩ (.pointer none) = w9 at *
                clear co zo lo
                have hW : wrap64 (n + n2) = n + n2 := by unfold wrap64; omega
                have hM10 := hM9.count (n + n2)
                have hk10 := chg_cell w9.drew q 2 (.int .i64 (n + n2))
                have hb10 := hb9.chg hk10 hqo.symm
                have ha10 := ha9.chg hk10 hqnbo.symm
                have hk11 := chg_cell (w9.drew.setCell ⟨q, 2, none⟩ (.int .i64 (n + n2))) o 2 (.int .i64 0)
                have hM11 : PM ((w9.drew.setCell ⟨q, 2, none⟩ (.int .i64 (n + n2))).setCell ⟨o, 2, none⟩ (.int .i64 0)) q nb P (mixB on on2) (mixA on2 nd2 nd) (mixA on2 tm2 tm) f3 _ (n + n2) := ⟨hM10.nm.chg hk11 fun i hi => (hno i hi).1, Blk.chg hM10.qb hk11 hqo, hM10.ar.chg hk11 hnbo⟩
                have hb11 := Blk.put hb10 2 (.int .i64 0)
                simp only [List.setIfInBounds_toArray, List.set_cons_zero, List.set_cons_succ] at hb11
                have ho11 : PM ((w9.drew.setCell ⟨q, 2, none⟩ (.int .i64 (n + n2))).setCell ⟨o, 2, none⟩ (.int .i64 0)) o nbo P (fun _ => false) nd2 tm2 g none 0 := ⟨⟨fun i hi => (by have h := hi.2; cases h), fun i _ hi _ _ => (by have h := hi.2; cases h)⟩, hb11, ha10.chg hk11 honb.symm⟩
                have hC11 := (hC9d.trans hk10 (fun b _ e => .inl (.inl e))).trans hk11 fun b _ e => .inr (.inl e)
                have RES : Hid (MeQ q nb o nbo P on on2 nd nd2 tm tm2 g n n2 w (.returned (.int .i64 0)) ((w9.drew.setCell ⟨q, 2, none⟩ (.int .i64 (n + n2))).setCell ⟨o, 2, none⟩ (.int .i64 0))) := Lib.hid (.inr ⟨fun i a b => HZ.out i a b, rfl, D, f3, HD.out.1, HD.out.2.1, by rw [HD.out.2.2]; exact hM11, ho11, hC11⟩)
                have cq := Blk.cell hM9.qb
                have zq := Blk.frozen hM9.qb
                have lq := Blk.lt hM9.qb
                have co := hb9.cell
                have co2 := hb10.cell
                have zo2 := hb10.frozen
                have lo2 := hb10.lt
                clear hM9 hM10 hM11 hb9 hb11 hb10 ha9 ha10 hk10 hk11 ho11 hC11 hC9d hob9
                go_wp2_with fail
                refine region_facts_all 14 (fun _ => false) (FV [.pointer (some ⟨q, 0, none⟩), .pointer (some ⟨o, 0, none⟩), .pointer (some ⟨q, 0, none⟩), .pointer (some ⟨q, 0, none⟩), .pointer (some ⟨q, 2, none⟩), .int .i64 n, .pointer (some ⟨o, 0, none⟩), .pointer (some ⟨o, 0, none⟩), .pointer (some ⟨o, 2, none⟩), .int .i64 n2, .int .i64 (n + n2), .pointer (some ⟨q, 0, none⟩), .pointer (some ⟨q, 2, none⟩), undef]) (SDe 13 5 w9.drew (w9.drew.setCell ⟨q, 2, none⟩ (.int .i64 (n + n2)))) (fun _ x y => x.heap.size ≤ y.heap.size) [87, 88, 89, 90, 91, 92, 93, 94, 95, 96, 97, 98, 99, 1000] (by kernel_rfl) (by kernel_rfl) (by kernel_rfl) (by decide) (by kernel_rfl) (fun _ _ _ _ _ _ h _ => h) (fun _ _ _ h => h) ⟨SDet.start _ _ _, fun e => (by cases e)⟩ ?_ ?_
                · intro fr hfr
                  have f0 : fr.getD 0 undef = .pointer (some ⟨q, 0, none⟩) := by rw [hfr]; rfl
                  have f1 : fr.getD 1 undef = .pointer (some ⟨o, 0, none⟩) := by rw [hfr]; rfl
                  clear hfr
                  iterate 13
                    refine ⟨⟨trivial, ?_⟩, ?_⟩
                    · intro ρ w' p hp' hdq hρ hd hSt
                      simp only [DepF, Region.binds, List.getD_cons_zero, List.getD_cons_succ, FV, forall_const, and_true, true_and] at hd
                      have hcon := hρ.con
                      have e0 := (hρ.slot 0 (by kernel_rfl)).trans f0
                      have e1 := (hρ.slot 1 (by kernel_rfl)).trans f1
                      have HS := Lib.hid hSt
                      have eo : ∀ i, w'.cell? ⟨o, i, none⟩ = #[.slice (some ⟨nbo, 0, none⟩) P P, .pointer none, .int .i64 n2][i]? := hSt.det.two (Q := fun x => ∀ i, x.cell? ⟨o, i, none⟩ = #[.slice (some ⟨nbo, 0, none⟩) P P, .pointer none, .int .i64 n2][i]?) co co2
                      (try have e12 : w' = w9.drew := hSt.early hp')
                      clear hSt
                      (try subst e12)
                      go_simp
                      (try simp only [GoodR, FV, List.getD_cons_zero, List.getD_cons_succ])
                      first
                        | exact ⟨fun h => absurd h (by decide), rfl, Nat.le_refl _, fun h => absurd h (by decide), HS.out.other (by decide)⟩
                        | exact ⟨fun h => absurd h (by decide), trivial, Nat.le_refl _, fun h => absurd h (by decide), HS.out.other (by decide)⟩
                        | exact ⟨fun h => absurd h (by decide), congrArg (Value.int .i64) (wrap_small (by omega)), Nat.le_refl _, fun h => absurd h (by decide), HS.out.other (by decide)⟩
                  refine ⟨⟨trivial, ?_⟩, trivial⟩
                  intro ρ w' p hp' hdq hρ hd hSt
                  simp only [DepF, Region.binds, List.getD_cons_zero, List.getD_cons_succ, FV, forall_const, and_true, true_and] at hd
                  simp [DepQ, Region.binds] at hdq
                  have h5 : p 5 = true := by simp [hdq]
                  have HS := Lib.hid hSt
                  have e12 : w' = w9.drew := hSt.det.old hp'
                  clear hdq hSt
                  subst e12
                  go_simp
                  simp only [GoodR, FV, List.getD_cons_zero, List.getD_cons_succ]
                  exact ⟨trivial, (by simp [World.setCell]), fun h => absurd h (by decide), HS.out.here h5⟩
                · intro vs w10 hSt hF _
                  have h1 : vs 1 = .pointer (some ⟨o, 0, none⟩) := hF 1 (by decide)
                  have e8 : w10 = w9.drew.setCell ⟨q, 2, none⟩ (.int .i64 (n + n2)) := hSt.det.new (by decide)
                  clear hSt
                  subst e8
                  simp only [setAll, List.setIfInBounds_toArray, List.set_cons_zero, List.set_cons_succ, Nat.reduceAdd]
                  rw [h1]
                  simp only [List.drop_succ_cons, List.drop_zero, List.drop_nil]
                  clear h1 hF cq zq lq co
                  generalize w9.drew.setCell ⟨q, 2, none⟩ (.int .i64 (n + n2)) = w11 at *
                  go_wp2_with fail
                  go_ret
                  exact RES.out
            | some z =>
              rw [ptrN_some _ z] at hme
              refine region_facts_all 14 (fun _ => false) (FV [.pointer (some ⟨q, 0, none⟩), .pointer (some ⟨o, 0, none⟩), .pointer (some ⟨q, 0, none⟩), .pointer (some ⟨q, 0, none⟩), .pointer (some ⟨q, 1, none⟩), ptrN (mixA on2 nd2 nd) (rootL L), .pointer (some ⟨o, 0, none⟩), .pointer (some ⟨o, 0, none⟩), .pointer (some ⟨o, 1, none⟩), ptrN (mixA on2 nd2 nd) (rootL M), .pointer (some ⟨mixA on2 nd2 nd z, 0, none⟩), .pointer (some ⟨q, 0, none⟩), .pointer (some ⟨q, 1, none⟩), undef]) _ (fun _ x y => x.heap.size ≤ y.heap.size) [72, 73, 74, 75, 76, 77, 78, 79, 80, 81, 82, 83, 84, 1000] (by kernel_rfl) (by kernel_rfl) (by kernel_rfl) (by decide) (by kernel_rfl) (fun _ _ _ _ _ _ h _ => h) (fun _ _ _ h => h) hs0 ?_ ?_
              · intro fr hfr
                have f0 : fr.getD 0 undef = .pointer (some ⟨q, 0, none⟩) := by rw [hfr]; rfl
                have f1 : fr.getD 1 undef = .pointer (some ⟨o, 0, none⟩) := by rw [hfr]; rfl
                clear hfr
                iterate 13
                  refine ⟨⟨trivial, ?_⟩, ?_⟩
                  · intro ρ w' p hp' hdq hρ hd hSt
                    simp only [DepF, Region.binds, List.getD_cons_zero, List.getD_cons_succ, FV, forall_const, and_true, true_and] at hd
                    have hcon := hρ.con
                    have e0 := (hρ.slot 0 (by kernel_rfl)).trans f0
                    have e1 := (hρ.slot 1 (by kernel_rfl)).trans f1
                    (try have eq := hSt.root (.inl hp'))
                    have eo := Blk.cell hSt.ob
                    (try rw [execOp_call_fn _ _ _ _ _ _ _ _ _ (hρ.fn _)])
                    go_simp
                    (try simp only [GoodR, FV, List.getD_cons_zero, List.getD_cons_succ])
                    first
                      | exact ⟨fun h => absurd h (by decide), rfl, Nat.le_refl _, fun h => absurd h (by decide), hSt.other (by decide) (by decide)⟩
                      | exact ⟨fun h => absurd h (by decide), trivial, Nat.le_refl _, fun h => absurd h (by decide), hSt.other (by decide) (by decide)⟩
                      | (have h10 : p 10 = false := hp'
                         refine (hme w' (by have := hSt.pm.nm; rw [h10] at this; exact this)).mono ?_
                         rintro e w'' ⟨rfl, hx⟩
                         exact ⟨_, rfl, fun h => absurd h (by decide), rfl, hx.chg.size, fun h => absurd h (by decide), hSt.meld h10 hno hx⟩)
                refine ⟨⟨trivial, ?_⟩, trivial⟩
                intro ρ w' p hp' hdq hρ hd hSt
                simp only [DepF, Region.binds, List.getD_cons_zero, List.getD_cons_succ, FV, forall_const, and_true, true_and] at hd
                simp [DepQ, Region.binds] at hdq
                have h5 : p 5 = true := by simp [hdq]
                have h10 : p 10 = true := by simp [hdq]
                have cq := Blk.cell hSt.pm.qb
                have zq := Blk.frozen hSt.pm.qb
                have lq := Blk.lt hSt.pm.qb
                clear hdq
                go_simp
                simp only [GoodR, FV, List.getD_cons_zero, List.getD_cons_succ]
                exact ⟨trivial, (by simp [World.setCell]), fun h => absurd h (by decide), hSt.store h5 h10 hqo hqnbo⟩
              · intro vs w8 hSt hF _
                have h1 : vs 1 = .pointer (some ⟨o, 0, none⟩) := hF 1 (by decide)
                have hpm := hSt.pm
                simp only [decide_eq_true_eq, Nat.reduceLT, if_true, decide_true, reduceIte] at hpm
                have hob := hSt.ob
                have har := hSt.ar2
                have hC8 := hSt.chg
                simp only [setAll, List.setIfInBounds_toArray, List.set_cons_zero, List.set_cons_succ, Nat.reduceAdd]
                rw [h1]
                simp only [List.drop_succ_cons, List.drop_zero, List.drop_nil]
                clear h1 hF hSt hs0 hme
                have co := Blk.cell hob
                have zo := Blk.frozen hob
                have lo := Blk.lt hob
                have hk9 := chg_cell w8 o 1 (.pointer none)
                have h9 : PM (w8.setCell ⟨o, 1, none⟩ (.pointer none)) q nb P (mixB on on2) (mixA on2 nd2 nd) (mixA on2 tm2 tm) f3 _ n := ⟨hpm.nm.chg hk9 fun i hi => (hno i hi).1, Blk.chg hpm.qb hk9 hqo, hpm.ar.chg hk9 hnbo⟩
                have hob9 := Blk.put hob 1 (.pointer none)
                simp only [List.setIfInBounds_toArray, List.set_cons_zero, List.set_cons_succ] at hob9
                have har9 := har.chg hk9 honb.symm
                have hC9 := (hC7.trans hC8 fun b _ e => e.elim (hNBm b) fun e => .inl (.inl e)).trans hk9 fun b _ e => .inr (.inl e)
                have hM9 := h9.drew
                have hb9 := Blk.drew hob9
                have ha9 := har9.drew
                have hC9d := hC9.drew
                clear hpm hob har hC8 hk9 h9 har9 hC9 hC7
                go_upto_region 18 with fail
                generalize w8.setCell ⟨o, 1, none⟩ (.pointer none) = w9 at *
                clear co zo lo
                have hW : wrap64 (n + n2) = n + n2 := by unfold wrap64; omega
                have hM10 := hM9.count (n + n2)
                have hk10 := chg_cell w9.drew q 2 (.int .i64 (n + n2))
                have hb10 := hb9.chg hk10 hqo.symm
                have ha10 := ha9.chg hk10 hqnbo.symm
                have hk11 := chg_cell (w9.drew.setCell ⟨q, 2, none⟩ (.int .i64 (n + n2))) o 2 (.int .i64 0)
                have hM11 : PM ((w9.drew.setCell ⟨q, 2, none⟩ (.int .i64 (n + n2))).setCell ⟨o, 2, none⟩ (.int .i64 0)) q nb P (mixB on on2) (mixA on2 nd2 nd) (mixA on2 tm2 tm) f3 _ (n + n2) := ⟨hM10.nm.chg hk11 fun i hi => (hno i hi).1, Blk.chg hM10.qb hk11 hqo, hM10.ar.chg hk11 hnbo⟩
                have hb11 := Blk.put hb10 2 (.int .i64 0)
                simp only [List.setIfInBounds_toArray, List.set_cons_zero, List.set_cons_succ] at hb11
                have ho11 : PM ((w9.drew.setCell ⟨q, 2, none⟩ (.int .i64 (n + n2))).setCell ⟨o, 2, none⟩ (.int .i64 0)) o nbo P (fun _ => false) nd2 tm2 g none 0 := ⟨⟨fun i hi => (by have h := hi.2; cases h), fun i _ hi _ _ => (by have h := hi.2; cases h)⟩, hb11, ha10.chg hk11 honb.symm⟩
                have hC11 := (hC9d.trans hk10 (fun b _ e => .inl (.inl e))).trans hk11 fun b _ e => .inr (.inl e)
                have RES : Hid (MeQ q nb o nbo P on on2 nd nd2 tm tm2 g n n2 w (.returned (.int .i64 0)) ((w9.drew.setCell ⟨q, 2, none⟩ (.int .i64 (n + n2))).setCell ⟨o, 2, none⟩ (.int .i64 0))) := Lib.hid (.inr ⟨fun i a b => HZ.out i a b, rfl, D, f3, HD.out.1, HD.out.2.1, by rw [HD.out.2.2]; exact hM11, ho11, hC11⟩)
                have cq := Blk.cell hM9.qb
                have zq := Blk.frozen hM9.qb
                have lq := Blk.lt hM9.qb
                have co := hb9.cell
                have co2 := hb10.cell
                have zo2 := hb10.frozen
                have lo2 := hb10.lt
                clear hM9 hM10 hM11 hb9 hb11 hb10 ha9 ha10 hk10 hk11 ho11 hC11 hC9d hob9
                go_wp2_with fail
                refine region_facts_all 14 (fun _ => false) (FV [.pointer (some ⟨q, 0, none⟩), .pointer (some ⟨o, 0, none⟩), .pointer (some ⟨q, 0, none⟩), .pointer (some ⟨q, 0, none⟩), .pointer (some ⟨q, 2, none⟩), .int .i64 n, .pointer (some ⟨o, 0, none⟩), .pointer (some ⟨o, 0, none⟩), .pointer (some ⟨o, 2, none⟩), .int .i64 n2, .int .i64 (n + n2), .pointer (some ⟨q, 0, none⟩), .pointer (some ⟨q, 2, none⟩), undef]) (SDe 13 5 w9.drew (w9.drew.setCell ⟨q, 2, none⟩ (.int .i64 (n + n2)))) (fun _ x y => x.heap.size ≤ y.heap.size) [87, 88, 89, 90, 91, 92, 93, 94, 95, 96, 97, 98, 99, 1000] (by kernel_rfl) (by kernel_rfl) (by kernel_rfl) (by decide) (by kernel_rfl) (fun _ _ _ _ _ _ h _ => h) (fun _ _ _ h => h) ⟨SDet.start _ _ _, fun e => (by cases e)⟩ ?_ ?_
                · intro fr hfr
                  have f0 : fr.getD 0 undef = .pointer (some ⟨q, 0, none⟩) := by rw [hfr]; rfl
                  have f1 : fr.getD 1 undef = .pointer (some ⟨o, 0, none⟩) := by rw [hfr]; rfl
                  clear hfr
                  iterate 13
                    refine ⟨⟨trivial, ?_⟩, ?_⟩
                    · intro ρ w' p hp' hdq hρ hd hSt
                      simp only [DepF, Region.binds, List.getD_cons_zero, List.getD_cons_succ, FV, forall_const, and_true, true_and] at hd
                      have hcon := hρ.con
                      have e0 := (hρ.slot 0 (by kernel_rfl)).trans f0
                      have e1 := (hρ.slot 1 (by kernel_rfl)).trans f1
                      have HS := Lib.hid hSt
                      have eo : ∀ i, w'.cell? ⟨o, i, none⟩ = #[.slice (some ⟨nbo, 0, none⟩) P P, .pointer none, .int .i64 n2][i]? := hSt.det.two (Q := fun x => ∀ i, x.cell? ⟨o, i, none⟩ = #[.slice (some ⟨nbo, 0, none⟩) P P, .pointer none, .int .i64 n2][i]?) co co2
                      (try have e12 : w' = w9.drew := hSt.early hp')
                      clear hSt
                      (try subst e12)
                      go_simp
                      (try simp only [GoodR, FV, List.getD_cons_zero, List.getD_cons_succ])
                      first
                        | exact ⟨fun h => absurd h (by decide), rfl, Nat.le_refl _, fun h => absurd h (by decide), HS.out.other (by decide)⟩
                        | exact ⟨fun h => absurd h (by decide), trivial, Nat.le_refl _, fun h => absurd h (by decide), HS.out.other (by decide)⟩
                        | exact ⟨fun h => absurd h (by decide), congrArg (Value.int .i64) (wrap_small (by omega)), Nat.le_refl _, fun h => absurd h (by decide), HS.out.other (by decide)⟩
                  refine ⟨⟨trivial, ?_⟩, trivial⟩
                  intro ρ w' p hp' hdq hρ hd hSt
                  simp only [DepF, Region.binds, List.getD_cons_zero, List.getD_cons_succ, FV, forall_const, and_true, true_and] at hd
                  simp [DepQ, Region.binds] at hdq
                  have h5 : p 5 = true := by simp [hdq]
                  have HS := Lib.hid hSt
                  have e12 : w' = w9.drew := hSt.det.old hp'
                  clear hdq hSt
                  subst e12
                  go_simp
                  simp only [GoodR, FV, List.getD_cons_zero, List.getD_cons_succ]
                  exact ⟨trivial, (by simp [World.setCell]), fun h => absurd h (by decide), HS.out.here h5⟩
                · intro vs w10 hSt hF _
                  have h1 : vs 1 = .pointer (some ⟨o, 0, none⟩) := hF 1 (by decide)
                  have e8 : w10 = w9.drew.setCell ⟨q, 2, none⟩ (.int .i64 (n + n2)) := hSt.det.new (by decide)
                  clear hSt
                  subst e8
                  simp only [setAll, List.setIfInBounds_toArray, List.set_cons_zero, List.set_cons_succ, Nat.reduceAdd]
                  rw [h1]
                  simp only [List.drop_succ_cons, List.drop_zero, List.drop_nil]
                  clear h1 hF cq zq lq co
                  generalize w9.drew.setCell ⟨q, 2, none⟩ (.int .i64 (n + n2)) = w11 at *
                  go_wp2_with fail
                  go_ret
                  exact RES.out
end Go.Proofs.Ytpbepmipfjcjbaa
namespace Go.Proofs.Ytpbepmipfjcjbaa
open Go.RowKit
/-- A queue in memory at q, in which m pends, in order; its blocks are among G. -/
structure PQ (w : World) (q P : Nat) (m : List Timer) (G : Nat → Prop) : Prop where
  ex : ∃ nb on nd tm f D, PM w q nb P on nd tm f (rootL D) m.length ∧ PF P on tm f D ∧ D.length ≤ 1 ∧ PRel P on tm m ∧ ∀ b, QS q nb P on nd b → G b
section
variable {w w' : World} {q P : Nat} {m : List Timer} {G G' : Nat → Prop}
theorem PQ.below (h : PQ w q P m G) (k : Below w.heap.size w w') : PQ w' q P m G := by
  obtain ⟨nb, on, nd, tm, f, D, h1, h2⟩ := h.ex
  exact ⟨nb, on, nd, tm, f, D, h1.below k, h2⟩
theorem PQ.drew (h : PQ w q P m G) : PQ w.drew q P m G := h.below (Below.refl _ _).drew
theorem PQ.chg (h : PQ w q P m G) {T : Nat → Prop} (k : Chg T w w') (hT : ∀ b, G b → ¬ T b) : PQ w' q P m G := by
  obtain ⟨nb, on, nd, tm, f, D, h1, h2, h3, h4, h5⟩ := h.ex
  exact ⟨nb, on, nd, tm, f, D, ⟨h1.nm.chg k fun i hi => hT _ (h5 _ (.inr (.inr ⟨i, hi, rfl⟩))), Blk.chg h1.qb k (hT _ (h5 _ (.inl rfl))), h1.ar.chg k (hT _ (h5 _ (.inr (.inl rfl))))⟩, h2, h3, h4, h5⟩
theorem PQ.mono (h : PQ w q P m G) (hG : ∀ b, b < w.heap.size → G b → G' b) : PQ w q P m G' := by
  obtain ⟨nb, on, nd, tm, f, D, h1, h2, h3, h4, h5⟩ := h.ex
  refine ⟨nb, on, nd, tm, f, D, h1, h2, h3, h4, fun b hb => hG b ?_ (h5 b hb)⟩
  rcases hb with e | e | ⟨i, hi, e⟩
  · have := Blk.lt h1.qb; omega
  · have := h1.ar.lt; omega
  · have := h1.nm.lt hi; omega
theorem PQ.len (h : PQ w q P m G) : m.length ≤ P := by
  obtain ⟨nb, on, nd, tm, f, D, h1, h2, h3, h4, h5⟩ := h.ex
  exact h4.len_le
theorem PQ.srt (h : PQ w q P m G) : Srt m := by
  obtain ⟨nb, on, nd, tm, f, D, h1, h2, h3, h4, h5⟩ := h.ex
  exact h4.srt
theorem PQ.lt (h : PQ w q P m G) : q < w.heap.size := by
  obtain ⟨nb, on, nd, tm, f, D, h1, h2, h3, h4, h5⟩ := h.ex
  exact Blk.lt h1.qb
theorem PQ.in_ (h : PQ w q P m G) : G q := by
  obtain ⟨nb, on, nd, tm, f, D, h1, h2, h3, h4, h5⟩ := h.ex
  exact h5 q (.inl rfl)
end
theorem qs_upd {q nb P i g B : Nat} {on : Nat → Bool} {nd : Nat → Nat} {G : Nat → Prop} (hi : on i = false) (hG : ∀ b, QS q nb P on nd b → G b) (hg : B ≤ g) : ∀ b, QS q nb P (updB on i true) (updN nd i g) b → G b ∨ B ≤ b := fun b hb => by
  rcases hb with e | e | ⟨j, hj, e⟩
  · exact .inl (hG b (.inl e))
  · exact .inl (hG b (.inr (.inl e)))
  · by_cases hji : j = i
    · subst hji
      rw [updN_at] at e
      exact .inr (by omega)
    · rw [updN_ne _ _ hji] at e
      refine .inl (hG b (.inr (.inr ⟨j, ⟨hj.1, ?_⟩, e⟩)))
      have := hj.2
      rwa [updB_ne _ _ hji] at this
theorem pq_ins {q P : Nat} {m : List Timer} {G : Nat → Prop} {w : World} (h : PQ w q P m G) (hP : P ≤ 1024) (t : Timer) :
    Calls Try.prog 27 #[.pointer (some ⟨q, 0, none⟩), t.val] w fun e w' => e = .returned (.int .i64 (insC P m t)) ∧ PQ w' q P (insL P m t) (fun b => G b ∨ w.heap.size ≤ b) ∧ Chg G w w' := by
  obtain ⟨nb, on, nd, tm, f, D, h1, h2, h3, h4, h5⟩ := id h.ex
  have hC := h4.insC t
  by_cases ho : t.place < 0 ∨ (P : Int) ≤ t.place
  · rw [if_pos ho] at hC
    have hL : insL P m t = m := by unfold insL; rw [hC]; rfl
    rw [hC, hL]
    refine (ph_ins_bad q nb P on nd tm f (rootL D) m.length t w h1 hP ho).mono ?_
    rintro e w' ⟨rfl, hx⟩
    exact ⟨rfl, (h.below hx).mono fun _ _ e => .inl e, Chg.of_same hx _⟩
  · rw [if_neg ho] at hC
    by_cases hon : on t.place.toNat = true
    · rw [if_pos hon] at hC
      have hL : insL P m t = m := by unfold insL; rw [hC]; rfl
      rw [hC, hL]
      refine (ph_ins_twice q nb P on nd tm f (rootL D) m.length t w h1 hP ho hon).mono ?_
      rintro e w' ⟨rfl, hx⟩
      exact ⟨rfl, (h.below hx).mono fun _ _ e => .inl e, Chg.of_same hx _⟩
    · rw [if_neg hon] at hC
      have hL : insL P m t = putL m t := by unfold insL; rw [hC]; rfl
      rw [hC, hL]
      obtain ⟨i, hi⟩ : ∃ i : Nat, t.place = i := ⟨t.place.toNat, by omega⟩
      have hoff : on i = false := by rw [hi, Int.toNat_natCast] at hon; simpa using hon
      have hlen := h4.len_le
      refine (ph_ins_ok q nb P on nd tm f D m.length t i w h1 h2 h3 hP hi (by omega) hoff (by omega)).mono ?_
      rintro e w' ⟨g, f', D', rfl, hg, hM, hF, hD, hC2⟩
      refine ⟨rfl, ⟨nb, _, _, _, f', D', ?_, hF, hD, h4.put (by omega) hoff hi, qs_upd hoff h5 hg⟩, hC2.mono fun b _ e => h5 b e⟩
      rw [putL_len]
      simpa using hM
theorem pq_can {q P : Nat} {m : List Timer} {G : Nat → Prop} {w : World} (h : PQ w q P m G) (hP : P ≤ 1024) (p : Int) :
    Calls Try.prog 20 #[.pointer (some ⟨q, 0, none⟩), .int .i64 p] w fun e w' => e = .returned (teV (canT P m p) (canC P m p)) ∧ PQ w' q P (canL P m p) G ∧ Chg G w w' := by
  obtain ⟨nb, on, nd, tm, f, D, h1, h2, h3, h4, h5⟩ := id h.ex
  have hC := h4.canC p
  by_cases ho : p < 0 ∨ (P : Int) ≤ p
  · rw [if_pos ho] at hC
    have hL : canL P m p = m := by unfold canL; rw [hC]; rfl
    have hT : canT P m p = Timer.zero := by unfold canT; rw [hC]; rfl
    rw [hC, hL, hT]
    refine (ph_can_no q nb P on nd tm f (rootL D) m.length p 1 w h1 hP (by decide) (by unfold fndV; rw [if_pos ho])).mono ?_
    rintro e w' ⟨rfl, hx⟩
    exact ⟨rfl, h.below hx, Chg.of_same hx _⟩
  · rw [if_neg ho] at hC
    by_cases hon : on p.toNat = true
    · rw [if_pos hon] at hC
      obtain ⟨i, rfl⟩ : ∃ i : Nat, p = i := ⟨p.toNat, by omega⟩
      rw [Int.toNat_natCast] at hon
      have hiP : i < P := by omega
      have hL : canL P m i = withoutL m i := by unfold canL; rw [hC]; rfl
      rw [hC, hL, h4.canT hiP hon]
      have hlen := h4.len_le
      have hw := h4.without hiP hon
      have hl2 : (withoutL m i).length + 1 = m.length := by
        rw [hw.len, h4.len, (pend_off hiP hon).length_eq]
        simp
      refine (ph_can_ok q nb P on nd tm f D m.length i w h1 h2 h3 hP hiP hon (by omega)).mono ?_
      rintro e w' ⟨rfl, D', f', hD, hF, hM, hC2⟩
      refine ⟨rfl, ⟨nb, _, nd, tm, f', D', ?_, hF, hD, hw, fun b e => h5 b (qs_off e)⟩, hC2.mono fun b _ e => h5 b e⟩
      rw [show (((withoutL m i).length : Nat) : Int) = (m.length : Int) - 1 by omega]
      exact hM
    · rw [if_neg hon] at hC
      have hL : canL P m p = m := by unfold canL; rw [hC]; rfl
      have hT : canT P m p = Timer.zero := by unfold canT; rw [hC]; rfl
      rw [hC, hL, hT]
      refine (ph_can_no q nb P on nd tm f (rootL D) m.length p 5 w h1 hP (by decide) (by unfold fndV; rw [if_neg ho, if_neg hon])).mono ?_
      rintro e w' ⟨rfl, hx⟩
      exact ⟨rfl, h.below hx, Chg.of_same hx _⟩
theorem pq_mov {q P : Nat} {m : List Timer} {G : Nat → Prop} {w : World} (h : PQ w q P m G) (hP : P ≤ 1024) (t : Timer) :
    Calls Try.prog 28 #[.pointer (some ⟨q, 0, none⟩), t.val] w fun e w' => e = .returned (.int .i64 (movC P m t)) ∧ PQ w' q P (movL P m t) G ∧ Chg G w w' := by
  obtain ⟨nb, on, nd, tm, f, D, h1, h2, h3, h4, h5⟩ := id h.ex
  have hC := h4.canC t.place
  by_cases ho : t.place < 0 ∨ (P : Int) ≤ t.place
  · rw [if_pos ho] at hC
    have hM : movC P m t = 1 := by unfold movC; rw [hC]; rfl
    have hL : movL P m t = m := by unfold movL; rw [hC]; rfl
    rw [hM, hL]
    refine (ph_mov_no q nb P on nd tm f (rootL D) m.length t 1 w h1 hP (by decide) (by unfold fndV; rw [if_pos ho])).mono ?_
    rintro e w' ⟨rfl, hx⟩
    exact ⟨rfl, h.below hx, Chg.of_same hx _⟩
  · rw [if_neg ho] at hC
    by_cases hon : on t.place.toNat = true
    · rw [if_pos hon] at hC
      obtain ⟨i, hi⟩ : ∃ i : Nat, t.place = i := ⟨t.place.toNat, by omega⟩
      rw [hi, Int.toNat_natCast] at hon
      have hiP : i < P := by omega
      have hw := h4.without hiP hon
      have hp2 := hw.put hiP (updB_at _ _ _) hi
      rw [updB_two on i hon] at hp2
      have hI : insC P (withoutL m i) t = 0 := by rw [hw.insC t, if_neg ho, hi, Int.toNat_natCast, updB_at]; rfl
      have hM : movC P m t = 0 := by unfold movC; rw [hC, hi, hI]; rfl
      have hL : movL P m t = putL (withoutL m i) t := by unfold movL insL; rw [hC, hi, hI]; rfl
      have hl2 : (putL (withoutL m i) t).length = m.length := by
        rw [putL_len, hw.len, h4.len, (pend_off hiP hon).length_eq]
        simp
      rw [hM, hL]
      refine (ph_mov_ok q nb P on nd tm f D m.length t i w h1 h2 h3 hP hi hiP hon).mono ?_
      rintro e w' ⟨rfl, D', f', hD, hF, hM2, hC2⟩
      exact ⟨rfl, ⟨nb, _, nd, _, f', D', by rw [hl2]; exact hM2, hF, hD, hp2, h5⟩, hC2.mono fun b _ e => h5 b e⟩
    · rw [if_neg hon] at hC
      have hM : movC P m t = 5 := by unfold movC; rw [hC]; rfl
      have hL : movL P m t = m := by unfold movL; rw [hC]; rfl
      rw [hM, hL]
      refine (ph_mov_no q nb P on nd tm f (rootL D) m.length t 5 w h1 hP (by decide) (by unfold fndV; rw [if_neg ho, if_neg hon])).mono ?_
      rintro e w' ⟨rfl, hx⟩
      exact ⟨rfl, h.below hx, Chg.of_same hx _⟩
theorem pq_get {q P : Nat} {m : List Timer} {G : Nat → Prop} {w : World} (h : PQ w q P m G) (hP : P ≤ 1024) (p : Int) :
    Calls Try.prog 29 #[.pointer (some ⟨q, 0, none⟩), .int .i64 p] w fun e w' => e = .returned (pairT (getL m p)) ∧ Below w.heap.size w w' := by
  obtain ⟨nb, on, nd, tm, f, D, h1, h2, h3, h4, h5⟩ := h.ex
  rw [h4.get]
  exact ph_get q nb P on nd tm f (rootL D) m.length p w h1 hP
theorem pq_min {q P : Nat} {m : List Timer} {G : Nat → Prop} {w : World} (h : PQ w q P m G) :
    Calls Try.prog 23 #[.pointer (some ⟨q, 0, none⟩)] w fun e w' => e = .returned (pairT m.head?) ∧ Below w.heap.size w w' := by
  obtain ⟨nb, on, nd, tm, f, D, h1, h2, h3, h4, h5⟩ := h.ex
  have hh : m.head? = (rootL D).map tm := by
    match D, h2, h3 with
    | [], h2, _ => rw [h2.head_none h4]; rfl
    | [(r, s)], h2, _ => rw [h2.head h4]; rfl
    | _ :: _ :: _, _, h3 => simp at h3
  rw [hh]
  refine ph_min q nb P on nd tm f (rootL D) m.length w h1 fun r e => ?_
  obtain ⟨p, hp, rfl⟩ := rootL_in e
  exact (h2.mem p.1).1 (List.mem_flatMap.2 ⟨p, hp, by simp⟩)
theorem pq_len {q P : Nat} {m : List Timer} {G : Nat → Prop} {w : World} (h : PQ w q P m G) :
    Calls Try.prog 22 #[.pointer (some ⟨q, 0, none⟩)] w fun e w' => e = .returned (.int .i64 m.length) ∧ w = w' := by
  obtain ⟨nb, on, nd, tm, f, D, h1, h2, h3, h4, h5⟩ := h.ex
  exact ph_len q nb P on nd tm f (rootL D) m.length w h1
theorem pq_all {q P : Nat} {m : List Timer} {G : Nat → Prop} {w : World} (h : PQ w q P m G) (hP : P ≤ 1024) :
    Calls Try.prog 19 #[.pointer (some ⟨q, 0, none⟩)] w fun e w' => ∃ v, e = .returned v ∧ OwnT w' w.heap.size v m ∧ Below w.heap.size w w' := by
  obtain ⟨nb, on, nd, tm, f, D, h1, h2, h3, h4, h5⟩ := h.ex
  exact ph_all q nb P on nd tm f (rootL D) m.length m w h1 h4 hP
theorem pq_due {q P : Nat} {m : List Timer} {G : Nat → Prop} {w : World} (h : PQ w q P m G) (hP : P ≤ 1024) (now : Int) :
    Calls Try.prog 26 #[.pointer (some ⟨q, 0, none⟩), .int .u64 now] w fun e w' => ∃ v, e = .returned v ∧ OwnT w' w.heap.size v (dueL m now true) ∧ PQ w' q P (dueL m now false) G ∧ Chg G w w' := by
  obtain ⟨nb, on, nd, tm, f, D, h1, h2, h3, h4, h5⟩ := h.ex
  refine (ph_due q nb P on nd tm f D m now w h1 h2 h3 hP h4).mono ?_
  rintro e w' ⟨v, rfl, D', f', on', hO, hD, hF, hM, hR, hs, hC⟩
  refine ⟨v, rfl, hO, ⟨nb, on', nd, tm, f', D', hM, hF, hD, hR, fun b hb => h5 b ?_⟩, hC.mono fun b _ e => h5 b e⟩
  rcases hb with e | e | ⟨j, hj, e⟩
  · exact .inl e
  · exact .inr (.inl e)
  · exact .inr (.inr ⟨j, ⟨hj.1, hs j hj.2⟩, e⟩)
theorem pq_new (P : Nat) (w : World) (h : P ≤ 1024) :
    Calls Try.prog 9 #[.int .i64 P] w fun e w' => ∃ q, e = .returned (.tuple #[.pointer (some ⟨q, 0, none⟩), .int .i64 0]) ∧ PQ w' q P [] (fun b => w.heap.size ≤ b) ∧ Below w.heap.size w w' := by
  refine (ph_new_ok P (fun i => i) (fun _ => Timer.zero) ⟨fun _ => none, fun _ => none, fun _ => none⟩ w h).mono ?_
  rintro e w' ⟨q, nb, rfl, hM, hb, hq, hn⟩
  refine ⟨q, rfl, ⟨nb, _, _, _, _, [], hM, PF.new P _ _, by simp, PRel.new P _, fun b hb2 => ?_⟩, hb⟩
  rcases hb2 with e | e | ⟨j, hj, e⟩
  · omega
  · omega
  · have := hj.2
    cases this
end Go.Proofs.Ytpbepmipfjcjbaa
namespace Go.Proofs.Ytpbepmipfjcjbaa
open Go.RowKit
/-- Five cells of a block are written. -/
theorem Blk.put5 {w : World} {g : Nat} {t : TypeId} {a b c d e : Value} (h : Blk w g t #[a, b, c, d, e]) (v0 v1 v2 v3 v4 : Value) :
    Blk (((((w.setCell ⟨g, 0, none⟩ v0).setCell ⟨g, 1, none⟩ v1).setCell ⟨g, 2, none⟩ v2).setCell ⟨g, 3, none⟩ v3).setCell ⟨g, 4, none⟩ v4) g t #[v0, v1, v2, v3, v4] := by
  have := ((((h.put 0 v0).put 1 v1).put 2 v2).put 3 v3).put 4 v4
  simpa using this
theorem chg_put5 {w w' : World} {T : Nat → Prop} {g : Nat} (h : Chg T w w') (hg : g < w.heap.size → T g) (v0 v1 v2 v3 v4 : Value) :
    Chg T w (((((w'.setCell ⟨g, 0, none⟩ v0).setCell ⟨g, 1, none⟩ v1).setCell ⟨g, 2, none⟩ v2).setCell ⟨g, 3, none⟩ v3).setCell ⟨g, 4, none⟩ v4) :=
  ((((h.setCell (p := ⟨g, 0, none⟩) hg v0).setCell (p := ⟨g, 1, none⟩) hg v1).setCell (p := ⟨g, 2, none⟩) hg v2).setCell (p := ⟨g, 3, none⟩) hg v3).setCell (p := ⟨g, 4, none⟩) hg v4
/-- A queue whose blocks lie from lo on. -/
def LQ (w : World) (q P : Nat) (m : List Timer) (lo : Nat) : Prop := PQ w q P m (fun b => lo ≤ b)
theorem LQ.below {w w' : World} {q P lo : Nat} {m : List Timer} (h : LQ w q P m lo) (k : Below w.heap.size w w') : LQ w' q P m lo := PQ.below h k
theorem LQ.at_ {w : World} {q P lo : Nat} {m : List Timer} (h : LQ w q P m lo) : PQ w q P m (fun b => lo ≤ b ∧ b < w.heap.size) := PQ.mono h fun _ hb e => ⟨e, hb⟩
/-- Behind the act: the told cells are written. -/
theorem do_fin {w w0 w3 : World} {q P g : Nat} {m : List Timer} {G : Nat → Prop} {o0 o1 o2 o3 o4 : Value} (h : PQ w3 q P m (fun b => (G b ∧ b < w.heap.size) ∨ w0.heap.size ≤ b)) (k : Chg (fun b => G b ∧ b < w.heap.size) w0 w3) (hb0 : Below w.heap.size w w0) (hg : w.heap.size ≤ g) (hg0 : g < w0.heap.size) (b : Blk w3 g 37 #[o0, o1, o2, o3, o4]) (v0 v1 v2 v3 v4 : Value) :
    ∀ W, W = (((((w3.setCell ⟨g, 0, none⟩ v0).setCell ⟨g, 1, none⟩ v1).setCell ⟨g, 2, none⟩ v2).setCell ⟨g, 3, none⟩ v3).setCell ⟨g, 4, none⟩ v4) →
      PQ W q P m (fun b => G b ∨ w.heap.size ≤ b) ∧ Chg G w W ∧ Blk W g 37 #[v0, v1, v2, v3, v4] := by
  rintro W rfl
  have h2 := h.chg (chg_put5 (Chg.refl (fun x => x = g) w3) (fun _ => rfl) v0 v1 v2 v3 v4) (fun b hb e => by subst e; rcases hb with ⟨_, hb⟩ | hb <;> omega)
  have hs := hb0.size
  refine ⟨h2.mono fun b _ e => e.imp (fun x => x.1) fun x => Nat.le_trans hs x, ?_, b.put5 v0 v1 v2 v3 v4⟩
  have := chg_put5 (T := fun b => G b ∨ w.heap.size ≤ b) (((Chg.of_same hb0 _).trans k fun b _ e => .inl e.1)) (fun _ => .inr hg) v0 v1 v2 v3 v4
  exact this.mono fun b hb e => e.elim id fun x => absurd hb (by omega)
set_option maxRecDepth 100000 in
set_option maxHeartbeats 2000000 in
theorem pdo_ins (q P : Nat) (m : List Timer) (G : Nat → Prop) (a : Act) (w : World) (h : PQ w q P m G) (hP : P ≤ 1024) (hk : a.kind = 0) :
    Calls Try.prog 13 #[.pointer (some ⟨q, 0, none⟩), a.val] w fun e w' => e = .returned (tV (insC P m a.t) Timer.zero (.slice none 0 0)) ∧ PQ w' q P (insL P m a.t) (fun b => G b ∨ w.heap.size ≤ b) ∧ Chg G w w' := by
  have hA := PQ.mono h (G' := fun b => G b ∧ b < w.heap.size) fun b hb e => ⟨e, hb⟩
  have q0 : Blk ((w.alloc (.cells #[.int .i64 a.kind, .int .u64 a.t.at_, .int .u64 a.t.seq, .int .i64 a.t.place, .int .u64 a.now] 41)).alloc (.cells #[.int .i64 0, .int .u64 0, .int .u64 0, .int .i64 0, .slice none 0 0] 37)) (w.heap.size + 1) 37 #[.int .i64 0, .int .u64 0, .int .u64 0, .int .i64 0, .slice none 0 0] := alloc2_at _ _ _ _
  have hb0 : Below w.heap.size w ((w.alloc (.cells #[.int .i64 a.kind, .int .u64 a.t.at_, .int .u64 a.t.seq, .int .i64 a.t.place, .int .u64 a.now] 41)).alloc (.cells #[.int .i64 0, .int .u64 0, .int .u64 0, .int .i64 0, .slice none 0 0] 37)) := ((Below.refl _ _).alloc (Nat.le_refl _) _).alloc (by simp) _
  have hl0 : w.heap.size + 1 < ((w.alloc (.cells #[.int .i64 a.kind, .int .u64 a.t.at_, .int .u64 a.t.seq, .int .i64 a.t.place, .int .u64 a.now] 41)).alloc (.cells #[.int .i64 0, .int .u64 0, .int .u64 0, .int .i64 0, .slice none 0 0] 37)).heap.size := q0.lt
  have h1 := hA.below hb0
  have hin := pq_ins h1 hP a.t
  unfold Timer.val at hin
  unfold Act.val
  rw [hk] at q0 hb0 hl0 hin h1 ⊢
  have HB0 := Lib.hid hb0
  have HL0 := Lib.hid hl0
  clear h h1 hA
  go_enter Try.func13, Try.ntmps13
  go_wp2_with fail
  refine hin.mono ?_
  rintro e w1 ⟨rfl, hq1, hk1⟩
  have q1 := q0.chg hk1 (fun e => by omega)
  clear hin q0 hb0 hl0
  generalize hC : insC P m a.t = x at *
  generalize hL : insL P m a.t = y at *
  have HC := Lib.hid hC
  have HL := Lib.hid hL
  clear hC hL
  have hF := do_fin hq1 hk1 HB0.out (g := w.heap.size + 1) (by omega) HL0.out q1 (.int .i64 x) (.int .u64 0) (.int .u64 0) (.int .i64 0) (.slice none 0 0)
  have hr := hF _ rfl
  have hF := Lib.hid hF
  have hB := hr.2.2.cell
  have c1 := q1.cell
  have z1 := q1.frozen
  have lq := q1.lt
  clear hr
  clear hq1 hk1
  go_wp2_with fail
  refine bodyPost_ret (v := tV x Timer.zero (.slice none 0 0)) ?_ rfl ⟨by rw [HC.out], by rw [HL.out]; exact (hF.out _ rfl).1, (hF.out _ rfl).2.1⟩
  simp [results, Try.results13, go_sem, tV, Timer.zero, hB]
theorem pdo_mov (q P : Nat) (m : List Timer) (G : Nat → Prop) (a : Act) (w : World) (h : PQ w q P m G) (hP : P ≤ 1024) (hk : a.kind = 2) :
    Calls Try.prog 13 #[.pointer (some ⟨q, 0, none⟩), a.val] w fun e w' => e = .returned (tV (movC P m a.t) Timer.zero (.slice none 0 0)) ∧ PQ w' q P (movL P m a.t) (fun b => G b ∨ w.heap.size ≤ b) ∧ Chg G w w' := by
  have hA := PQ.mono h (G' := fun b => G b ∧ b < w.heap.size) fun b hb e => ⟨e, hb⟩
  have q0 : Blk ((w.alloc (.cells #[.int .i64 a.kind, .int .u64 a.t.at_, .int .u64 a.t.seq, .int .i64 a.t.place, .int .u64 a.now] 41)).alloc (.cells #[.int .i64 0, .int .u64 0, .int .u64 0, .int .i64 0, .slice none 0 0] 37)) (w.heap.size + 1) 37 #[.int .i64 0, .int .u64 0, .int .u64 0, .int .i64 0, .slice none 0 0] := alloc2_at _ _ _ _
  have hb0 : Below w.heap.size w ((w.alloc (.cells #[.int .i64 a.kind, .int .u64 a.t.at_, .int .u64 a.t.seq, .int .i64 a.t.place, .int .u64 a.now] 41)).alloc (.cells #[.int .i64 0, .int .u64 0, .int .u64 0, .int .i64 0, .slice none 0 0] 37)) := ((Below.refl _ _).alloc (Nat.le_refl _) _).alloc (by simp) _
  have hl0 : w.heap.size + 1 < ((w.alloc (.cells #[.int .i64 a.kind, .int .u64 a.t.at_, .int .u64 a.t.seq, .int .i64 a.t.place, .int .u64 a.now] 41)).alloc (.cells #[.int .i64 0, .int .u64 0, .int .u64 0, .int .i64 0, .slice none 0 0] 37)).heap.size := q0.lt
  have h1 := hA.below hb0
  have hin := pq_mov h1 hP a.t
  unfold Timer.val at hin
  unfold Act.val
  rw [hk] at q0 hb0 hl0 hin h1 ⊢
  have HB0 := Lib.hid hb0
  have HL0 := Lib.hid hl0
  clear h h1 hA
  go_enter Try.func13, Try.ntmps13
  go_wp2_with fail
  refine hin.mono ?_
  rintro e w1 ⟨rfl, hq1, hk1⟩
  have q1 := q0.chg hk1 (fun e => by omega)
  clear hin q0 hb0 hl0
  generalize hC : movC P m a.t = x at *
  generalize hL : movL P m a.t = y at *
  have HC := Lib.hid hC
  have HL := Lib.hid hL
  clear hC hL
  have hF := do_fin (hq1.mono fun b _ e => .inl e) hk1 HB0.out (g := w.heap.size + 1) (by omega) HL0.out q1 (.int .i64 x) (.int .u64 0) (.int .u64 0) (.int .i64 0) (.slice none 0 0)
  have hr := hF _ rfl
  have hF := Lib.hid hF
  have hB := hr.2.2.cell
  have c1 := q1.cell
  have z1 := q1.frozen
  have lq := q1.lt
  clear hr
  clear hq1 hk1
  go_wp2_with fail
  refine bodyPost_ret (v := tV x Timer.zero (.slice none 0 0)) ?_ rfl ⟨by rw [HC.out], by rw [HL.out]; exact (hF.out _ rfl).1, (hF.out _ rfl).2.1⟩
  simp [results, Try.results13, go_sem, tV, Timer.zero, hB]
set_option maxRecDepth 100000 in
set_option maxHeartbeats 2000000 in
theorem pdo_can (q P : Nat) (m : List Timer) (G : Nat → Prop) (a : Act) (w : World) (h : PQ w q P m G) (hP : P ≤ 1024) (hk : a.kind = 1) :
    Calls Try.prog 13 #[.pointer (some ⟨q, 0, none⟩), a.val] w fun e w' => e = .returned (tV (canC P m a.t.place) (canT P m a.t.place) (.slice none 0 0)) ∧ PQ w' q P (canL P m a.t.place) (fun b => G b ∨ w.heap.size ≤ b) ∧ Chg G w w' := by
  have hA := PQ.mono h (G' := fun b => G b ∧ b < w.heap.size) fun b hb e => ⟨e, hb⟩
  have q0 : Blk ((w.alloc (.cells #[.int .i64 a.kind, .int .u64 a.t.at_, .int .u64 a.t.seq, .int .i64 a.t.place, .int .u64 a.now] 41)).alloc (.cells #[.int .i64 0, .int .u64 0, .int .u64 0, .int .i64 0, .slice none 0 0] 37)) (w.heap.size + 1) 37 #[.int .i64 0, .int .u64 0, .int .u64 0, .int .i64 0, .slice none 0 0] := alloc2_at _ _ _ _
  have hb0 : Below w.heap.size w ((w.alloc (.cells #[.int .i64 a.kind, .int .u64 a.t.at_, .int .u64 a.t.seq, .int .i64 a.t.place, .int .u64 a.now] 41)).alloc (.cells #[.int .i64 0, .int .u64 0, .int .u64 0, .int .i64 0, .slice none 0 0] 37)) := ((Below.refl _ _).alloc (Nat.le_refl _) _).alloc (by simp) _
  have hl0 : w.heap.size + 1 < ((w.alloc (.cells #[.int .i64 a.kind, .int .u64 a.t.at_, .int .u64 a.t.seq, .int .i64 a.t.place, .int .u64 a.now] 41)).alloc (.cells #[.int .i64 0, .int .u64 0, .int .u64 0, .int .i64 0, .slice none 0 0] 37)).heap.size := q0.lt
  have h1 := hA.below hb0
  have hin := pq_can h1 hP a.t.place
  have e0 := (((Blk.new w 41 #[.int .i64 a.kind, .int .u64 a.t.at_, .int .u64 a.t.seq, .int .i64 a.t.place, .int .u64 a.now]).alloc (.cells #[.int .i64 0, .int .u64 0, .int .u64 0, .int .i64 0, .slice none 0 0] 37))).cell
  unfold Act.val
  rw [hk] at q0 hb0 hl0 hin h1 e0 ⊢
  have HB0 := Lib.hid hb0
  have HL0 := Lib.hid hl0
  clear h h1 hA
  go_enter Try.func13, Try.ntmps13
  go_wp2_with fail
  refine hin.mono ?_
  rintro e w1 ⟨rfl, hq1, hk1⟩
  have q1 := q0.chg hk1 (fun e => by omega)
  clear hin q0 hb0 hl0 e0
  unfold teV Timer.val
  generalize hC : canC P m a.t.place = x at *
  generalize hL : canL P m a.t.place = y at *
  generalize hT : canT P m a.t.place = t at *
  have HC := Lib.hid hC
  have HL := Lib.hid hL
  have HT := Lib.hid hT
  clear hC hL hT
  have hF := do_fin (hq1.mono fun b _ e => .inl e) hk1 HB0.out (g := w.heap.size + 1) (by omega) HL0.out q1 (.int .i64 x) (.int .u64 t.at_) (.int .u64 t.seq) (.int .i64 t.place) (.slice none 0 0)
  have hr := hF _ rfl
  have hF := Lib.hid hF
  have hB := hr.2.2.cell
  have c1 := q1.cell
  have z1 := q1.frozen
  have lq := q1.lt
  clear hr
  clear hq1 hk1
  go_wp2_with fail
  refine bodyPost_ret (v := tV x t (.slice none 0 0)) ?_ rfl ⟨by rw [HC.out, HT.out], by rw [HL.out]; exact (hF.out _ rfl).1.below (alloc_kept' _ _), (hF.out _ rfl).2.1.alloc _⟩
  simp [results, Try.results13, go_sem, tV, hB, lq]
set_option maxRecDepth 100000 in
set_option maxHeartbeats 2000000 in
theorem pdo_due (q P : Nat) (m : List Timer) (G : Nat → Prop) (a : Act) (w : World) (h : PQ w q P m G) (hP : P ≤ 1024) (hk : a.kind = 3) :
    Calls Try.prog 13 #[.pointer (some ⟨q, 0, none⟩), a.val] w fun e w' => ∃ u, e = .returned (tV 0 Timer.zero u) ∧ OwnT w' w.heap.size u (dueL m a.now true) ∧ PQ w' q P (dueL m a.now false) (fun b => G b ∨ w.heap.size ≤ b) ∧ Chg G w w' := by
  have hA := PQ.mono h (G' := fun b => G b ∧ b < w.heap.size) fun b hb e => ⟨e, hb⟩
  have q0 : Blk ((w.alloc (.cells #[.int .i64 a.kind, .int .u64 a.t.at_, .int .u64 a.t.seq, .int .i64 a.t.place, .int .u64 a.now] 41)).alloc (.cells #[.int .i64 0, .int .u64 0, .int .u64 0, .int .i64 0, .slice none 0 0] 37)) (w.heap.size + 1) 37 #[.int .i64 0, .int .u64 0, .int .u64 0, .int .i64 0, .slice none 0 0] := alloc2_at _ _ _ _
  have hb0 : Below w.heap.size w ((w.alloc (.cells #[.int .i64 a.kind, .int .u64 a.t.at_, .int .u64 a.t.seq, .int .i64 a.t.place, .int .u64 a.now] 41)).alloc (.cells #[.int .i64 0, .int .u64 0, .int .u64 0, .int .i64 0, .slice none 0 0] 37)) := ((Below.refl _ _).alloc (Nat.le_refl _) _).alloc (by simp) _
  have hl0 : w.heap.size + 1 < ((w.alloc (.cells #[.int .i64 a.kind, .int .u64 a.t.at_, .int .u64 a.t.seq, .int .i64 a.t.place, .int .u64 a.now] 41)).alloc (.cells #[.int .i64 0, .int .u64 0, .int .u64 0, .int .i64 0, .slice none 0 0] 37)).heap.size := q0.lt
  have h1 := hA.below hb0
  have hin := pq_due h1 hP a.now
  unfold Act.val
  rw [hk] at q0 hb0 hl0 hin h1 ⊢
  have HB0 := Lib.hid hb0
  have HL0 := Lib.hid hl0
  clear h h1 hA
  go_enter Try.func13, Try.ntmps13
  go_wp2_with fail
  refine hin.mono ?_
  rintro e w1 ⟨u, rfl, ho, hq1, hk1⟩
  have q1 := q0.chg hk1 (fun e => by omega)
  clear hin q0 hb0 hl0
  obtain ⟨A0, c0, rfl, _⟩ := ho.at
  have hoF : ∀ v0 v1 v2 v3 v4, OwnT (((((w1.setCell ⟨w.heap.size + 1, 0, none⟩ v0).setCell ⟨w.heap.size + 1, 1, none⟩ v1).setCell ⟨w.heap.size + 1, 2, none⟩ v2).setCell ⟨w.heap.size + 1, 3, none⟩ v3).setCell ⟨w.heap.size + 1, 4, none⟩ v4) w.heap.size (.slice A0 (dueL m a.now true).length c0) (dueL m a.now true) := by
    intro v0 v1 v2 v3 v4
    have k := chg_put5 (Chg.refl (fun x => x = w.heap.size + 1) w1) (fun _ => rfl) v0 v1 v2 v3 v4
    have ho2 : OwnT w1 w.heap.size (.slice A0 (dueL m a.now true).length c0) (dueL m a.now true) := ho.mono (by simp; omega)
    exact ownsRow_keep ho2 fun g hg hv => k.block g hg fun e => by
      have := own_base ho g hv
      simp at this
      omega
  have HO := Lib.hid hoF
  clear ho hoF
  generalize (dueL m a.now true).length = n0 at *
  have hF := do_fin (hq1.mono fun b _ e => .inl e) hk1 HB0.out (g := w.heap.size + 1) (by omega) HL0.out q1 (.int .i64 0) (.int .u64 0) (.int .u64 0) (.int .i64 0) (.slice A0 n0 c0)
  have hr := hF _ rfl
  have hF := Lib.hid hF
  have hB := hr.2.2.cell
  have c1 := q1.cell
  have z1 := q1.frozen
  have lq := q1.lt
  clear hr
  clear hq1 hk1
  go_wp2_with fail
  refine bodyPost_ret (v := tV 0 Timer.zero (.slice A0 n0 c0)) ?_ rfl ⟨.slice A0 n0 c0, rfl, ?_, (hF.out _ rfl).1, (hF.out _ rfl).2.1⟩
  · simp [results, Try.results13, go_sem, tV, Timer.zero, hB]
  · exact HO.out _ _ _ _ _
set_option maxRecDepth 100000 in
set_option maxHeartbeats 2000000 in
theorem pdo_none (q P : Nat) (m : List Timer) (G : Nat → Prop) (a : Act) (w : World) (h : PQ w q P m G) (g0 : (a.kind == 0) = false) (g1 : (a.kind == 1) = false) (g2 : (a.kind == 2) = false) (g3 : (a.kind == 3) = false) :
    Calls Try.prog 13 #[.pointer (some ⟨q, 0, none⟩), a.val] w fun e w' => e = .returned (tV 0 Timer.zero (.slice none 0 0)) ∧ PQ w' q P m (fun b => G b ∨ w.heap.size ≤ b) ∧ Chg G w w' := by
  have hA := PQ.mono h (G' := fun b => G b ∧ b < w.heap.size) fun b hb e => ⟨e, hb⟩
  have q0 : Blk ((w.alloc (.cells #[.int .i64 a.kind, .int .u64 a.t.at_, .int .u64 a.t.seq, .int .i64 a.t.place, .int .u64 a.now] 41)).alloc (.cells #[.int .i64 0, .int .u64 0, .int .u64 0, .int .i64 0, .slice none 0 0] 37)) (w.heap.size + 1) 37 #[.int .i64 0, .int .u64 0, .int .u64 0, .int .i64 0, .slice none 0 0] := alloc2_at _ _ _ _
  have hb0 : Below w.heap.size w ((w.alloc (.cells #[.int .i64 a.kind, .int .u64 a.t.at_, .int .u64 a.t.seq, .int .i64 a.t.place, .int .u64 a.now] 41)).alloc (.cells #[.int .i64 0, .int .u64 0, .int .u64 0, .int .i64 0, .slice none 0 0] 37)) := ((Below.refl _ _).alloc (Nat.le_refl _) _).alloc (by simp) _
  have hl0 : w.heap.size + 1 < ((w.alloc (.cells #[.int .i64 a.kind, .int .u64 a.t.at_, .int .u64 a.t.seq, .int .i64 a.t.place, .int .u64 a.now] 41)).alloc (.cells #[.int .i64 0, .int .u64 0, .int .u64 0, .int .i64 0, .slice none 0 0] 37)).heap.size := q0.lt
  have h1 := hA.below hb0
  have hB := q0.cell
  have HQ1 := Lib.hid (PQ.mono (h.below hb0) (G' := fun b => G b ∨ w.heap.size ≤ b) fun b _ e => .inl e)
  have HK1 := Lib.hid (Chg.of_same hb0 G)
  clear hb0 h h1 hA hl0
  unfold Act.val
  generalize a.kind = kd at *
  clear q0
  go_enter Try.func13, Try.ntmps13
  go_wp2_with fail
  refine bodyPost_ret (v := tV 0 Timer.zero (.slice none 0 0)) ?_ rfl ⟨rfl, HQ1.out, HK1.out⟩
  simp [results, Try.results13, go_sem, tV, Timer.zero, hB]
/-- Whatever is done with the queue. -/
theorem pdo_g (q P : Nat) (m : List Timer) (G : Nat → Prop) (a : Act) (w : World) (h : PQ w q P m G) (hP : P ≤ 1024) :
    Calls Try.prog 13 #[.pointer (some ⟨q, 0, none⟩), a.val] w fun e w' => ∃ u, e = .returned (tV (doE P m a) (doT P m a) u) ∧ OwnT w' w.heap.size u (doD m a) ∧ PQ w' q P (doL P m a) (fun b => G b ∨ w.heap.size ≤ b) ∧ Chg G w w' := by
  by_cases h0 : a.kind = 0
  · have e1 : doE P m a = insC P m a.t := by simp [doE, h0]
    have e2 : doT P m a = Timer.zero := by simp [doT, h0]
    have e3 : doL P m a = insL P m a.t := by simp [doL, h0]
    have e4 : doD m a = [] := by simp [doD, h0]
    rw [e1, e2, e3, e4]
    refine (pdo_ins q P m G a w h hP h0).mono ?_
    rintro e w' ⟨rfl, hq, hk⟩
    exact ⟨_, rfl, OwnT.nil _ _, hq, hk⟩
  by_cases h1 : a.kind = 1
  · have e1 : doE P m a = canC P m a.t.place := by simp [doE, h1]
    have e2 : doT P m a = canT P m a.t.place := by simp [doT, h1]
    have e3 : doL P m a = canL P m a.t.place := by simp [doL, h1]
    have e4 : doD m a = [] := by simp [doD, h1]
    rw [e1, e2, e3, e4]
    refine (pdo_can q P m G a w h hP h1).mono ?_
    rintro e w' ⟨rfl, hq, hk⟩
    exact ⟨_, rfl, OwnT.nil _ _, hq, hk⟩
  by_cases h2 : a.kind = 2
  · have e1 : doE P m a = movC P m a.t := by simp [doE, h2]
    have e2 : doT P m a = Timer.zero := by simp [doT, h2]
    have e3 : doL P m a = movL P m a.t := by simp [doL, h2]
    have e4 : doD m a = [] := by simp [doD, h2]
    rw [e1, e2, e3, e4]
    refine (pdo_mov q P m G a w h hP h2).mono ?_
    rintro e w' ⟨rfl, hq, hk⟩
    exact ⟨_, rfl, OwnT.nil _ _, hq, hk⟩
  by_cases h3 : a.kind = 3
  · have e1 : doE P m a = 0 := by simp [doE, h3]
    have e2 : doT P m a = Timer.zero := by simp [doT, h3]
    have e3 : doL P m a = dueL m a.now false := by simp [doL, h3]
    have e4 : doD m a = dueL m a.now true := by simp [doD, h3]
    rw [e1, e2, e3, e4]
    exact pdo_due q P m G a w h hP h3
  · have e1 : doE P m a = 0 := by simp [doE, h0, h1, h2]
    have e2 : doT P m a = Timer.zero := by simp [doT, h1]
    have e3 : doL P m a = m := by simp [doL, h0, h1, h2, h3]
    have e4 : doD m a = [] := by simp [doD, h3]
    rw [e1, e2, e3, e4]
    refine (pdo_none q P m G a w h (by simp [h0]) (by simp [h1]) (by simp [h2]) (by simp [h3])).mono ?_
    rintro e w' ⟨rfl, hq, hk⟩
    exact ⟨_, rfl, OwnT.nil _ _, hq, hk⟩
/-- Whatever is done with a queue whose blocks lie from lo on. -/
theorem pdo_any (q P lo : Nat) (m : List Timer) (a : Act) (w : World) (h : LQ w q P m lo) (hP : P ≤ 1024) (hlo : lo ≤ w.heap.size) :
    Calls Try.prog 13 #[.pointer (some ⟨q, 0, none⟩), a.val] w fun e w' => ∃ u, e = .returned (tV (doE P m a) (doT P m a) u) ∧ OwnT w' w.heap.size u (doD m a) ∧ LQ w' q P (doL P m a) lo ∧ Below lo w w' := by
  refine (pdo_g q P m (fun b => lo ≤ b) a w h hP).mono ?_
  rintro e w' ⟨u, rfl, ho, hq, hk⟩
  exact ⟨u, rfl, ho, PQ.mono hq fun b _ e => e.elim id fun x => Nat.le_trans hlo x, Chg.to_below hk hlo⟩
/-- New's answer at a wrong count of places. -/
def nilE (c : Int) : Value := .tuple #[.pointer none, .int .i64 c]
set_option maxRecDepth 100000 in
set_option maxHeartbeats 2000000 in
theorem pbuilt_bad (P : Int) (A : Option Addr) (n c : Nat) (w : World) (h : P < 0 ∨ 1024 < P) (hl : n ≤ 100000) :
    Calls Try.prog 15 #[.int .i64 P, .slice A n c] w fun e w' => e = .returned (nilE 1) ∧ w = w' := by
  have hn := ph_new_bad P w h
  clear h
  go_enter Try.func15, Try.ntmps15
  go_wp2_with fail
  refine hn.mono ?_
  rintro e w1 ⟨rfl, rfl⟩
  clear hn
  go_wp2_with fail
  go_loopw [8] (fun i wr => i = .int .i64 0 ∧ w = wr) (fun _ _ => 0)
  case atStart => exact ⟨rfl, rfl⟩
  case round =>
    obtain ⟨rfl, rfl⟩ := hrel
    have H : ((0 : Int) < (n : Int)) ∨ (¬ (0 : Int) < (n : Int)) := by omega
    rcases H with H | H
    · go_wp2_with fail
      exact bodyPost_ret (v := nilE 1) (by simp [results, Try.results15, go_sem, nilE]) rfl ⟨rfl, rfl⟩
    · go_wp2_with fail
      exact bodyPost_ret (v := nilE 1) (by simp [results, Try.results15, go_sem, nilE]) rfl ⟨rfl, rfl⟩
attribute [local irreducible] Calls
set_option maxRecDepth 100000 in
set_option maxHeartbeats 4000000 in
theorem pbuilt_ok (P : Nat) (A : Option Addr) (l : List Act) (c : Nat) (w : World) (h : P ≤ 1024) (hA : AcAt w w.heap.size A l) (hl : l.length ≤ 10000) :
    Calls Try.prog 15 #[.int .i64 P, .slice A l.length c] w fun e w' => ∃ q, e = .returned (.tuple #[.pointer (some ⟨q, 0, none⟩), .int .i64 0]) ∧ LQ w' q P (behindL P l) w.heap.size ∧ Below w.heap.size w w' := by
  have hn := pq_new P w h
  go_enter Try.func15, Try.ntmps15
  go_wp2_with fail
  refine hn.mono ?_
  rintro e w1 ⟨q, rfl, hq, hb⟩
  clear hn
  go_wp2_with fail
  go_loopw [8] (fun i wr => ∃ (k : Nat), k ≤ l.length ∧ i = .int .i64 k ∧ LQ wr q P (behindL P (l.take k)) w.heap.size ∧ Below w.heap.size w wr) (fun i _ => l.length - (intOf i).toNat)
  case atStart => exact ⟨0, Nat.zero_le _, rfl, hq, hb⟩
  case round =>
    clear hq hb
    obtain ⟨k, hk, rfl, hq, hb⟩ := hrel
    by_cases hlt : k < l.length
    · obtain ⟨b, o, rfl, hbb, c0, c1, c2', c3, c4⟩ := (hA.below hb (Nat.le_refl _)) k hlt
      have HSx := Lib.hid (show behindL P (l.take (k + 1)) = doL P (behindL P (l.take k)) l[k] from by rw [take_snoc l k hlt, behindL_snoc])
      have hdo := pdo_any q P w.heap.size _ l[k] wr hq h hb.size
      unfold Act.val at hdo
      generalize l[k] = a at *
      clear hq
      go_wp2_with fail
      refine hdo.mono ?_
      rintro e w2 ⟨u, rfl, _, hq, hx⟩
      have hb2 := hb.trans hx
      unfold tV
      clear hdo hx c0 c1 c2' c3 c4
      go_wp2_with fail
      go_roundw
      case rel => exact ⟨k + 1, by omega, by go_num, by rw [HSx.out]; exact hq, hb2⟩
      case measure => simp [intOf]; omega
    · have ht : l.take k = l := List.take_of_length_le (by omega)
      rw [ht] at hq
      go_wp2_with fail
      exact bodyPost_ret (v := .tuple #[.pointer (some ⟨q, 0, none⟩), .int .i64 0]) (by simp [results, Try.results15, go_sem]) rfl ⟨q, rfl, hq, hb⟩
end Go.Proofs.Ytpbepmipfjcjbaa
namespace Go.Proofs.Ytpbepmipfjcjbaa
open Go.RowKit
/-- A timer's cells. -/
def tmB (t : Timer) : Array Value := #[.int .u64 t.at_, .int .u64 t.seq, .int .i64 t.place]
structure WS (lo hi : Nat) (q o P P2 : Nat) (mq mo : List Timer) (E : List (Nat × Timer)) (x : World) : Prop where
  bx : ∀ p ∈ E, Blk x p.1 35 (tmB p.2)
  ex : ∃ G1 G2, PQ x q P mq G1 ∧ PQ x o P2 mo G2 ∧ (∀ b, G1 b → G2 b → False) ∧ ∀ b, G1 b ∨ G2 b → lo ≤ b ∧ b < hi ∧ ∀ p ∈ E, b ≠ p.1
  hi_le : hi ≤ x.heap.size
  lo_le : lo ≤ hi
section
variable {lo hi q o P P2 : Nat} {mq mo : List Timer} {E : List (Nat × Timer)} {x y : World}
theorem WS.kept (h : WS lo hi q o P P2 mq mo E x) (k : Below x.heap.size x y) : WS lo hi q o P P2 mq mo E y := by
  obtain ⟨G1, G2, a, b, c, d⟩ := h.ex
  exact ⟨fun p hp => (h.bx p hp).below k (h.bx p hp).lt, ⟨G1, G2, a.below k, b.below k, c, d⟩, Nat.le_trans h.hi_le k.size, h.lo_le⟩
/-- A new box. -/
theorem WS.box (h : WS lo hi q o P P2 mq mo E x) (t : Timer) : WS lo hi q o P P2 mq mo (E ++ [(x.heap.size, t)]) (x.alloc (.cells (tmB t) 35)) := by
  have h2 := h.kept (alloc_kept' x (.cells (tmB t) 35))
  obtain ⟨G1, G2, a, b, c, d⟩ := h2.ex
  refine ⟨fun p hp => ?_, ⟨G1, G2, a, b, c, fun b hb => ?_⟩, h2.hi_le, h.lo_le⟩
  · rcases List.mem_append.1 hp with hp | hp
    · exact h2.bx p hp
    · rw [List.mem_singleton] at hp
      subst hp
      exact Blk.new _ _ _
  · obtain ⟨d1, d2, d3⟩ := d b hb
    refine ⟨d1, d2, fun p hp => ?_⟩
    rcases List.mem_append.1 hp with hp | hp
    · exact d3 p hp
    · rw [List.mem_singleton] at hp
      subst hp
      have := h.hi_le
      show b ≠ x.heap.size
      omega
theorem WS.lenq (h : WS lo hi q o P P2 mq mo E x) : mq.length ≤ P := by
  obtain ⟨G1, G2, a, b, c, d⟩ := h.ex
  exact a.len
theorem WS.leno (h : WS lo hi q o P P2 mq mo E x) : mo.length ≤ P2 := by
  obtain ⟨G1, G2, a, b, c, d⟩ := h.ex
  exact b.len
/-- A call upon the one queue. -/
theorem WS.turnq {m' : List Timer} {G1 G2 : Nat → Prop} (h : WS lo hi q o P P2 mq mo E x) (b : PQ x o P2 mo G2) (c : ∀ b, G1 b → G2 b → False) (d : ∀ b, G1 b ∨ G2 b → lo ≤ b ∧ b < hi ∧ ∀ p ∈ E, b ≠ p.1) (a : PQ y q P m' G1) (k : Chg G1 x y) : WS lo hi q o P P2 m' mo E y :=
  ⟨fun p hp => (h.bx p hp).chg k fun e => (d p.1 (.inl e)).2.2 p hp rfl, ⟨G1, G2, a, b.chg k fun b h2 h1 => c b h1 h2, c, d⟩, Nat.le_trans h.hi_le k.size, h.lo_le⟩
theorem WS.turno {m' : List Timer} {G1 G2 : Nat → Prop} (h : WS lo hi q o P P2 mq mo E x) (a : PQ x q P mq G1) (c : ∀ b, G1 b → G2 b → False) (d : ∀ b, G1 b ∨ G2 b → lo ≤ b ∧ b < hi ∧ ∀ p ∈ E, b ≠ p.1) (b : PQ y o P2 m' G2) (k : Chg G2 x y) : WS lo hi q o P P2 mq m' E y :=
  ⟨fun p hp => (h.bx p hp).chg k fun e => (d p.1 (.inr e)).2.2 p hp rfl, ⟨G1, G2, a.chg k fun b h1 h2 => c b h1 h2, b, c, d⟩, Nat.le_trans h.hi_le k.size, h.lo_le⟩
theorem WS.insq (h : WS lo hi q o P P2 mq mo E x) (hP : P ≤ 1024) (t : Timer) : Calls Try.prog 27 #[.pointer (some ⟨q, 0, none⟩), t.val] x fun e y => e = .returned (.int .i64 (insC P mq t)) ∧ WS lo y.heap.size q o P P2 (insL P mq t) mo E y ∧ Chg (fun b => lo ≤ b ∧ b < hi) x y := by
  obtain ⟨G1, G2, a, b, c, d⟩ := h.ex
  refine (pq_ins a hP t).mono ?_
  rintro e y ⟨rfl, a2, k⟩
  have hb2 := b.chg k fun b h2 h1 => c b h1 h2
  refine ⟨rfl, ⟨fun p hp => (h.bx p hp).chg k fun e => (d p.1 (.inl e)).2.2 p hp rfl, ⟨fun b => (G1 b ∨ x.heap.size ≤ b) ∧ b < y.heap.size, G2, a2.mono fun b hb e => ⟨e, hb⟩, hb2, fun b h1 h2 => ?_, fun b hb => ?_⟩, Nat.le_refl _, Nat.le_trans h.lo_le (Nat.le_trans h.hi_le k.size)⟩, k.mono fun b _ e => ⟨(d b (.inl e)).1, (d b (.inl e)).2.1⟩⟩
  · rcases h1.1 with h1 | h1
    · exact c b h1 h2
    · have := (d b (.inr h2)).2.1
      have := h.hi_le
      omega
  · rcases hb with ⟨hb | hb, hlt⟩ | hb
    · exact ⟨(d b (.inl hb)).1, hlt, (d b (.inl hb)).2.2⟩
    · refine ⟨Nat.le_trans h.lo_le (Nat.le_trans h.hi_le hb), hlt, fun p hp e => ?_⟩
      have := (h.bx p hp).lt
      omega
    · have h3 := d b (.inr hb)
      exact ⟨h3.1, Nat.lt_of_lt_of_le h3.2.1 (Nat.le_trans h.hi_le k.size), h3.2.2⟩
theorem WS.inso (h : WS lo hi q o P P2 mq mo E x) (hP : P2 ≤ 1024) (t : Timer) : Calls Try.prog 27 #[.pointer (some ⟨o, 0, none⟩), t.val] x fun e y => e = .returned (.int .i64 (insC P2 mo t)) ∧ WS lo y.heap.size q o P P2 mq (insL P2 mo t) E y ∧ Chg (fun b => lo ≤ b ∧ b < hi) x y := by
  obtain ⟨G1, G2, a, b, c, d⟩ := h.ex
  refine (pq_ins b hP t).mono ?_
  rintro e y ⟨rfl, b2, k⟩
  have ha2 := a.chg k fun b h1 h2 => c b h1 h2
  refine ⟨rfl, ⟨fun p hp => (h.bx p hp).chg k fun e => (d p.1 (.inr e)).2.2 p hp rfl, ⟨G1, fun b => (G2 b ∨ x.heap.size ≤ b) ∧ b < y.heap.size, ha2, b2.mono fun b hb e => ⟨e, hb⟩, fun b h1 h2 => ?_, fun b hb => ?_⟩, Nat.le_refl _, Nat.le_trans h.lo_le (Nat.le_trans h.hi_le k.size)⟩, k.mono fun b _ e => ⟨(d b (.inr e)).1, (d b (.inr e)).2.1⟩⟩
  · rcases h2.1 with h2 | h2
    · exact c b h1 h2
    · have := (d b (.inl h1)).2.1
      have := h.hi_le
      omega
  · rcases hb with hb | ⟨hb | hb, hlt⟩
    · have h3 := d b (.inl hb)
      exact ⟨h3.1, Nat.lt_of_lt_of_le h3.2.1 (Nat.le_trans h.hi_le k.size), h3.2.2⟩
    · exact ⟨(d b (.inr hb)).1, hlt, (d b (.inr hb)).2.2⟩
    · refine ⟨Nat.le_trans h.lo_le (Nat.le_trans h.hi_le hb), hlt, fun p hp e => ?_⟩
      have := (h.bx p hp).lt
      omega
theorem WS.canq (h : WS lo hi q o P P2 mq mo E x) (hP : P ≤ 1024) (p : Int) : Calls Try.prog 20 #[.pointer (some ⟨q, 0, none⟩), .int .i64 p] x fun e y => e = .returned (teV (canT P mq p) (canC P mq p)) ∧ WS lo hi q o P P2 (canL P mq p) mo E y ∧ Chg (fun b => lo ≤ b ∧ b < hi) x y := by
  obtain ⟨G1, G2, a, b, c, d⟩ := h.ex
  refine (pq_can a hP p).mono ?_
  rintro e y ⟨rfl, a2, k⟩
  exact ⟨rfl, h.turnq b c d a2 k, k.mono fun b _ e => ⟨(d b (.inl e)).1, (d b (.inl e)).2.1⟩⟩
theorem WS.movq (h : WS lo hi q o P P2 mq mo E x) (hP : P ≤ 1024) (t : Timer) : Calls Try.prog 28 #[.pointer (some ⟨q, 0, none⟩), t.val] x fun e y => e = .returned (.int .i64 (movC P mq t)) ∧ WS lo hi q o P P2 (movL P mq t) mo E y ∧ Chg (fun b => lo ≤ b ∧ b < hi) x y := by
  obtain ⟨G1, G2, a, b, c, d⟩ := h.ex
  refine (pq_mov a hP t).mono ?_
  rintro e y ⟨rfl, a2, k⟩
  exact ⟨rfl, h.turnq b c d a2 k, k.mono fun b _ e => ⟨(d b (.inl e)).1, (d b (.inl e)).2.1⟩⟩
theorem WS.dueq (h : WS lo hi q o P P2 mq mo E x) (hP : P ≤ 1024) (now : Int) : Calls Try.prog 26 #[.pointer (some ⟨q, 0, none⟩), .int .u64 now] x fun e y => ∃ v, e = .returned v ∧ OwnT y x.heap.size v (dueL mq now true) ∧ WS lo hi q o P P2 (dueL mq now false) mo E y ∧ Chg (fun b => lo ≤ b ∧ b < hi) x y := by
  obtain ⟨G1, G2, a, b, c, d⟩ := h.ex
  refine (pq_due a hP now).mono ?_
  rintro e y ⟨v, rfl, ho, a2, k⟩
  exact ⟨v, rfl, ho, h.turnq b c d a2 k, k.mono fun b _ e => ⟨(d b (.inl e)).1, (d b (.inl e)).2.1⟩⟩
theorem WS.dueo (h : WS lo hi q o P P2 mq mo E x) (hP : P2 ≤ 1024) (now : Int) : Calls Try.prog 26 #[.pointer (some ⟨o, 0, none⟩), .int .u64 now] x fun e y => ∃ v, e = .returned v ∧ OwnT y x.heap.size v (dueL mo now true) ∧ WS lo hi q o P P2 mq (dueL mo now false) E y ∧ Chg (fun b => lo ≤ b ∧ b < hi) x y := by
  obtain ⟨G1, G2, a, b, c, d⟩ := h.ex
  refine (pq_due b hP now).mono ?_
  rintro e y ⟨v, rfl, ho, b2, k⟩
  exact ⟨v, rfl, ho, h.turno a c d b2 k, k.mono fun b _ e => ⟨(d b (.inr e)).1, (d b (.inr e)).2.1⟩⟩
end
/-- What Meld tells, and what pends behind it. -/
def mldE (P P2 : Nat) (m m2 : List Timer) : Int := if P ≠ P2 then 1 else if m2.any (fun x => (getL m x.place).isSome) = true then 4 else 0
def mldL (P P2 : Nat) (m m2 : List Timer) : List Timer := if mldE P P2 m m2 = 0 then putsL m m2 else m
def mldO (P P2 : Nat) (m m2 : List Timer) : List Timer := if mldE P P2 m m2 = 0 then [] else m2
theorem mldE_twice {P : Nat} {on on2 : Nat → Bool} {tm tm2 : Nat → Timer} {m m2 : List Timer} (h : PRel P on tm m) (k : PRel P on2 tm2 m2) : m2.any (fun x => (getL m x.place).isSome) = true ↔ ∃ i, i < P ∧ on i = true ∧ on2 i = true := by
  rw [List.any_eq_true]
  constructor
  · rintro ⟨x, hx, hs⟩
    obtain ⟨i, hi, ho, rfl⟩ := k.mem.1 hx
    rw [k.place i hi ho, h.get] at hs
    refine ⟨i, hi, ?_, ho⟩
    unfold atP at hs
    split at hs
    · rename_i hc
      simpa using hc.2.2
    · cases hs
  · rintro ⟨i, hi, h1, h2⟩
    refine ⟨tm2 i, k.mem.2 ⟨i, hi, h2, rfl⟩, ?_⟩
    rw [k.place i hi h2, h.get]
    unfold atP
    rw [if_pos ⟨by omega, by omega, by simpa using h1⟩]
    rfl
theorem WS.meld {lo hi q o P P2 : Nat} {mq mo : List Timer} {E : List (Nat × Timer)} {x : World} (h : WS lo hi q o P P2 mq mo E x) (hP : P ≤ 1024) :
    Calls Try.prog 17 #[.pointer (some ⟨q, 0, none⟩), .pointer (some ⟨o, 0, none⟩)] x fun e y => e = .returned (.int .i64 (mldE P P2 mq mo)) ∧ WS lo hi q o P P2 (mldL P P2 mq mo) (mldO P P2 mq mo) E y ∧ Chg (fun b => lo ≤ b ∧ b < hi) x y := by
  obtain ⟨G1, G2, a, b, c, d⟩ := id h.ex
  obtain ⟨nb, on, nd, tm, f, D, a1, a2, a3, a4, a5⟩ := a.ex
  obtain ⟨nbo, on2, nd2, tm2, g, D2, b1, b2, b3, b4, b5⟩ := b.ex
  by_cases hne : P = P2
  · subst hne
    have ha := a4.len_le
    have hb := b4.len_le
    refine (ph_meldq q nb o nbo P on on2 nd nd2 tm tm2 f g D D2 mq.length mo.length x a1 b1 a2 b2 a3 b3 hP (fun z h1 h2 => c z (a5 z h1) (b5 z h2)) (by omega) (by omega)).mono ?_
    rintro e y (⟨hex, rfl, hk⟩ | ⟨hdj, rfl, D3, f3, h1, h2, h3, h4, h5⟩)
    · have hE : mldE P P mq mo = 4 := by unfold mldE; rw [if_neg (by simp), if_pos ((mldE_twice a4 b4).2 hex)]
      have hL : mldL P P mq mo = mq := by unfold mldL; rw [hE]; rfl
      have hO : mldO P P mq mo = mo := by unfold mldO; rw [hE]; rfl
      rw [hE, hL, hO]
      exact ⟨rfl, h.kept hk, Chg.of_same hk _⟩
    · have hE : mldE P P mq mo = 0 := by
        unfold mldE
        rw [if_neg (by simp), if_neg (fun e => by
          obtain ⟨i, hi, h1, h2⟩ := (mldE_twice a4 b4).1 e
          rw [hdj i hi h1] at h2
          cases h2)]
      have hL : mldL P P mq mo = putsL mq mo := by unfold mldL; rw [hE]; rfl
      have hO : mldO P P mq mo = [] := by unfold mldO; rw [hE]; rfl
      rw [hE, hL, hO]
      have hk : Chg (fun z => G1 z ∨ G2 z) x y := h5.mono fun z _ e => e.elim (fun e => .inl (a5 z e)) fun e => .inr (b5 z e)
      have hlen : ((putsL mq mo).length : Int) = (mq.length : Int) + mo.length := by rw [(putsL_perm mo mq).length_eq]; simp
      have hno : ∀ z, QS q nb P (mixB on on2) (mixA on2 nd2 nd) z → (z ≠ o ∧ z ≠ nbo) ∧ (G1 z ∨ G2 z) := fun z hz => by
        rcases hz with e | e | ⟨i, hi, e⟩
        · subst e
          exact ⟨⟨fun e => c z (a5 z (.inl rfl)) (b5 z (.inl e)), fun e => c z (a5 z (.inl rfl)) (b5 z (.inr (.inl e)))⟩, .inl (a5 z (.inl rfl))⟩
        · subst e
          exact ⟨⟨fun e => c z (a5 z (.inr (.inl rfl))) (b5 z (.inl e)), fun e => c z (a5 z (.inr (.inl rfl))) (b5 z (.inr (.inl e)))⟩, .inl (a5 z (.inr (.inl rfl)))⟩
        · rcases liv_mix.1 hi with hi | hi
          · rw [mixA_off _ _ (hdj i hi.1 hi.2)] at e
            have hg := a5 z (.inr (.inr ⟨i, hi, e⟩))
            exact ⟨⟨fun e => c z hg (b5 z (.inl e)), fun e => c z hg (b5 z (.inr (.inl e)))⟩, .inl hg⟩
          · rw [mixA_on _ _ hi.2] at e
            have hg := b5 z (.inr (.inr ⟨i, hi, e⟩))
            have := b1.ne.2 i hi
            exact ⟨⟨fun e2 => this.1 (e.trans e2), fun e2 => this.2 (e.trans e2)⟩, .inr hg⟩
      refine ⟨rfl, ⟨fun p hp => (h.bx p hp).chg hk fun e => (d p.1 e).2.2 p hp rfl, ⟨fun z => (z ≠ o ∧ z ≠ nbo) ∧ (G1 z ∨ G2 z), fun z => z = o ∨ z = nbo, ⟨nb, _, _, _, f3, D3, by rw [hlen]; exact h3, h2, h1, a4.mix b4 hdj, hno⟩, ⟨nbo, _, nd2, tm2, g, [], h4, PF.new P _ _, by simp, PRel.new P _, fun z hz => ?_⟩, fun z h1 h2 => ?_, fun z hz => ?_⟩, Nat.le_trans h.hi_le hk.size, h.lo_le⟩, hk.mono fun z _ e => ⟨(d z e).1, (d z e).2.1⟩⟩
      · rcases hz with e | e | ⟨i, hi, e⟩
        · exact .inl e
        · exact .inr e
        · have := hi.2; cases this
      · rcases h2 with e | e
        · exact h1.1.1 e
        · exact h1.1.2 e
      · rcases hz with hz | hz | hz
        · exact d z hz.2
        · exact d z (.inr (b5 z (.inl hz)))
        · exact d z (.inr (b5 z (.inr (.inl hz))))
  · have hE : mldE P P2 mq mo = 1 := by unfold mldE; rw [if_pos hne]
    have hL : mldL P P2 mq mo = mq := by unfold mldL; rw [hE]; rfl
    have hO : mldO P P2 mq mo = mo := by unfold mldO; rw [hE]; rfl
    rw [hE, hL, hO]
    refine (ph_meld_arg q nb o nbo P P2 on on2 nd nd2 tm tm2 f g (rootL D) (rootL D2) mq.length mo.length x a1 b1 hne).mono ?_
    rintro e y ⟨rfl, hk⟩
    exact ⟨rfl, h.kept hk, Chg.of_same hk _⟩
section
variable {lo hi q o P P2 : Nat} {mq mo : List Timer} {E : List (Nat × Timer)} {x : World}
theorem WS.lenqC (h : WS lo hi q o P P2 mq mo E x) : Calls Try.prog 22 #[.pointer (some ⟨q, 0, none⟩)] x fun e y => e = .returned (.int .i64 mq.length) ∧ x = y := by
  obtain ⟨G1, G2, a, b, c, d⟩ := h.ex
  exact pq_len a
theorem WS.lenoC (h : WS lo hi q o P P2 mq mo E x) : Calls Try.prog 22 #[.pointer (some ⟨o, 0, none⟩)] x fun e y => e = .returned (.int .i64 mo.length) ∧ x = y := by
  obtain ⟨G1, G2, a, b, c, d⟩ := h.ex
  exact pq_len b
theorem WS.minq (h : WS lo hi q o P P2 mq mo E x) : Calls Try.prog 23 #[.pointer (some ⟨q, 0, none⟩)] x fun e y => e = .returned (pairT mq.head?) ∧ Below x.heap.size x y := by
  obtain ⟨G1, G2, a, b, c, d⟩ := h.ex
  exact pq_min a
theorem WS.getq (h : WS lo hi q o P P2 mq mo E x) (hP : P ≤ 1024) (p : Int) : Calls Try.prog 29 #[.pointer (some ⟨q, 0, none⟩), .int .i64 p] x fun e y => e = .returned (pairT (getL mq p)) ∧ Below x.heap.size x y := by
  obtain ⟨G1, G2, a, b, c, d⟩ := h.ex
  exact pq_get a hP p
theorem WS.allq (h : WS lo hi q o P P2 mq mo E x) (hP : P ≤ 1024) : Calls Try.prog 19 #[.pointer (some ⟨q, 0, none⟩)] x fun e y => ∃ v, e = .returned v ∧ OwnT y x.heap.size v mq ∧ Below x.heap.size x y := by
  obtain ⟨G1, G2, a, b, c, d⟩ := h.ex
  exact pq_all a hP
theorem WS.allo (h : WS lo hi q o P P2 mq mo E x) (hP : P2 ≤ 1024) : Calls Try.prog 19 #[.pointer (some ⟨o, 0, none⟩)] x fun e y => ∃ v, e = .returned v ∧ OwnT y x.heap.size v mo ∧ Below x.heap.size x y := by
  obtain ⟨G1, G2, a, b, c, d⟩ := h.ex
  exact pq_all b hP
/-- Two queues, one built behind the other. -/
theorem WS.two {w w1 w2 : World} (a : PQ w1 q P mq (fun b => w.heap.size ≤ b)) (b : PQ w2 o P2 mo (fun b => w1.heap.size ≤ b)) (k1 : Below w.heap.size w w1) (k2 : Below w1.heap.size w1 w2) : WS w.heap.size w2.heap.size q o P P2 mq mo [] w2 := by
  refine ⟨fun p hp => (by cases hp), ⟨fun b => w.heap.size ≤ b ∧ b < w1.heap.size, fun b => w1.heap.size ≤ b ∧ b < w2.heap.size, ?_, b.mono fun b hb e => ⟨e, hb⟩, fun b h1 h2 => by omega, fun b hb => ?_⟩, Nat.le_refl _, Nat.le_trans k1.size k2.size⟩
  · exact (a.mono (G' := fun b => w.heap.size ≤ b ∧ b < w1.heap.size) fun b hb e => ⟨e, hb⟩).below k2
  · have := k1.size
    have := k2.size
    exact ⟨by omega, by omega, fun p hp => (by cases hp)⟩
end
end Go.Proofs.Ytpbepmipfjcjbaa
namespace Go.Proofs.Ytpbepmipfjcjbaa
open Go.RowKit
def wkA : Timer := ⟨5, 0, 0⟩
def wkB : Timer := ⟨3, 0, 1⟩
def wkC : Timer := ⟨4, 0, 2⟩
def wkD : Timer := ⟨1, 0, 0⟩
def tv (t : Timer) : Value := .agg #[.int .u64 t.at_, .int .u64 t.seq, .int .i64 t.place]
theorem same_lat (v u : Value) (l m : List Timer) (w : World) (h : LAt w v l) (k : LAt w u m) (hl : l.length ≤ 1000000) (hm : m.length ≤ 1000000) :
    Calls Try.prog 21 #[v, u] w fun e w' => e = .returned (.bool (decide (l = m))) ∧ Below w.heap.size w w' := by
  obtain ⟨A, c, rfl, hT, _⟩ := h
  obtain ⟨C, d, rfl, kT, _⟩ := k
  exact same_any A C l m c d w hT kT hl hm
theorem same_refl (v u : Value) (l : List Timer) (w : World) (h : LAt w v l) (k : LAt w u l) (hl : l.length ≤ 1000000) :
    Calls Try.prog 21 #[v, u] w fun e w' => e = .returned (.bool true) ∧ Below w.heap.size w w' := by
  have := same_lat v u l l w h k hl hl
  rwa [decide_eq_true rfl] at this
theorem LAt.built (w : World) (l : List Timer) (h : l.length ≤ maxLen) (_ : 0 < l.length) : LAt (w.alloc (.cells (l.flatMap Timer.cells).toArray 35)) (.slice (some ⟨w.heap.size, 0, none⟩) l.length l.length) l := by
  have hB : Blk (w.alloc (.cells (l.flatMap Timer.cells).toArray 35)) w.heap.size 35 (l.flatMap Timer.cells).toArray := Blk.new _ _ _
  refine ⟨_, l.length, rfl, ?_, Nat.le_refl _, h, by simp, ?_⟩
  · intro i hi
    have e : ∀ j, j < 3 → (w.alloc (.cells (l.flatMap Timer.cells).toArray 35)).cell? ⟨w.heap.size, i * 3 + j, none⟩ = l[i].cells[j]? := fun j hj => by
      rw [hB.cell, List.getElem?_toArray]
      exact flat_idx l i hi j hj
    refine ⟨w.heap.size, 0, rfl, hB.lt, ?_, ?_, ?_⟩
    · simpa [Timer.cells] using e 0 (by omega)
    · simpa [Timer.cells] using e 1 (by omega)
    · simpa [Timer.cells] using e 2 (by omega)
  · intro g e
    simp only [Option.map_some, Option.some.injEq] at e
    subst e
    exact Lies.of hB
/-- The slice v holds the timers l, and lies above g. -/
structure LF (g : Nat) (w : World) (v : Value) (l : List Timer) : Prop where
  at_ : LAt w v l
  ge : ∀ k, blkOf v = some k → g ≤ k
theorem LF.built (g : Nat) (w : World) (l : List Timer) (h : l.length ≤ maxLen) (h0 : 0 < l.length) (hg : g ≤ w.heap.size) : LF g (w.alloc (.cells (l.flatMap Timer.cells).toArray 35)) (.slice (some ⟨w.heap.size, 0, none⟩) l.length l.length) l :=
  ⟨LAt.built w l h h0, fun k e => by simp [blkOf] at e; omega⟩
theorem OwnT.lf {w : World} {g : Nat} {v : Value} {l : List Timer} (h : OwnT w g v l) : LF g w v l := by
  refine ⟨h.lat, fun k e => ?_⟩
  obtain ⟨A, c, rfl, _, _, _, h4⟩ := h.at
  cases A with
  | none => simp [blkOf] at e
  | some a => exact (h4 k (by simpa [blkOf] using e)).1
theorem LF.mono {w : World} {g g' : Nat} {v : Value} {l : List Timer} (h : LF g w v l) (hg : g' ≤ g) : LF g' w v l := ⟨h.at_, fun k e => Nat.le_trans hg (h.ge k e)⟩
theorem LF.chg {w w' : World} {g : Nat} {v : Value} {l : List Timer} {T : Nat → Prop} (h : LF g w v l) (k : Chg T w w') (hT : ∀ i, T i → i < g) : LF g w' v l :=
  ⟨h.at_.far k.size fun j e => k.block j (h.at_.blk j e) fun t => by have := h.ge j e; have := hT j t; omega, h.ge⟩
theorem also_at (p : Nat → Bool) (i : Nat) : also p i i = true := by simp [also]
theorem also_ne (p : Nat → Bool) {i j : Nat} (h : j ≠ i) : also p i j = p j := by unfold also; rw [decide_eq_false h, Bool.or_false]
theorem wk_i1 : insC (3 : Nat) [] wkA = 0 ∧ insL (3 : Nat) [] wkA = [wkA] := by decide
theorem wk_i2 : insC (3 : Nat) [wkA] wkB = 0 ∧ insL (3 : Nat) [wkA] wkB = [wkB, wkA] := by decide
theorem wk_i3 : insC (3 : Nat) [] wkC = 0 ∧ insL (3 : Nat) [] wkC = [wkC] := by decide
theorem wk_mld : mldE 3 3 [wkB, wkA] [wkC] = 0 ∧ mldL 3 3 [wkB, wkA] [wkC] = [wkB, wkC, wkA] ∧ mldO 3 3 [wkB, wkA] [wkC] = [] := by decide
theorem wk_mov : movC (3 : Nat) [wkB, wkC, wkA] wkD = 0 ∧ movL (3 : Nat) [wkB, wkC, wkA] wkD = [wkD, wkB, wkC] := by decide
theorem wk_can : canC (3 : Nat) [wkD, wkB, wkC] 1 = 0 ∧ canL (3 : Nat) [wkD, wkB, wkC] 1 = [wkD, wkC] ∧ canT (3 : Nat) [wkD, wkB, wkC] 1 = wkB := by decide
theorem wk_due : dueL [wkD, wkC] 9 true = [wkD, wkC] ∧ dueL [wkD, wkC] 9 false = [] := by decide
theorem wk_get : getL [wkD, wkC] 2 = some wkC := by decide
/-- The queues and the three boxes, of the three Inserts done. -/
structure S6 (w : World) (q o : Nat) (E : List (Nat × Timer)) (p : Nat → Bool) (x : World) : Prop where
  d8 : p 8 = true → p 5 = true
  d5 : p 5 = true → p 2 = true
  ws : ∃ hi, WS w.heap.size hi q o 3 3 (if p 5 = true then [wkB, wkA] else if p 2 = true then [wkA] else []) (if p 8 = true then [wkC] else []) E x
  bl : Below w.heap.size w x
theorem S6.quiet {w x y : World} {q o i : Nat} {E : List (Nat × Timer)} {p : Nat → Bool} (h : S6 w q o E p x) (k : Below x.heap.size x y) (h2 : i ≠ 2) (h5 : i ≠ 5) (h8 : i ≠ 8) : S6 w q o E (also p i) y := by
  obtain ⟨a, b, ⟨hi, c⟩, d⟩ := h
  refine ⟨?_, ?_, ⟨hi, ?_⟩, d.trans (Below.mono k d.size)⟩
  · rw [also_ne p (Ne.symm h8), also_ne p (Ne.symm h5)]; exact a
  · rw [also_ne p (Ne.symm h2), also_ne p (Ne.symm h5)]; exact b
  · rw [also_ne p (Ne.symm h2), also_ne p (Ne.symm h5), also_ne p (Ne.symm h8)]; exact c.kept k
theorem below_lo {w x y : World} {hi : Nat} (h : Below w.heap.size w x) (k : Chg (fun b => w.heap.size ≤ b ∧ b < hi) x y) : Below w.heap.size w y :=
  ⟨k.os.trans h.os, k.tape.trans h.tape, k.output.trans h.output, Nat.le_trans h.size k.size, fun i hi2 => (k.block i (Nat.lt_of_lt_of_le hi2 h.size) fun e => by omega).trans (h.block i hi2)⟩
set_option linter.unusedSimpArgs false in
theorem S6.call2 {w x : World} {q o : Nat} {E : List (Nat × Timer)} {p : Nat → Bool} (h : S6 w q o E p x) (hp : p 2 = false) :
    Calls Try.prog 27 #[.pointer (some ⟨q, 0, none⟩), tv wkA] x fun e y => ∃ v, e = .returned v ∧ v = .int .i64 0 ∧ x.heap.size ≤ y.heap.size ∧ (false = true → Frsh v x y) ∧ S6 w q o E (also p 2) y := by
  obtain ⟨h8, h5, ⟨hi, hw⟩, hb⟩ := h
  have p5 : p 5 = false := by cases h : p 5 with | false => rfl | true => rw [h5 h] at hp; cases hp
  have p8 : p 8 = false := by cases h : p 8 with | false => rfl | true => rw [h8 h] at p5; cases p5
  rw [p5, p8, hp] at hw
  simp only [Bool.false_eq_true, if_false, reduceIte] at hw
  refine (hw.insq (by decide) wkA).mono ?_
  rintro e y ⟨rfl, hq, hk⟩
  rw [wk_i1.1, wk_i1.2] at *
  refine ⟨_, rfl, rfl, hk.size, (fun h => by cases h), ?_, ?_, ⟨y.heap.size, ?_⟩, below_lo hb hk⟩
  · rw [also_ne p (show 5 ≠ 2 by decide), also_ne p (show 8 ≠ 2 by decide), p5, p8]; simp
  · rw [also_at, also_ne p (show 5 ≠ 2 by decide), p5]; simp
  · rw [also_at, also_ne p (show 5 ≠ 2 by decide), also_ne p (show 8 ≠ 2 by decide), p5, p8]; exact hq
set_option linter.unusedSimpArgs false in
theorem S6.call5 {w x : World} {q o : Nat} {E : List (Nat × Timer)} {p : Nat → Bool} (h : S6 w q o E p x) (hp : p 5 = false) (p2 : p 2 = true) :
    Calls Try.prog 27 #[.pointer (some ⟨q, 0, none⟩), tv wkB] x fun e y => ∃ v, e = .returned v ∧ v = .int .i64 0 ∧ x.heap.size ≤ y.heap.size ∧ (false = true → Frsh v x y) ∧ S6 w q o E (also p 5) y := by
  obtain ⟨h8, h5, ⟨hi, hw⟩, hb⟩ := h
  have p8 : p 8 = false := by cases h : p 8 with | false => rfl | true => rw [h8 h] at hp; cases hp
  rw [hp, p8, p2] at hw
  simp only [Bool.false_eq_true, if_false, if_true, reduceIte] at hw
  refine (hw.insq (by decide) wkB).mono ?_
  rintro e y ⟨rfl, hq, hk⟩
  rw [wk_i2.1, wk_i2.2] at *
  refine ⟨_, rfl, rfl, hk.size, (fun h => by cases h), ?_, ?_, ⟨y.heap.size, ?_⟩, below_lo hb hk⟩
  · rw [also_at, also_ne p (show 8 ≠ 5 by decide), p8]; simp
  · rw [also_at, also_ne p (show 2 ≠ 5 by decide), p2]; simp
  · rw [also_at, also_ne p (show 8 ≠ 5 by decide), p8]; exact hq
set_option linter.unusedSimpArgs false in
theorem S6.call8 {w x : World} {q o : Nat} {E : List (Nat × Timer)} {p : Nat → Bool} (h : S6 w q o E p x) (hp : p 8 = false) (p5 : p 5 = true) :
    Calls Try.prog 27 #[.pointer (some ⟨o, 0, none⟩), tv wkC] x fun e y => ∃ v, e = .returned v ∧ v = .int .i64 0 ∧ x.heap.size ≤ y.heap.size ∧ (false = true → Frsh v x y) ∧ S6 w q o E (also p 8) y := by
  obtain ⟨h8, h5, ⟨hi, hw⟩, hb⟩ := h
  have p2 := h5 p5
  rw [hp, p5] at hw
  simp only [Bool.false_eq_true, if_false, if_true, reduceIte] at hw
  refine (hw.inso (by decide) wkC).mono ?_
  rintro e y ⟨rfl, hq, hk⟩
  rw [wk_i3.1, wk_i3.2] at *
  refine ⟨_, rfl, rfl, hk.size, (fun h => by cases h), ?_, ?_, ⟨y.heap.size, ?_⟩, below_lo hb hk⟩
  · rw [also_ne p (show 5 ≠ 8 by decide), p5]; simp
  · rw [also_ne p (show 2 ≠ 8 by decide), p2]; simp
  · rw [also_at, also_ne p (show 5 ≠ 8 by decide), p5]; exact hq
def F6 (q o : Nat) : List Value := [.pointer (some ⟨q, 0, none⟩), tv wkA, .int .i64 0, .pointer (some ⟨q, 0, none⟩), tv wkB, .int .i64 0, .pointer (some ⟨o, 0, none⟩), tv wkC, .int .i64 0, .int .i64 0, .int .i64 0, .int .i64 0]
def F8 (q : Nat) (j : Nat) (v : Value) (w : World) : Prop := if j = 1 ∨ j = 5 then LAt w v [wkB, wkC, wkA] else v = ([.pointer (some ⟨q, 0, none⟩), undef, tv wkB, tv wkC, tv wkA] : List Value).getD j undef
theorem F8.keep {q : Nat} (i j : Nat) (v : Value) (w w' : World) (_ : j ≠ i) (h : F8 q j v w) (r : Below w.heap.size w w') : F8 q j v w' := by
  unfold F8 at h ⊢
  split at h
  · rename_i hj; rw [if_pos hj]; exact h.on r
  · rename_i hj; rw [if_neg hj]; exact h
def S8 (w : World) (hi q o : Nat) (m : List Timer) (E : List (Nat × Timer)) (_ : Nat → Bool) (x : World) : Prop := WS w.heap.size hi q o 3 3 m [] E x ∧ Below w.heap.size w x
theorem S8.keep {w x y : World} {hi q o : Nat} {m : List Timer} {E : List (Nat × Timer)} {p p' : Nat → Bool} (h : S8 w hi q o m E p x) (k : Below x.heap.size x y) : S8 w hi q o m E p' y := ⟨h.1.kept k, h.2.trans (Below.mono k h.2.size)⟩
def F13 (q hi : Nat) (j : Nat) (v : Value) (w : World) : Prop := if j = 1 ∨ j = 4 then LF hi w v [wkD, wkC] else v = ([.pointer (some ⟨q, 0, none⟩), undef, tv wkD, tv wkC] : List Value).getD j undef
theorem F13.keep {q lo hi : Nat} (i j : Nat) (v : Value) (w w' : World) (_ : j ≠ i) (h : F13 q hi j v w) (r : Chg (fun b => lo ≤ b ∧ b < hi) w w') : F13 q hi j v w' := by
  unfold F13 at h ⊢
  split at h
  · rename_i hj; rw [if_pos hj]; exact h.chg r fun _ e => e.2
  · rename_i hj; rw [if_neg hj]; exact h
structure S13 (w : World) (hi q o : Nat) (E : List (Nat × Timer)) (p : Nat → Bool) (x : World) : Prop where
  ws : WS w.heap.size hi q o 3 3 (if p 1 = true then [] else [wkD, wkC]) [] E x
  bl : Below w.heap.size w x
theorem S13.keep {w x y : World} {hi q o i : Nat} {E : List (Nat × Timer)} {p : Nat → Bool} (h : S13 w hi q o E p x) (k : Below x.heap.size x y) (hi1 : i ≠ 1) : S13 w hi q o E (also p i) y := ⟨by rw [also_ne p (Ne.symm hi1)]; exact h.ws.kept k, h.bl.trans (Below.mono k h.bl.size)⟩
attribute [local irreducible] Calls
set_option linter.unusedSimpArgs false in
set_option maxRecDepth 100000 in
set_option maxHeartbeats 4000000 in
theorem pworks (w : World) : Calls Try.prog 8 #[] w fun e w' => e = .returned (.bool true) ∧ Below w.heap.size w w' := by
  have hn := pq_new 3 w (by decide)
  have hn2 := fun w1 => pq_new 3 w1 (by decide)
  go_enter Try.func8, Try.ntmps8
  go_wp2_with fail
  refine hn.mono ?_
  rintro e w1 ⟨q, rfl, hq, hb⟩
  clear hn
  go_wp2_with fail
  refine (hn2 w1).mono ?_
  rintro e w2 ⟨o, rfl, ho, hb2⟩
  clear hn2
  have h0 := WS.two hq ho hb hb2
  have hbl := hb.trans (Below.mono hb2 hb.size)
  go_upto_region 6 with fail
  have k1 := h0.box wkA
  have k2 := k1.box wkB
  have k3 := k2.box wkC
  simp only [List.nil_append, List.cons_append] at k3
  have hb3 := ((hbl.alloc hbl.size (.cells (tmB wkA) 35)).alloc (by have := hbl.size; simp; omega) (.cells (tmB wkB) 35)).alloc (by have := hbl.size; simp; omega) (.cells (tmB wkC) 35)
  clear h0 k1 k2 hbl hq ho hb hb2
  change WS _ _ _ _ _ _ _ _ _ (((w2.alloc (.cells #[.int .u64 5, .int .u64 0, .int .i64 0] 35)).alloc (.cells #[.int .u64 3, .int .u64 0, .int .i64 1] 35)).alloc (.cells #[.int .u64 4, .int .u64 0, .int .i64 2] 35)) at k3
  change Below _ _ (((w2.alloc (.cells #[.int .u64 5, .int .u64 0, .int .i64 0] 35)).alloc (.cells #[.int .u64 3, .int .u64 0, .int .i64 1] 35)).alloc (.cells #[.int .u64 4, .int .u64 0, .int .i64 2] 35)) at hb3
  simp only [World.size_alloc] at k3
  generalize ((w2.alloc (.cells #[.int .u64 5, .int .u64 0, .int .i64 0] 35)).alloc (.cells #[.int .u64 3, .int .u64 0, .int .i64 1] 35)).alloc (.cells #[.int .u64 4, .int .u64 0, .int .i64 2] 35) = w3 at *
  generalize w2.heap.size = g at *
  obtain ⟨gb, hgb⟩ : ∃ x, x = g + 1 := ⟨_, rfl⟩
  obtain ⟨gc, hgc⟩ : ∃ x, x = g + 1 + 1 := ⟨_, rfl⟩
  rw [← hgc, ← hgb] at k3
  rw [← hgc, ← hgb]
  obtain ⟨E, hE⟩ : ∃ E, E = [(g, wkA), (gb, wkB), (gc, wkC)] := ⟨_, rfl⟩
  rw [← hE] at k3
  have mA : (g, wkA) ∈ E := by rw [hE]; simp
  have mB : (gb, wkB) ∈ E := by rw [hE]; simp
  have mC : (gc, wkC) ∈ E := by rw [hE]; simp
  clear hE hgb hgc
  have hs0 : S6 w q o E (fun _ => false) w3.drew := ⟨by simp, by simp, ⟨_, by simpa using k3.kept (Below.refl _ _).drew⟩, hb3.drew⟩
  clear k3 hb3
  refine region_facts_set 12 (fun _ => false) (FV (F6 q o)) (S6 w q o E) (fun _ x y => x.heap.size ≤ y.heap.size) [46, 47, 48, 49, 50, 51, 52, 53, 54, 8, 9, 10] (by kernel_rfl) (by kernel_rfl) (by kernel_rfl) (by decide) (by kernel_rfl) (by kernel_rfl) (fun _ _ _ _ _ _ h _ => h) (fun _ _ _ h => h) hs0 ?_ ?_
  · intro fr hfr
    have f1 : fr.getD 1 undef = .pointer (some ⟨q, 0, none⟩) := by rw [hfr]; rfl
    have f3 : fr.getD 3 undef = .pointer (some ⟨o, 0, none⟩) := by rw [hfr]; rfl
    have f5 : fr.getD 5 undef = .pointer (some ⟨g, 0, none⟩) := by rw [hfr]; rfl
    have f6 : fr.getD 6 undef = .pointer (some ⟨gb, 0, none⟩) := by rw [hfr]; rfl
    have f7 : fr.getD 7 undef = .pointer (some ⟨gc, 0, none⟩) := by rw [hfr]; rfl
    clear hfr
    iterate 12
      refine ⟨⟨trivial, ?_⟩, ?_⟩
      · intro ρ w' p hp hdq hρ hd hS
        simp only [DepQ, Region.binds, forall_const, and_true] at hdq
        simp only [DepF, Region.binds, List.getD_cons_zero, List.getD_cons_succ, FV, F6, tv, wkA, wkB, wkC, forall_const, and_true, true_and] at hd
        have hcon := hρ.con
        have e1 := (hρ.slot 1 (by kernel_rfl)).trans f1
        have e3 := (hρ.slot 3 (by kernel_rfl)).trans f3
        have e5 := (hρ.slot 5 (by kernel_rfl)).trans f5
        have e6 := (hρ.slot 6 (by kernel_rfl)).trans f6
        have e7 := (hρ.slot 7 (by kernel_rfl)).trans f7
        obtain ⟨_, hw⟩ := hS.ws
        have ca := (hw.bx _ mA).cell
        have cb := (hw.bx _ mB).cell
        have cc := (hw.bx _ mC).cell
        simp only [tmB, wkA, wkB, wkC] at ca cb cc
        clear hw
        (try rw [execOp_call_fn _ _ _ _ _ _ _ _ _ (hρ.fn _)])
        go_simp
        (try simp only [GoodQ, FV, F6, List.getD_cons_zero, List.getD_cons_succ])
        first
          | exact ⟨rfl, Nat.le_refl _, fun h => absurd h (by decide), hS.quiet (Below.refl _ _) (by decide) (by decide) (by decide)⟩
          | exact ⟨trivial, Nat.le_refl _, fun h => absurd h (by decide), hS.quiet (Below.refl _ _) (by decide) (by decide) (by decide)⟩
          | exact hS.call2 hp
          | exact hS.call5 hp hdq.2.2
          | exact hS.call8 hp hdq.2.2
    trivial
  · intro vs w4 hs hF _
    obtain ⟨_, _, ⟨hi, k4⟩, hb4⟩ := hs
    have k4 : WS w.heap.size hi q o 3 3 [wkB, wkA] [wkC] E w4 := by simpa using k4
    have v9 : vs 9 = .int .i64 0 := hF 9 (by decide)
    have v10 : vs 10 = .int .i64 0 := hF 10 (by decide)
    have v11 : vs 11 = .int .i64 0 := hF 11 (by decide)
    simp only [setAll, List.setIfInBounds_toArray, List.set_cons_zero, List.set_cons_succ, Nat.reduceAdd]
    simp only [List.drop_succ_cons, List.drop_zero, List.drop_nil]
    rw [v9, v10, v11]
    clear hF v9 v10 v11 hs0
    have hme := k4.meld (by decide)
    rw [wk_mld.1, wk_mld.2.1, wk_mld.2.2] at hme
    go_wp2_with fail
    refine hme.mono ?_
    rintro e w5 ⟨rfl, k5, c5⟩
    have hb5 := below_lo hb4 c5
    clear hme k4 c5 hb4
    go_upto_region 8 with fail
    have hs0 : S8 w hi q o [wkB, wkC, wkA] E (fun _ => false) w5.drew := ⟨k5.kept (Below.refl _ _).drew, hb5.drew⟩
    clear k5 hb5
    refine region_facts_set 6 (fun _ => false) (F8 q) (S8 w hi q o [wkB, wkC, wkA] E) (fun _ x y => Below x.heap.size x y) [58, 59, 60, 61, 62, 63] (by kernel_rfl) (by kernel_rfl) (by kernel_rfl) (by decide) (by kernel_rfl) (by kernel_rfl) F8.keep (fun _ _ _ h => h.size) hs0 ?_ ?_
    · intro fr hfr
      have f1 : fr.getD 1 undef = .pointer (some ⟨q, 0, none⟩) := by rw [hfr]; rfl
      have f5 : fr.getD 5 undef = .pointer (some ⟨g, 0, none⟩) := by rw [hfr]; rfl
      have f6 : fr.getD 6 undef = .pointer (some ⟨gb, 0, none⟩) := by rw [hfr]; rfl
      have f7 : fr.getD 7 undef = .pointer (some ⟨gc, 0, none⟩) := by rw [hfr]; rfl
      clear hfr
      iterate 6
        refine ⟨⟨trivial, ?_⟩, ?_⟩
        · intro ρ w' p hp hdq hρ hd hS
          simp only [DepF, Region.binds, List.getD_cons_zero, List.getD_cons_succ, F8, tv, wkA, wkB, wkC, forall_const, and_true, true_and, Nat.reduceEqDiff, if_false, if_true, reduceIte, reduceCtorEq, or_false, false_or, or_self] at hd
          have hcon := hρ.con
          have e1 := (hρ.slot 1 (by kernel_rfl)).trans f1
          have e5 := (hρ.slot 5 (by kernel_rfl)).trans f5
          have e6 := (hρ.slot 6 (by kernel_rfl)).trans f6
          have e7 := (hρ.slot 7 (by kernel_rfl)).trans f7
          have ca := (hS.1.bx _ mA).cell
          have cb := (hS.1.bx _ mB).cell
          have cc := (hS.1.bx _ mC).cell
          simp only [tmB, wkA, wkB, wkC] at ca cb cc
          (try rw [execOp_call_fn _ _ _ _ _ _ _ _ _ (hρ.fn _)])
          go_simp
          (try simp only [GoodQ, F8, List.getD_cons_zero, List.getD_cons_succ, Nat.reduceEqDiff, if_false, if_true, reduceIte, reduceCtorEq, or_false, false_or, or_self, or_true, true_or])
          first
            | exact ⟨rfl, Below.refl _ _, fun h => absurd h (by decide), hS.keep (Below.refl _ _)⟩
            | exact ⟨trivial, Below.refl _ _, fun h => absurd h (by decide), hS.keep (Below.refl _ _)⟩
            | exact ⟨LAt.built w' [wkB, wkC, wkA] (by decide) (by decide), alloc_kept' _ _, fun h => absurd h (by decide), hS.keep (alloc_kept' _ _)⟩
            | (refine (hS.1.allq (by decide)).mono ?_; rintro e w'' ⟨v', rfl, ho, hk⟩; exact ⟨v', rfl, ho.lat, hk, fun h => absurd h (by decide), hS.keep hk⟩)
      trivial
    · intro vs8 w6 hs6 hF8 _
      have h1 : LAt w6 (vs8 1) [wkB, wkC, wkA] := hF8 1 (by decide)
      have h5 : LAt w6 (vs8 5) [wkB, wkC, wkA] := hF8 5 (by decide)
      have hsm := same_refl (vs8 1) (vs8 5) _ w6 h1 h5 (by decide)
      clear hF8 h1 h5 hs0
      simp only [setAll, List.setIfInBounds_toArray, List.set_cons_zero, List.set_cons_succ, Nat.reduceAdd]
      simp only [List.drop_succ_cons, List.drop_zero, List.drop_nil]
      go_wp2_with fail
      refine hsm.mono ?_
      rintro e w7 ⟨rfl, hx7⟩
      obtain ⟨k7, hb7⟩ := hs6.keep (p' := fun _ => true) hx7
      clear hsm hx7 hs6
      have hmv := k7.movq (by decide) wkD
      rw [wk_mov.1, wk_mov.2] at hmv
      have hmv : Calls Try.prog 28 #[.pointer (some ⟨q, 0, none⟩), .agg #[.int .u64 1, .int .u64 0, .int .i64 0]] w7 _ := hmv
      go_wp2_with fail
      refine hmv.mono ?_
      rintro e w8 ⟨rfl, k8, c8⟩
      have hb8 := below_lo hb7 c8
      clear hmv k7 c8 hb7
      have hmin : Calls Try.prog 23 #[.pointer (some ⟨q, 0, none⟩)] w8 (fun e y => e = .returned (.tuple #[.agg #[.int .u64 1, .int .u64 0, .int .i64 0], .bool true]) ∧ Below w8.heap.size w8 y) := k8.minq
      go_wp2_with fail
      refine hmin.mono ?_
      rintro e w9 ⟨rfl, hx9⟩
      have k9 := (k8.kept hx9).box wkD
      have hb9 : Below w.heap.size w (w9.alloc (.cells (tmB wkD) 35)) := (hb8.trans (Below.mono hx9 hb8.size)).alloc (by have := hb8.size; have := hx9.size; omega) _
      clear hmin k8 hx9 hb8
      go_upto_region 11 with fail
      change WS _ _ _ _ _ _ _ _ _ (w9.alloc (.cells #[.int .u64 1, .int .u64 0, .int .i64 0] 35)) at k9
      change Below _ _ (w9.alloc (.cells #[.int .u64 1, .int .u64 0, .int .i64 0] 35)) at hb9
      generalize w9.alloc (.cells #[.int .u64 1, .int .u64 0, .int .i64 0] 35) = w10 at *
      generalize w9.heap.size = gd at *
      have hca : Calls Try.prog 20 #[.pointer (some ⟨q, 0, none⟩), .int .i64 1] w10 _ := k9.canq (by decide) 1
      rw [wk_can.1, wk_can.2.1, wk_can.2.2] at hca
      have hca : Calls Try.prog 20 #[.pointer (some ⟨q, 0, none⟩), .int .i64 1] w10 (fun e y => e = .returned (.tuple #[.agg #[.int .u64 3, .int .u64 0, .int .i64 1], .int .i64 0]) ∧ WS w.heap.size hi q o 3 3 [wkD, wkC] [] (E ++ [(gd, wkD)]) y ∧ Chg (fun b => w.heap.size ≤ b ∧ b < hi) w10 y) := hca
      go_wp2_with fail
      refine hca.mono ?_
      rintro e w11 ⟨rfl, k11, c11⟩
      have hb11 := below_lo hb9 c11
      have k12 := k11.box wkB
      have hb12 : Below w.heap.size w (w11.alloc (.cells (tmB wkB) 35)) := hb11.alloc hb11.size _
      clear hca k9 c11 hb9 k11 hb11
      go_upto_region 12 with fail
      change WS _ _ _ _ _ _ _ _ _ (w11.alloc (.cells #[.int .u64 3, .int .u64 0, .int .i64 1] 35)) at k12
      change Below _ _ (w11.alloc (.cells #[.int .u64 3, .int .u64 0, .int .i64 1] 35)) at hb12
      generalize w11.alloc (.cells #[.int .u64 3, .int .u64 0, .int .i64 1] 35) = w12 at *
      generalize w11.heap.size = ge at *
      have hge := k12.getq (by decide) 2
      rw [wk_get] at hge
      have hge : Calls Try.prog 29 #[.pointer (some ⟨q, 0, none⟩), .int .i64 2] w12 (fun e y => e = .returned (.tuple #[.agg #[.int .u64 4, .int .u64 0, .int .i64 2], .bool true]) ∧ Below w12.heap.size w12 y) := hge
      go_wp2_with fail
      refine hge.mono ?_
      rintro e w13 ⟨rfl, hx13⟩
      have k14 := (k12.kept hx13).box wkC
      have hb14 : Below w.heap.size w (w13.alloc (.cells (tmB wkC) 35)) := (hb12.trans (Below.mono hx13 hb12.size)).alloc (by have := hb12.size; have := hx13.size; omega) _
      clear hge k12 hx13 hb12
      go_upto_region 13 with fail
      change WS _ _ _ _ _ _ _ _ _ (w13.alloc (.cells #[.int .u64 4, .int .u64 0, .int .i64 2] 35)) at k14
      change Below _ _ (w13.alloc (.cells #[.int .u64 4, .int .u64 0, .int .i64 2] 35)) at hb14
      generalize w13.alloc (.cells #[.int .u64 4, .int .u64 0, .int .i64 2] 35) = w14 at *
      generalize w13.heap.size = gf at *
      have mC' : (gc, wkC) ∈ E ++ [(gd, wkD)] ++ [(ge, wkB)] ++ [(gf, wkC)] := by simp [mC]
      have mB' : (gb, wkB) ∈ E ++ [(gd, wkD)] ++ [(ge, wkB)] ++ [(gf, wkC)] := by simp [mB]
      have mD' : (gd, wkD) ∈ E ++ [(gd, wkD)] ++ [(ge, wkB)] ++ [(gf, wkC)] := by simp
      have mE' : (ge, wkB) ∈ E ++ [(gd, wkD)] ++ [(ge, wkB)] ++ [(gf, wkC)] := by simp
      have mF' : (gf, wkC) ∈ E ++ [(gd, wkD)] ++ [(ge, wkB)] ++ [(gf, wkC)] := by simp
      generalize E ++ [(gd, wkD)] ++ [(ge, wkB)] ++ [(gf, wkC)] = E2 at *
      have hs0 : S13 w hi q o E2 (fun _ => false) w14.drew := ⟨by simpa using k14.kept (Below.refl _ _).drew, hb14.drew⟩
      clear k14 hb14 mA mB mC
      refine region_facts_set 5 (fun _ => false) (F13 q hi) (S13 w hi q o E2) (fun _ x y => Chg (fun b => w.heap.size ≤ b ∧ b < hi) x y) [83, 84, 85, 86, 87] (by kernel_rfl) (by kernel_rfl) (by kernel_rfl) (by decide) (by kernel_rfl) (by kernel_rfl) F13.keep (fun _ _ _ h => h.size) hs0 ?_ ?_
      · intro fr hfr
        have f1 : fr.getD 1 undef = .pointer (some ⟨q, 0, none⟩) := by rw [hfr]; rfl
        have f14 : fr.getD 14 undef = .pointer (some ⟨gd, 0, none⟩) := by rw [hfr]; rfl
        have f7 : fr.getD 7 undef = .pointer (some ⟨gc, 0, none⟩) := by rw [hfr]; rfl
        clear hfr
        iterate 5
          refine ⟨⟨trivial, ?_⟩, ?_⟩
          · intro ρ w' p hp hdq hρ hd hS
            simp only [DepF, Region.binds, List.getD_cons_zero, List.getD_cons_succ, F13, tv, wkD, wkC, forall_const, and_true, true_and, Nat.reduceEqDiff, if_false, if_true, reduceIte, reduceCtorEq, or_false, false_or, or_self] at hd
            have hcon := hρ.con
            have e1 := (hρ.slot 1 (by kernel_rfl)).trans f1
            have e14 := (hρ.slot 14 (by kernel_rfl)).trans f14
            have e7 := (hρ.slot 7 (by kernel_rfl)).trans f7
            have cc := (hS.ws.bx _ mC').cell
            have cd := (hS.ws.bx _ mD').cell
            simp only [tmB, wkC, wkD] at cc cd
            have hhi := hS.ws.hi_le
            (try rw [execOp_call_fn _ _ _ _ _ _ _ _ _ (hρ.fn _)])
            go_simp
            (try simp only [GoodQ, F13, List.getD_cons_zero, List.getD_cons_succ, Nat.reduceEqDiff, if_false, if_true, reduceIte, reduceCtorEq, or_false, false_or, or_self, or_true, true_or])
            first
              | exact ⟨rfl, Chg.refl _ _, fun h => absurd h (by decide), hS.keep (Below.refl _ _) (by decide)⟩
              | exact ⟨trivial, Chg.refl _ _, fun h => absurd h (by decide), hS.keep (Below.refl _ _) (by decide)⟩
              | exact ⟨LF.built hi w' [wkD, wkC] (by decide) (by decide) hhi, (Chg.refl _ _).alloc _, fun h => absurd h (by decide), hS.keep (alloc_kept' _ _) (by decide)⟩
              | (have hw := hS.ws
                 rw [show p 1 = false from hp] at hw
                 simp only [Bool.false_eq_true, if_false, reduceIte] at hw
                 have hd9 := hw.dueq (by decide) 9
                 rw [wk_due.1, wk_due.2] at hd9
                 refine hd9.mono ?_
                 rintro e w'' ⟨v', rfl, ho, hk, hc⟩
                 exact ⟨v', rfl, ho.lf.mono hhi, hc, fun h => absurd h (by decide), ⟨by rw [also_at]; exact hk, below_lo hS.bl hc⟩⟩)
        trivial
      · intro vs13 w15 hs15 hF13 _
        have h1 : LF hi w15 (vs13 1) [wkD, wkC] := hF13 1 (by decide)
        have h4 : LF hi w15 (vs13 4) [wkD, wkC] := hF13 4 (by decide)
        have hsm := same_refl (vs13 1) (vs13 4) _ w15 h1.at_ h4.at_ (by decide)
        have k15 : WS w.heap.size hi q o 3 3 [] [] E2 w15 := by simpa using hs15.ws
        have hb15 := hs15.bl
        clear hF13 h1 h4 hs0 hs15
        simp only [setAll, List.setIfInBounds_toArray, List.set_cons_zero, List.set_cons_succ, Nat.reduceAdd]
        simp only [List.drop_succ_cons, List.drop_zero, List.drop_nil]
        go_wp2_with fail
        refine hsm.mono ?_
        rintro e w16 ⟨rfl, hx16⟩
        have k16 := k15.kept hx16
        have HB := Lib.hid (hb15.trans (Below.mono hx16 hb15.size))
        have cb := (k16.bx _ mB').cell
        have cc := (k16.bx _ mC').cell
        have cd := (k16.bx _ mD').cell
        have ce := (k16.bx _ mE').cell
        have cf := (k16.bx _ mF').cell
        simp only [tmB, wkB, wkC, wkD] at cb cc cd ce cf
        have hl1 : Calls Try.prog 22 #[.pointer (some ⟨o, 0, none⟩)] w16 (fun e y => e = .returned (.int .i64 0) ∧ w16 = y) := k16.lenoC
        have hl2 : Calls Try.prog 22 #[.pointer (some ⟨q, 0, none⟩)] w16 (fun e y => e = .returned (.int .i64 0) ∧ w16 = y) := k16.lenqC
        clear hsm hx16 k15 hb15 k16 mB' mC' mD' mE' mF'
        go_wp2_with fail
        refine hl1.mono ?_
        rintro e wx ⟨rfl, rfl⟩
        clear hl1
        go_wp2_with fail
        refine hl2.mono ?_
        rintro e wx ⟨rfl, rfl⟩
        clear hl2
        go_wp2_with fail
        go_ret
        exact ⟨rfl, HB.out⟩
end Go.Proofs.Ytpbepmipfjcjbaa
