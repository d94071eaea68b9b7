/- Part 18: the texts RngI, laid end to end by a program. -/
import Derived.RangeFuncNested
import Derived.Test.YtckkfbepclogcaaGreatDoorPk1
namespace Go.Proofs.YtckkfbepclogcaaGreatDoor
open Go.RowKit
variable {F : Fence} {n : Nat} {P : Program}
/-- The iterator may lean on I, which holds between two rounds, and says G of each one that it yields; S of all. -/
def SeqI {α : Type} (F : Fence) (n : Nat) (P : Program) (g : Nat) (lb : Array Value) (encs : α → Array Value) (I : List α → World → Prop) (G : List α → α → Prop) (S : List α → Prop) (w : World) : Prop :=
  ∀ (l : Nat) (J Jx : List α → World → Prop) (W : World), w.heap.size ≤ W.heap.size → AbidesFrom W.heap.size J → AbidesFrom W.heap.size Jx → (∀ pre W1, J pre W1 → I pre W1) →
    (∀ pre x W1, J pre W1 → G pre x → YieldAt F (n - 1) P l (encs x) W1 fun e W' =>
      (e = .returned (.bool true) ∧ J (pre ++ [x]) W') ∨ (e = .returned (.bool false) ∧ Jx (pre ++ [x]) W')) →
    J [] W →
    CallsIn F n P g (#[.func (.yield l) #[] #[]] ++ lb) W fun e W' => (∃ v, e = .returned v) ∧ ((∃ xs, S xs ∧ J xs W') ∨ ∃ pre, Jx pre W')
/-- How a round may end. -/
def roundPost {α : Type} (B : Nat) (I : List α → World → Prop) (Ix : Code → List α → World → Prop) (xs : List α) (W : World) : Exit → Act → World → Prop
  | .normal, _, W' => KeepsFrom B W W' ∧ I xs W'
  | .ret, _, W' => KeepsFrom B W W' ∧ Ix .ret xs W'
  | .exit id, _, W' => KeepsFrom B W W' ∧ Ix (.exit id) xs W'
  | .goto t, _, W' => KeepsFrom B W W' ∧ Ix (.goto t) xs W'
  | .panic _, _, _ => False
  | .outgrown, _, _ => False
theorem range_I {α : Type} {g : Operand} {ps : Array Tmp} {assign body : Code} {Q : Exit → Act → World → Prop} {a : Act} {w : World}
    (hro : F.round = none) (h1 : 1 ≤ n) {gf : Nat} {lb : Array Value} (hg : a.eval g = .func (.func gf) #[] lb) (hFg : F.fn gf) (eg : ∀ args w, (callFunc gf args).run P w = .ok (.enter gf args) w)
    {encs : α → Array Value} {V : List α → World → Prop} {G : List α → α → Prop} {S : List α → Prop} {w0 : World} (hseq : SeqI F (n - 1) P gf lb encs V G S w0) (hb0 : w0.heap.size ≤ w.heap.size) (hps : ∀ x, (encs x).size = ps.size)
    (I : List α → World → Prop) (Ix : Code → List α → World → Prop) (hI : OwnFrom w.heap.size I) (hIx : ∀ c, OwnFrom w.heap.size (Ix c)) (hV : ∀ pre W, I pre W → V pre W) (h0 : I [] w) (a₁ : α → Act)
    (hassign : ∀ (l : Nat) (x : α) (W : World) (K : Act → World → Prop), K (a₁ x) W →
      assign.wpIn (F.inRound l) (n - 1 - 1) P (Exit.then K (fun _ _ _ => False)) { tmps := (ps.zip (encs x)).foldl (fun t (p, v) => t.setIfInBounds p v) a.tmps, defers := [] } W)
    (hbody : ∀ (l : Nat) (pre : List α) (x : α) (W : World), I pre W → G pre x → body.wpIn (F.inRound l) (n - 1 - 1) P (roundPost w.heap.size I Ix (pre ++ [x]) W) (a₁ x) W)
    (hdone : ∀ (D : Nat) (xs : List α) (W : World), w.heap.size ≤ D → S xs → I xs W → W.heap[D]? = some (.deferred (some [])) → Q .normal { a with defers := { target := .collected D, args := #[] } :: a.defers } W)
    (hstop : ∀ (D : Nat) (c : Code) (pre : List α) (W : World), w.heap.size ≤ D → Ix c pre W → W.heap[D]? = some (.deferred (some [])) → c.wpIn F n P Q { a with defers := { target := .collected D, args := #[] } :: a.defers } W) :
    (Code.rangeFunc g ps assign body).wpIn F n P Q a w := by
  refine wpIn_rangeFunc fun fn hfn => ?_
  rw [hro]
  obtain ⟨R, hR⟩ : ∃ R : LoopState → Option Code → Loop, R = fun st pe => { state := st, pending := pe, fn, tmps := a.tmps, params := ps, assign, body, defers := w.heap.size } := ⟨_, rfl⟩
  obtain ⟨D, hD⟩ : ∃ D, D = w.heap.size := ⟨_, rfl⟩
  obtain ⟨W0, hW0⟩ : ∃ W0, W0 = (w.alloc (.deferred (some []))).alloc (.loop (R .ready none)) := ⟨_, rfl⟩
  have hs0 : W0.heap.size = D + 1 + 1 := by rw [hW0, hD]; simp
  have hl0 : W0.heap[D + 1]? = some (.loop (R .ready none)) := by
    rw [hW0, hD]
    have := World.alloc_heap_new (w.alloc (.deferred (some []))) (.loop (R .ready none))
    rwa [World.size_alloc] at this
  have hd0 : W0.heap[D]? = some (.deferred (some [])) := by
    rw [hW0, hD]
    exact (Below.heap_alloc _ _ _ (by simp)).trans (World.alloc_heap_new w _)
  have hi0 : I [] W0 := by rw [hW0]; exact hI.alloc _ (hI.alloc _ h0)
  refine ⟨D + 1, [{ target := .collected D, args := #[] }], W0, { target := .fn (.func gf) lb, args := #[.func (.yield (D + 1)) #[] #[]] }, W0, gf, #[.func (.yield (D + 1)) #[] #[]] ++ lb, W0, ?_, ?_, ?_, ?_, fun _ => h1, ?_⟩
  · rw [hW0, hR, hD]
    exact run_enterLoop_outer _ _ _ _ _
  · simp only [resolve, hg]
    simp [go_sem]
  · intro f' hf'
    simp [Target.leads] at hf'
    subst hf'
    exact hFg
  · simp [invoke, go_sem, eg]
  have hfree : ∀ {A : World} {row : Option Nat}, (∀ r, row = some r → W0.heap.size ≤ r ∧ ∃ o : Obj, A.heap[r]? = some o ∧ o.isWalk = true) → ∀ r, row = some r → w.heap.size ≤ r ∧ ∃ o : Obj, A.heap[r]? = some o ∧ o.isCells = false := by
    intro A row hr r e
    obtain ⟨hB, o, ho, hw⟩ := hr r e
    exact ⟨by omega, o, ho, Obj.not_cells_of_walk hw⟩
  have hstay : ∀ {A B : World} {row : Option Nat} {k : Nat} {o : Obj}, A.grownBy B row → (∀ r, row = some r → W0.heap.size ≤ r ∧ ∃ o : Obj, A.heap[r]? = some o ∧ o.isWalk = true) → k < W0.heap.size → A.heap[k]? = some o → B.heap[k]? = some o := by
    intro A B row k o hgr hr hk ho
    refine (hgr.block k (Array.getElem?_eq_some_iff.1 ho).1 ?_).trans ho
    intro e
    have := (hr k e.symm).1
    omega
  have hsz : w0.heap.size ≤ W0.heap.size := by omega
  refine (hseq (D + 1)
    (fun pre W => I pre W ∧ W.heap[D + 1]? = some (.loop (R .ready none)) ∧ W.heap[D]? = some (.deferred (some [])))
    (fun pre W => ∃ c, Ix c pre W ∧ W.heap[D + 1]? = some (.loop (R .done (some c))) ∧ W.heap[D]? = some (.deferred (some [])))
    W0 hsz
    (fun s A B row hs hgr hr => ⟨hI s A B row hs.1 hgr (hfree hr), hstay hgr hr (by omega) hs.2.1, hstay hgr hr (by omega) hs.2.2⟩)
    (fun s A B row hs hgr hr => by
      obtain ⟨c, hc, h2, h3⟩ := hs
      exact ⟨c, hIx c s A B row hc hgr (hfree hr), hstay hgr hr (by omega) h2, hstay hgr hr (by omega) h3⟩)
    (fun pre W1 h => hV pre W1 h.1) ?_ ⟨hi0, hl0, hd0⟩).mono ?_
  · rintro pre x W ⟨hi, hl, hd⟩ hG
    have hlt : D + 1 < W.heap.size := (Array.getElem?_eq_some_iff.1 hl).1
    have hy := run_yield (P := P) (args := encs x) hl (by rw [hR]; exact hps x)
    rw [hR] at hy
    refine ⟨fn, _, assign, body, hy, roundIn_of_wpIn hfn (hassign _ x W _ ⟨_, run_beginRound hl (by rw [hR]), ?_⟩)⟩
    have hl2 : (W.putObj (D + 1) (.loop { R .ready none with state := .busy })).heap[D + 1]? = some (.loop { R .ready none with state := .busy }) := World.putObj_heap_same hlt
    have hd2 : (W.putObj (D + 1) (.loop { R .ready none with state := .busy })).heap[D]? = some (.deferred (some [])) := (World.putObj_heap_other (by omega)).trans hd
    refine wpIn_mono (hbody _ pre x _ (hI.putObj _ hi (by omega) hl rfl) hG) ?_
    have last : ∀ (jump : Option Code) (W3 : World), KeepsFrom w.heap.size (W.putObj (D + 1) (.loop { R .ready none with state := .busy })) W3 →
        (Instr.endRound (D + 1) jump).run P W3 = .ok (.bool jump.isNone) (W3.putObj (D + 1) (.loop (R (if jump.isNone then .ready else .done) jump))) ∧
        W3.heap[D + 1]? = some (.loop { R .ready none with state := .busy }) ∧
        (W3.putObj (D + 1) (.loop (R (if jump.isNone then .ready else .done) jump))).heap[D + 1]? = some (.loop (R (if jump.isNone then .ready else .done) jump)) ∧
        (W3.putObj (D + 1) (.loop (R (if jump.isNone then .ready else .done) jump))).heap[D]? = some (.deferred (some [])) := by
      intro jump W3 hk3
      have hl3 := hk3.same _ _ (by omega) hl2 rfl
      have := run_endRound (P := P) jump hl3
      rw [hR] at this ⊢
      exact ⟨this, by rw [hR] at hl3; exact hl3, World.putObj_heap_same (Array.getElem?_eq_some_iff.1 hl3).1, (World.putObj_heap_other (by omega)).trans (hk3.same _ _ (by omega) hd2 rfl)⟩
    rintro e a3 W3 hp
    cases e with
    | normal =>
      obtain ⟨hk3, hi3⟩ := hp
      obtain ⟨hr, hl3, hl4, hd4⟩ := last none W3 hk3
      exact ⟨_, _, hr, .inl ⟨rfl, hI.putObj _ hi3 (by omega) hl3 rfl, hl4, hd4⟩⟩
    | ret =>
      obtain ⟨hk3, hi3⟩ := hp
      obtain ⟨hr, hl3, hl4, hd4⟩ := last (some .ret) W3 hk3
      exact ⟨_, _, hr, .inr ⟨rfl, .ret, (hIx _).putObj _ hi3 (by omega) hl3 rfl, hl4, hd4⟩⟩
    | exit id =>
      obtain ⟨hk3, hi3⟩ := hp
      obtain ⟨hr, hl3, hl4, hd4⟩ := last (some (.exit id)) W3 hk3
      exact ⟨_, _, hr, .inr ⟨rfl, .exit id, (hIx _).putObj _ hi3 (by omega) hl3 rfl, hl4, hd4⟩⟩
    | goto t =>
      obtain ⟨hk3, hi3⟩ := hp
      obtain ⟨hr, hl3, hl4, hd4⟩ := last (some (.goto t)) W3 hk3
      exact ⟨_, _, hr, .inr ⟨rfl, .goto t, (hIx _).putObj _ hi3 (by omega) hl3 rfl, hl4, hd4⟩⟩
    | panic ch => exact hp.elim
    | outgrown => exact hp.elim
  · rintro e W2 ⟨⟨v, rfl⟩, (⟨xs, hS, hi, hl, hd⟩ | ⟨pre, c, hi, hl, hd⟩)⟩
    · have hend := run_endLoop (P := P) hl (by rw [hR]; simp)
      rw [hR] at hend
      exact ⟨none, _, hend, hdone D xs _ (by omega) hS (hI.putObj _ hi (by omega) hl rfl) ((World.putObj_heap_other (by omega)).trans hd)⟩
    · have hend := run_endLoop (P := P) hl (by rw [hR]; simp)
      rw [hR] at hend
      exact ⟨some c, _, hend, hstop D c pre _ (by omega) ((hIx c).putObj _ hi (by omega) hl rfl) ((World.putObj_heap_other (by omega)).trans hd)⟩
end Go.Proofs.YtckkfbepclogcaaGreatDoor
