/- Words for memory that all proofs of this family share: a block known whole, what a call may have changed, and a few laws that make a walk cheap. -/
import Derived.Test.YtfdbimkddkohnaaRows
import Derived.WalkKit
import Derived.WalkSpells
import Derived.WalkLawsBesides
import Derived.Deep.Draws
import Derived.StillTailTactics
import Derived.Lib.Hide
namespace Go.Proofs.Ytfdbimkddkohnaa
open Go.RowKit

/-- Block g is just the cells cs, of element type t, none frozen. -/
def Blk (w : World) (g : Nat) (t : TypeId) (cs : Array Value) : Prop := w.heap[g]? = some (.cells cs t (0, 0))
section
variable {w w' : World} {g : Nat} {t : TypeId} {cs : Array Value}
theorem Blk.lt (h : Blk w g t cs) : g < w.heap.size := by
  rcases Nat.lt_or_ge g w.heap.size with hlt | hge
  · exact hlt
  · unfold Blk at h; rw [Array.getElem?_eq_none hge] at h; cases h
theorem Blk.cell (h : Blk w g t cs) : ∀ i, w.cell? ⟨g, i, none⟩ = cs[i]? := fun i => by
  unfold Blk at h
  simp [World.cell?, h]
theorem Blk.frozen (h : Blk w g t cs) : ∀ i, w.frozen? ⟨g, i, none⟩ = false := fun i => by
  unfold Blk at h
  simp [World.frozen?, h]
theorem Blk.new (w : World) (t : TypeId) (cs : Array Value) : Blk (w.alloc (.cells cs t)) w.heap.size t cs := heap_alloc_new w _
theorem Blk.drew (h : Blk w g t cs) : Blk w.drew g t cs := h
theorem Blk.drewN (h : Blk w g t cs) (n : Nat) : Blk (w.drewN n) g t cs := h
theorem Blk.alloc (h : Blk w g t cs) (o : Obj) : Blk (w.alloc o) g t cs := (Below.heap_alloc w o g h.lt).trans h
theorem Blk.put (h : Blk w g t cs) (i : Nat) (u : Value) : Blk (w.setCell ⟨g, i, none⟩ u) g t (cs.setIfInBounds i u) := by
  unfold Blk at h ⊢
  simp [World.setCell, Array.getElem?_modify, h]
theorem Blk.far (h : Blk w g t cs) {p : Addr} (hp : g ≠ p.block) (u : Value) : Blk (w.setCell p u) g t cs := (Below.heap_setCell w p u g hp).trans h
theorem Blk.below {B : Nat} (h : Blk w g t cs) (hb : Below B w w') (hg : g < B) : Blk w' g t cs := (hb.block g hg).trans h
theorem Blk.same (h : Blk w g t cs) {t' : TypeId} {cs' : Array Value} (h' : Blk w g t' cs') : cs = cs' ∧ t = t' := by
  unfold Blk at h h'
  rw [h] at h'
  injection h' with h'
  injection h' with a b
  exact ⟨a, b⟩
theorem Blk.ne (h : Blk w g t cs) {g' : Nat} {t' : TypeId} {cs' : Array Value} (h' : Blk w g' t' cs') (hne : t ≠ t') : g ≠ g' := by
  rintro rfl
  exact hne (h.same h').2
end

/-- From w to w' nothing has turned but the blocks in S; new blocks may have come. -/
structure Chg (S : Nat → Prop) (w w' : World) : Prop where
  os : w'.os = w.os
  tape : w'.tape = w.tape
  output : w'.output = w.output
  size : w.heap.size ≤ w'.heap.size
  block : ∀ k, k < w.heap.size → ¬ S k → w'.heap[k]? = w.heap[k]?
section
variable {S S' : Nat → Prop} {a w w' : World}
theorem Chg.refl (S : Nat → Prop) (w : World) : Chg S w w := ⟨rfl, rfl, rfl, Nat.le_refl _, fun _ _ _ => rfl⟩
theorem Chg.trans (h : Chg S a w) (k : Chg S' w w') (hs : ∀ i, i < a.heap.size → S' i → S i) : Chg S a w' :=
  ⟨k.os.trans h.os, k.tape.trans h.tape, k.output.trans h.output, Nat.le_trans h.size k.size,
   fun i hi hn => (k.block i (Nat.lt_of_lt_of_le hi h.size) (fun e => hn (hs i hi e))).trans (h.block i hi hn)⟩
theorem Chg.mono (h : Chg S a w) (hs : ∀ i, i < a.heap.size → S i → S' i) : Chg S' a w :=
  ⟨h.os, h.tape, h.output, h.size, fun i hi hn => h.block i hi (fun e => hn (hs i hi e))⟩
theorem Chg.drew (h : Chg S a w) : Chg S a w.drew := ⟨h.os, h.tape, h.output, h.size, h.block⟩
theorem Chg.drewN (h : Chg S a w) (n : Nat) : Chg S a (w.drewN n) := ⟨h.os, h.tape, h.output, h.size, h.block⟩
theorem Chg.alloc (h : Chg S a w) (o : Obj) : Chg S a (w.alloc o) :=
  ⟨h.os, h.tape, h.output, Nat.le_trans h.size (by simp), fun i hi hn => (Below.heap_alloc _ _ _ (Nat.lt_of_lt_of_le hi h.size)).trans (h.block i hi hn)⟩
theorem Chg.setCell (h : Chg S a w) {p : Addr} (hp : p.block < a.heap.size → S p.block) (u : Value) : Chg S a (w.setCell p u) :=
  ⟨h.os, h.tape, h.output, by simpa [World.setCell] using h.size, fun i hi hn =>
    (Below.heap_setCell _ _ _ _ (fun e => hn (by subst e; exact hp hi))).trans (h.block i hi hn)⟩
theorem Chg.below (h : Chg (fun _ => False) a w) : Below a.heap.size a w := ⟨h.os, h.tape, h.output, h.size, fun k hk => h.block k hk (fun x => x)⟩
theorem Chg.to_below {B : Nat} (h : Chg (fun k => B ≤ k) a w) (hB : B ≤ a.heap.size) : Below B a w := ⟨h.os, h.tape, h.output, h.size, fun k hk => h.block k (by omega) (by omega)⟩
theorem Chg.of_below {B : Nat} (h : Below B a w) : Chg (fun k => B ≤ k) a w := ⟨h.os, h.tape, h.output, h.size, fun k _ hn => h.block k (by omega)⟩
theorem Chg.of_same (h : Below a.heap.size a w) (S : Nat → Prop) : Chg S a w := ⟨h.os, h.tape, h.output, h.size, fun k hk _ => h.block k hk⟩
theorem Blk.chg {g : Nat} {t : TypeId} {cs : Array Value} (h : Blk w g t cs) (hb : Chg S w w') (hg : ¬ S g) : Blk w' g t cs := (hb.block g h.lt hg).trans h
theorem Chg.cell (h : Chg S a w) {p : Addr} (hp : p.block < a.heap.size) (hn : ¬ S p.block) : w.cell? p = a.cell? p := World.cell?_of_block (w := a) (h.block p.block hp hn)
theorem Chg.froz (h : Chg S a w) {p : Addr} (hp : p.block < a.heap.size) (hn : ¬ S p.block) : w.frozen? p = a.frozen? p := World.frozen?_of_block (w := a) (h.block p.block hp hn)
end

/-- A contract's world the other way round. -/
theorem flip {P : Program} {f : FuncId} {args : Array Value} {w : World} {v : Value}
    (h : Calls P f args w fun e w' => e = .returned v ∧ w = w') : Calls P f args w fun e w' => e = .returned v ∧ w' = w :=
  h.mono fun _ _ h => ⟨h.1, h.2.symm⟩

theorem ret_int {k : IntKind} {a b : Int} (h : a = b) : Ending.returned (.int k a) = .returned (.int k b) := by rw [h]
theorem ret_bool {a b : Bool} (h : a = b) : Ending.returned (.bool a) = .returned (.bool b) := by rw [h]

/-- A call through a function value in a slot: met at once, ahead of any unfolding. -/
def callVal (v : Value) (args : Array Value) : Sem Next := (Deferred.ofValue v args).bind fun d => invoke d.target d.args
@[go_sem ↓] theorem execOp_call_val (ρ : Operand → Value) (dst : Option Tmp) (t : Tmp) (xs : Array Operand) (ats : Array TypeId) (ty : TypeId) (pos : String) (after : Array Edge) (guard : Option (Nat × Bool)) :
    execOp ρ { dst, op := .call { callee := .value (.tmp t), args := xs, argTypes := ats }, type := ty, pos, after, guard } = callVal (ρ (.tmp t)) (xs.map ρ) := rfl
@[go_sem] theorem callVal_fn (f : FuncId) (c a : Array Value) (args : Array Value) : callVal (.func (.func f) a c) args = callFunc f (a ++ args ++ c) := rfl

/-- A region that draws, whose first n operations only read or call quietly, the rest in one forced order: walked as typed. -/
theorem still_tail {P : Program} {id : Nat} {Q : Exit → Act → World → Prop} {a : Act} {w : World} {l : List Oper} (n : Nat) (hm : P.follows .mixedOrders = true) (hB : Region.lexTailB .any l.toArray n = true)
    (h : wpStill P l.toArray w.drew (fun a' => wpList P l.toArray Q (l.drop n) a' w.drew) (l.take n) a) : (Code.region id l.toArray true).wp P Q a w :=
  wp_region_still_tail n hm hB h

theorem cells_new (w : World) (t : TypeId) (cs : List Value) : ∀ j u, cs[j]? = some u → (w.alloc (.cells cs.toArray t)).cell? ((⟨w.heap.size, 0, none⟩ : Addr).add j) = some u := by
  intro j u h
  have e : (⟨w.heap.size, 0, none⟩ : Addr).add j = ⟨w.heap.size, j, none⟩ := by unfold Addr.add; split <;> simp_all
  rw [e, (Blk.new w t cs.toArray).cell]
  simpa using h
theorem ownsRow_keep {w w' : World} {base : Nat} {e : TypeId} {size : Nat} {v : Value} {n : Nat} {xs : List Value} (h : w.ownsRow base e size v n xs)
    (hk : ∀ g, g < w.heap.size → v.ownBlock = some g → w'.heap[g]? = w.heap[g]?) : w'.ownsRow base e size v n xs := by
  obtain ⟨h1, h2⟩ := h
  refine ⟨h1, ?_⟩
  rcases h2 with h2 | ⟨g, cap, cur, rfl, hg, hh, r⟩
  · exact .inl h2
  · refine .inr ⟨g, cap, cur, rfl, hg, ?_, r⟩
    rw [hk g (Blk.lt hh) rfl]
    exact hh
theorem own_base {w : World} {base : Nat} {e : TypeId} {size : Nat} {v : Value} {n : Nat} {xs : List Value} (h : w.ownsRow base e size v n xs) : ∀ k, v.ownBlock = some k → base ≤ k := by
  intro k hk
  rcases h.2 with ⟨rfl, _⟩ | ⟨g, cap, cur, rfl, hg, _⟩
  · cases hk
  · simp only [Value.ownBlock, Option.some.injEq] at hk
    omega
theorem own_below {w w' : World} {B base : Nat} {e : TypeId} {size : Nat} {v : Value} {n : Nat} {xs : List Value} (h : w.ownsRow base e size v n xs) (hb : Below B w w') (hB : w.heap.size ≤ B) : w'.ownsRow base e size v n xs :=
  ownsRow_keep h fun g hg _ => hb.block g (by omega)
/-- Behind an append onto a row of the call's own, that lay in the world a and one block more. -/
theorem below_app {B : Nat} {a w w' : World} {base : Nat} {e : TypeId} {size : Nat} {v : Value} {n : Nat} {xs : List Value} {o : Obj} (h : Below B a w) (hown : w.ownsRow base e size v n xs) (hg : (w.alloc o).grownBy w' v.ownBlock) (hB : B ≤ w.heap.size) (hb : B ≤ base) : Below B a w' :=
  (h.alloc hB o).grown hg (by simp; omega) fun k hk => Nat.le_trans hb (own_base hown k hk)
theorem list_cat {α β : Type} (l : List α) (x : α) (f : α → List β) : (l ++ [x]).flatMap f = l.flatMap f ++ f x := by simp

/-! Two structs of scalars, compared. -/
def veq : Value → Value → Bool
  | .int _ a, .int _ b => a == b
  | .bool a, .bool b => a == b
  | _, _ => false
def veqL : List Value → List Value → Bool
  | [], [] => true
  | v :: vs, u :: us => veq v u && veqL vs us
  | _, _ => false
/-- The fields fs, from cell i on, are scalars, and so are the cells. -/
def fitsL (P : Program) : List Field → Nat → List Value → List Value → Bool
  | [], _, [], [] => true
  | f :: fs, i, v :: vs, u :: us => f.name != "_" && f.offset == i &&
      (match P.underlying f.type, v, u with
        | some (.int _), .int k1 _, .int k2 _ => decide (k1 = k2)
        | some .bool, .bool _, .bool _ => true
        | _, _, _ => false) && fitsL P fs (i + 1) vs us
  | _, _, _, _ => false
theorem eqFields_scal (P : Program) (d : Nat) (fs : List Field) : ∀ (i : Nat) (vs us ps qs : List Value) (w : World), ps.length = i → qs.length = i → fitsL P fs i vs us = true →
    (Op.eqFields (d + 1) (ps ++ vs).toArray (qs ++ us).toArray fs).run P w = .ok (veqL vs us) w := by
  induction fs with
  | nil =>
    intro i vs us ps qs w hp hq h
    cases vs <;> cases us <;> simp [fitsL] at h
    simp [Op.eqFields, veqL]
  | cons f fs ih =>
    intro i vs us ps qs w hp hq h
    cases vs with
    | nil => simp [fitsL] at h
    | cons v vs =>
    cases us with
    | nil => simp [fitsL] at h
    | cons u us =>
      simp only [fitsL, Bool.and_eq_true, beq_iff_eq, bne_iff_ne, ne_eq] at h
      obtain ⟨⟨⟨h1, h2⟩, h3⟩, h4⟩ := h
      have hv : (ps ++ v :: vs).toArray[f.offset]? = some v := by simp [h2, ← hp]
      have hu : (qs ++ u :: us).toArray[f.offset]? = some u := by simp [h2, ← hq]
      have IH := ih (i + 1) vs us (ps ++ [v]) (qs ++ [u]) w (by simp [hp]) (by simp [hq]) h4
      simp only [List.append_assoc, List.singleton_append] at IH
      split at h3
      · rename_i k a ka b kb hk
        have e1 : ∀ (s : Array Value) (x : Value) (w : World), s[f.offset]? = some x → (part f.type s f.offset).run P w = .ok x w := by
          intro s x w hs
          simp [part, isAgg, run_underlying hk, hs]
        unfold Op.eqFields
        rw [if_pos (by simpa using h1)]
        simp only [Sem.run_bind, e1 _ _ _ hv, e1 _ _ _ hu, Result.andThen_ok]
        have hab : a = b := of_decide_eq_true h3
        subst hab
        have e2 : ∀ (w : World), (Op.equalIn (d + 1) f.type (.int a ka) (.int a kb)).run P w = .ok (ka == kb) w := by
          intro w
          simp [Op.equalIn, run_underlying hk]
        simp only [e2, Result.andThen_ok, veqL, veq]
        cases hkk : ka == kb
        · simp
        · simpa using IH
      · rename_i a b hk
        have e1 : ∀ (s : Array Value) (x : Value) (w : World), s[f.offset]? = some x → (part f.type s f.offset).run P w = .ok x w := by
          intro s x w hs
          simp [part, isAgg, run_underlying hk, hs]
        unfold Op.eqFields
        rw [if_pos (by simpa using h1)]
        simp only [Sem.run_bind, e1 _ _ _ hv, e1 _ _ _ hu, Result.andThen_ok]
        have e2 : ∀ (w : World), (Op.equalIn (d + 1) f.type (.bool a) (.bool b)).run P w = .ok (a == b) w := by
          intro w
          simp [Op.equalIn, run_underlying hk]
        simp only [e2, Result.andThen_ok, veqL, veq]
        cases hkk : a == b
        · simp
        · simpa using IH
      · cases h3
theorem run_eql_scal {P : Program} (t : TypeId) (vs us : List Value) (w : World) (h1 : P.underlying t = some (.struct (P.fieldsOf t))) (h2 : P.stoodInHeld t = false) (h3 : fitsL P (P.fieldsOf t).toList 0 vs us = true) :
    (binOp .eql t (.agg vs.toArray) (.agg us.toArray)).run P w = .ok (.bool (veqL vs us)) w := by
  have h := eqFields_scal P 9998 (P.fieldsOf t).toList 0 vs us [] [] w rfl rfl h3
  rw [run_eql_struct, run_equalIn_agg w 9999 t _ _ h1 h2]
  simp only [List.nil_append] at h
  rw [h]
  rfl
theorem run_neq_scal {P : Program} (t : TypeId) (vs us : List Value) (w : World) (h1 : P.underlying t = some (.struct (P.fieldsOf t))) (h2 : P.stoodInHeld t = false) (h3 : fitsL P (P.fieldsOf t).toList 0 vs us = true) :
    (binOp .neq t (.agg vs.toArray) (.agg us.toArray)).run P w = .ok (.bool (!veqL vs us)) w := by
  have h := eqFields_scal P 9998 (P.fieldsOf t).toList 0 vs us [] [] w rfl rfl h3
  rw [run_neq_struct, run_equalIn_agg w 9999 t _ _ h1 h2]
  simp only [List.nil_append] at h
  rw [h]
  rfl

theorem still_all {P : Program} {id : Nat} {Q : Exit → Act → World → Prop} {a : Act} {w : World} {l : List Oper} (hm : P.follows .mixedOrders = true) (hB : Region.lexB .any l.toArray = true)
    (h : wpStill P l.toArray w.drew (fun a' => Q .normal a' w.drew) l a) : (Code.region id l.toArray true).wp P Q a w :=
  wp_region_still_lit hm hB h

end Go.Proofs.Ytfdbimkddkohnaa
