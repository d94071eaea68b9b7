/- Part 1: the texts Lib Tim TimL TimR Facts FactsB FactsP FactsQ FactsR FactsE FactsV, laid end to end by a program. -/
import Derived.Test.YtpbepmipfjcjbaaRows
import Derived.WalkKit
import Derived.WalkSpells
import Derived.WalkLawsBesides
import Derived.Deep.Draws
import Derived.StillTailTactics
import Derived.Lib.Hide
namespace Go.Proofs.Ytpbepmipfjcjbaa
open Go.RowKit

/-- Block g is just the cells cs, of element type t, none frozen. -/
def Blk (w : World) (g : Nat) (t : TypeId) (cs : Array Value) : Prop := w.heap[g]? = some (.cells cs t (0, 0))
section
variable {w w' : World} {g : Nat} {t : TypeId} {cs : Array Value}
theorem Blk.lt (h : Blk w g t cs) : g < w.heap.size := by
  rcases Nat.lt_or_ge g w.heap.size with hlt | hge
  · exact hlt
  · unfold Blk at h; rw [Array.getElem?_eq_none hge] at h; cases h
theorem Blk.cell (h : Blk w g t cs) : ∀ i, w.cell? ⟨g, i, none⟩ = cs[i]? := fun i => by
  unfold Blk at h
  simp [World.cell?, h]
theorem Blk.frozen (h : Blk w g t cs) : ∀ i, w.frozen? ⟨g, i, none⟩ = false := fun i => by
  unfold Blk at h
  simp [World.frozen?, h]
theorem Blk.new (w : World) (t : TypeId) (cs : Array Value) : Blk (w.alloc (.cells cs t)) w.heap.size t cs := heap_alloc_new w _
theorem Blk.drew (h : Blk w g t cs) : Blk w.drew g t cs := h
theorem Blk.drewN (h : Blk w g t cs) (n : Nat) : Blk (w.drewN n) g t cs := h
theorem Blk.alloc (h : Blk w g t cs) (o : Obj) : Blk (w.alloc o) g t cs := (Below.heap_alloc w o g h.lt).trans h
theorem Blk.put (h : Blk w g t cs) (i : Nat) (u : Value) : Blk (w.setCell ⟨g, i, none⟩ u) g t (cs.setIfInBounds i u) := by
  unfold Blk at h ⊢
  simp [World.setCell, Array.getElem?_modify, h]
theorem Blk.far (h : Blk w g t cs) {p : Addr} (hp : g ≠ p.block) (u : Value) : Blk (w.setCell p u) g t cs := (Below.heap_setCell w p u g hp).trans h
theorem Blk.below {B : Nat} (h : Blk w g t cs) (hb : Below B w w') (hg : g < B) : Blk w' g t cs := (hb.block g hg).trans h
theorem Blk.same (h : Blk w g t cs) {t' : TypeId} {cs' : Array Value} (h' : Blk w g t' cs') : cs = cs' ∧ t = t' := by
  unfold Blk at h h'
  rw [h] at h'
  injection h' with h'
  injection h' with a b
  exact ⟨a, b⟩
theorem Blk.ne (h : Blk w g t cs) {g' : Nat} {t' : TypeId} {cs' : Array Value} (h' : Blk w g' t' cs') (hne : t ≠ t') : g ≠ g' := by
  rintro rfl
  exact hne (h.same h').2
end

/-- From w to w' nothing has turned but the blocks in S; new blocks may have come. -/
structure Chg (S : Nat → Prop) (w w' : World) : Prop where
  os : w'.os = w.os
  tape : w'.tape = w.tape
  output : w'.output = w.output
  size : w.heap.size ≤ w'.heap.size
  block : ∀ k, k < w.heap.size → ¬ S k → w'.heap[k]? = w.heap[k]?
section
variable {S S' : Nat → Prop} {a w w' : World}
theorem Chg.refl (S : Nat → Prop) (w : World) : Chg S w w := ⟨rfl, rfl, rfl, Nat.le_refl _, fun _ _ _ => rfl⟩
theorem Chg.trans (h : Chg S a w) (k : Chg S' w w') (hs : ∀ i, i < a.heap.size → S' i → S i) : Chg S a w' :=
  ⟨k.os.trans h.os, k.tape.trans h.tape, k.output.trans h.output, Nat.le_trans h.size k.size,
   fun i hi hn => (k.block i (Nat.lt_of_lt_of_le hi h.size) (fun e => hn (hs i hi e))).trans (h.block i hi hn)⟩
theorem Chg.mono (h : Chg S a w) (hs : ∀ i, i < a.heap.size → S i → S' i) : Chg S' a w :=
  ⟨h.os, h.tape, h.output, h.size, fun i hi hn => h.block i hi (fun e => hn (hs i hi e))⟩
theorem Chg.drew (h : Chg S a w) : Chg S a w.drew := ⟨h.os, h.tape, h.output, h.size, h.block⟩
theorem Chg.drewN (h : Chg S a w) (n : Nat) : Chg S a (w.drewN n) := ⟨h.os, h.tape, h.output, h.size, h.block⟩
theorem Chg.alloc (h : Chg S a w) (o : Obj) : Chg S a (w.alloc o) :=
  ⟨h.os, h.tape, h.output, Nat.le_trans h.size (by simp), fun i hi hn => (Below.heap_alloc _ _ _ (Nat.lt_of_lt_of_le hi h.size)).trans (h.block i hi hn)⟩
theorem Chg.setCell (h : Chg S a w) {p : Addr} (hp : p.block < a.heap.size → S p.block) (u : Value) : Chg S a (w.setCell p u) :=
  ⟨h.os, h.tape, h.output, by simpa [World.setCell] using h.size, fun i hi hn =>
    (Below.heap_setCell _ _ _ _ (fun e => hn (by subst e; exact hp hi))).trans (h.block i hi hn)⟩
theorem Chg.below (h : Chg (fun _ => False) a w) : Below a.heap.size a w := ⟨h.os, h.tape, h.output, h.size, fun k hk => h.block k hk (fun x => x)⟩
theorem Chg.to_below {B : Nat} (h : Chg (fun k => B ≤ k) a w) (hB : B ≤ a.heap.size) : Below B a w := ⟨h.os, h.tape, h.output, h.size, fun k hk => h.block k (by omega) (by omega)⟩
theorem Chg.of_below {B : Nat} (h : Below B a w) : Chg (fun k => B ≤ k) a w := ⟨h.os, h.tape, h.output, h.size, fun k _ hn => h.block k (by omega)⟩
theorem Chg.of_same (h : Below a.heap.size a w) (S : Nat → Prop) : Chg S a w := ⟨h.os, h.tape, h.output, h.size, fun k hk _ => h.block k hk⟩
theorem Blk.chg {g : Nat} {t : TypeId} {cs : Array Value} (h : Blk w g t cs) (hb : Chg S w w') (hg : ¬ S g) : Blk w' g t cs := (hb.block g h.lt hg).trans h
theorem Chg.cell (h : Chg S a w) {p : Addr} (hp : p.block < a.heap.size) (hn : ¬ S p.block) : w.cell? p = a.cell? p := World.cell?_of_block (w := a) (h.block p.block hp hn)
theorem Chg.froz (h : Chg S a w) {p : Addr} (hp : p.block < a.heap.size) (hn : ¬ S p.block) : w.frozen? p = a.frozen? p := World.frozen?_of_block (w := a) (h.block p.block hp hn)
end

/-- A contract's world the other way round. -/
theorem flip {P : Program} {f : FuncId} {args : Array Value} {w : World} {v : Value}
    (h : Calls P f args w fun e w' => e = .returned v ∧ w = w') : Calls P f args w fun e w' => e = .returned v ∧ w' = w :=
  h.mono fun _ _ h => ⟨h.1, h.2.symm⟩

theorem ret_int {k : IntKind} {a b : Int} (h : a = b) : Ending.returned (.int k a) = .returned (.int k b) := by rw [h]
theorem ret_bool {a b : Bool} (h : a = b) : Ending.returned (.bool a) = .returned (.bool b) := by rw [h]

/-- A call through a function value in a slot: met at once, ahead of any unfolding. -/
def callVal (v : Value) (args : Array Value) : Sem Next := (Deferred.ofValue v args).bind fun d => invoke d.target d.args
@[go_sem ↓] theorem execOp_call_val (ρ : Operand → Value) (dst : Option Tmp) (t : Tmp) (xs : Array Operand) (ats : Array TypeId) (ty : TypeId) (pos : String) (after : Array Edge) (guard : Option (Nat × Bool)) :
    execOp ρ { dst, op := .call { callee := .value (.tmp t), args := xs, argTypes := ats }, type := ty, pos, after, guard } = callVal (ρ (.tmp t)) (xs.map ρ) := rfl
@[go_sem] theorem callVal_fn (f : FuncId) (c a : Array Value) (args : Array Value) : callVal (.func (.func f) a c) args = callFunc f (a ++ args ++ c) := rfl

/-- A region that draws, whose first n operations only read or call quietly, the rest in one forced order: walked as typed. -/
theorem still_tail {P : Program} {id : Nat} {Q : Exit → Act → World → Prop} {a : Act} {w : World} {l : List Oper} (n : Nat) (hm : P.follows .mixedOrders = true) (hB : Region.lexTailB .any l.toArray n = true)
    (h : wpStill P l.toArray w.drew (fun a' => wpList P l.toArray Q (l.drop n) a' w.drew) (l.take n) a) : (Code.region id l.toArray true).wp P Q a w :=
  wp_region_still_tail n hm hB h

theorem cells_new (w : World) (t : TypeId) (cs : List Value) : ∀ j u, cs[j]? = some u → (w.alloc (.cells cs.toArray t)).cell? ((⟨w.heap.size, 0, none⟩ : Addr).add j) = some u := by
  intro j u h
  have e : (⟨w.heap.size, 0, none⟩ : Addr).add j = ⟨w.heap.size, j, none⟩ := by unfold Addr.add; split <;> simp_all
  rw [e, (Blk.new w t cs.toArray).cell]
  simpa using h
theorem ownsRow_keep {w w' : World} {base : Nat} {e : TypeId} {size : Nat} {v : Value} {n : Nat} {xs : List Value} (h : w.ownsRow base e size v n xs)
    (hk : ∀ g, g < w.heap.size → v.ownBlock = some g → w'.heap[g]? = w.heap[g]?) : w'.ownsRow base e size v n xs := by
  obtain ⟨h1, h2⟩ := h
  refine ⟨h1, ?_⟩
  rcases h2 with h2 | ⟨g, cap, cur, rfl, hg, hh, r⟩
  · exact .inl h2
  · refine .inr ⟨g, cap, cur, rfl, hg, ?_, r⟩
    rw [hk g (Blk.lt hh) rfl]
    exact hh
theorem own_base {w : World} {base : Nat} {e : TypeId} {size : Nat} {v : Value} {n : Nat} {xs : List Value} (h : w.ownsRow base e size v n xs) : ∀ k, v.ownBlock = some k → base ≤ k := by
  intro k hk
  rcases h.2 with ⟨rfl, _⟩ | ⟨g, cap, cur, rfl, hg, _⟩
  · cases hk
  · simp only [Value.ownBlock, Option.some.injEq] at hk
    omega
theorem own_below {w w' : World} {B base : Nat} {e : TypeId} {size : Nat} {v : Value} {n : Nat} {xs : List Value} (h : w.ownsRow base e size v n xs) (hb : Below B w w') (hB : w.heap.size ≤ B) : w'.ownsRow base e size v n xs :=
  ownsRow_keep h fun g hg _ => hb.block g (by omega)
/-- Behind an append onto a row of the call's own, that lay in the world a and one block more. -/
theorem below_app {B : Nat} {a w w' : World} {base : Nat} {e : TypeId} {size : Nat} {v : Value} {n : Nat} {xs : List Value} {o : Obj} (h : Below B a w) (hown : w.ownsRow base e size v n xs) (hg : (w.alloc o).grownBy w' v.ownBlock) (hB : B ≤ w.heap.size) (hb : B ≤ base) : Below B a w' :=
  (h.alloc hB o).grown hg (by simp; omega) fun k hk => Nat.le_trans hb (own_base hown k hk)
theorem list_cat {α β : Type} (l : List α) (x : α) (f : α → List β) : (l ++ [x]).flatMap f = l.flatMap f ++ f x := by simp

/-! Two structs of scalars, compared. -/
def veq : Value → Value → Bool
  | .int _ a, .int _ b => a == b
  | .bool a, .bool b => a == b
  | _, _ => false
def veqL : List Value → List Value → Bool
  | [], [] => true
  | v :: vs, u :: us => veq v u && veqL vs us
  | _, _ => false
/-- The fields fs, from cell i on, are scalars, and so are the cells. -/
def fitsL (P : Program) : List Field → Nat → List Value → List Value → Bool
  | [], _, [], [] => true
  | f :: fs, i, v :: vs, u :: us => f.name != "_" && f.offset == i &&
      (match P.underlying f.type, v, u with
        | some (.int _), .int k1 _, .int k2 _ => decide (k1 = k2)
        | some .bool, .bool _, .bool _ => true
        | _, _, _ => false) && fitsL P fs (i + 1) vs us
  | _, _, _, _ => false
theorem eqFields_scal (P : Program) (d : Nat) (fs : List Field) : ∀ (i : Nat) (vs us ps qs : List Value) (w : World), ps.length = i → qs.length = i → fitsL P fs i vs us = true →
    (Op.eqFields (d + 1) (ps ++ vs).toArray (qs ++ us).toArray fs).run P w = .ok (veqL vs us) w := by
  induction fs with
  | nil =>
    intro i vs us ps qs w hp hq h
    cases vs <;> cases us <;> simp [fitsL] at h
    simp [Op.eqFields, veqL]
  | cons f fs ih =>
    intro i vs us ps qs w hp hq h
    cases vs with
    | nil => simp [fitsL] at h
    | cons v vs =>
    cases us with
    | nil => simp [fitsL] at h
    | cons u us =>
      simp only [fitsL, Bool.and_eq_true, beq_iff_eq, bne_iff_ne, ne_eq] at h
      obtain ⟨⟨⟨h1, h2⟩, h3⟩, h4⟩ := h
      have hv : (ps ++ v :: vs).toArray[f.offset]? = some v := by simp [h2, ← hp]
      have hu : (qs ++ u :: us).toArray[f.offset]? = some u := by simp [h2, ← hq]
      have IH := ih (i + 1) vs us (ps ++ [v]) (qs ++ [u]) w (by simp [hp]) (by simp [hq]) h4
      simp only [List.append_assoc, List.singleton_append] at IH
      split at h3
      · rename_i k a ka b kb hk
        have e1 : ∀ (s : Array Value) (x : Value) (w : World), s[f.offset]? = some x → (part f.type s f.offset).run P w = .ok x w := by
          intro s x w hs
          simp [part, isAgg, run_underlying hk, hs]
        unfold Op.eqFields
        rw [if_pos (by simpa using h1)]
        simp only [Sem.run_bind, e1 _ _ _ hv, e1 _ _ _ hu, Result.andThen_ok]
        have hab : a = b := of_decide_eq_true h3
        subst hab
        have e2 : ∀ (w : World), (Op.equalIn (d + 1) f.type (.int a ka) (.int a kb)).run P w = .ok (ka == kb) w := by
          intro w
          simp [Op.equalIn, run_underlying hk]
        simp only [e2, Result.andThen_ok, veqL, veq]
        cases hkk : ka == kb
        · simp
        · simpa using IH
      · rename_i a b hk
        have e1 : ∀ (s : Array Value) (x : Value) (w : World), s[f.offset]? = some x → (part f.type s f.offset).run P w = .ok x w := by
          intro s x w hs
          simp [part, isAgg, run_underlying hk, hs]
        unfold Op.eqFields
        rw [if_pos (by simpa using h1)]
        simp only [Sem.run_bind, e1 _ _ _ hv, e1 _ _ _ hu, Result.andThen_ok]
        have e2 : ∀ (w : World), (Op.equalIn (d + 1) f.type (.bool a) (.bool b)).run P w = .ok (a == b) w := by
          intro w
          simp [Op.equalIn, run_underlying hk]
        simp only [e2, Result.andThen_ok, veqL, veq]
        cases hkk : a == b
        · simp
        · simpa using IH
      · cases h3
theorem run_eql_scal {P : Program} (t : TypeId) (vs us : List Value) (w : World) (h1 : P.underlying t = some (.struct (P.fieldsOf t))) (h2 : P.stoodInHeld t = false) (h3 : fitsL P (P.fieldsOf t).toList 0 vs us = true) :
    (binOp .eql t (.agg vs.toArray) (.agg us.toArray)).run P w = .ok (.bool (veqL vs us)) w := by
  have h := eqFields_scal P 9998 (P.fieldsOf t).toList 0 vs us [] [] w rfl rfl h3
  rw [run_eql_struct, run_equalIn_agg w 9999 t _ _ h1 h2]
  simp only [List.nil_append] at h
  rw [h]
  rfl
theorem run_neq_scal {P : Program} (t : TypeId) (vs us : List Value) (w : World) (h1 : P.underlying t = some (.struct (P.fieldsOf t))) (h2 : P.stoodInHeld t = false) (h3 : fitsL P (P.fieldsOf t).toList 0 vs us = true) :
    (binOp .neq t (.agg vs.toArray) (.agg us.toArray)).run P w = .ok (.bool (!veqL vs us)) w := by
  have h := eqFields_scal P 9998 (P.fieldsOf t).toList 0 vs us [] [] w rfl rfl h3
  rw [run_neq_struct, run_equalIn_agg w 9999 t _ _ h1 h2]
  simp only [List.nil_append] at h
  rw [h]
  rfl

theorem still_all {P : Program} {id : Nat} {Q : Exit → Act → World → Prop} {a : Act} {w : World} {l : List Oper} (hm : P.follows .mixedOrders = true) (hB : Region.lexB .any l.toArray = true)
    (h : wpStill P l.toArray w.drew (fun a' => Q .normal a' w.drew) l a) : (Code.region id l.toArray true).wp P Q a w :=
  wp_region_still_lit hm hB h

end Go.Proofs.Ytpbepmipfjcjbaa
namespace Go.Proofs.Ytpbepmipfjcjbaa
open Go.RowKit
structure Timer where
  at_ : Int
  seq : Int
  place : Int
theorem Timer.ext' {x y : Timer} (h1 : x.at_ = y.at_) (h2 : x.seq = y.seq) (h3 : x.place = y.place) : x = y := by
  cases x
  cases y
  simp only at h1 h2 h3
  subst h1 h2 h3
  rfl
theorem Timer.eq_iff (x y : Timer) : x = y ↔ x.at_ = y.at_ ∧ x.seq = y.seq ∧ x.place = y.place := ⟨fun h => by subst h; exact ⟨rfl, rfl, rfl⟩, fun h => Timer.ext' h.1 h.2.1 h.2.2⟩
instance : DecidableEq Timer := fun x y => decidable_of_iff _ (Timer.eq_iff x y).symm
def Timer.cells (x : Timer) : List Value := [.int .u64 x.at_, .int .u64 x.seq, .int .i64 x.place]
def Timer.val (x : Timer) : Value := .agg #[.int .u64 x.at_, .int .u64 x.seq, .int .i64 x.place]
def Timer.zero : Timer := ⟨0, 0, 0⟩
/-- Is one before another one? -/
def Timer.lt (x y : Timer) : Bool := if x.at_ = y.at_ then (if x.seq = y.seq then decide (x.place < y.place) else decide (x.seq < y.seq)) else decide (x.at_ < y.at_)
theorem Timer.lt_iff (x y : Timer) : x.lt y = true ↔ x.at_ < y.at_ ∨ (x.at_ = y.at_ ∧ (x.seq < y.seq ∨ (x.seq = y.seq ∧ x.place < y.place))) := by
  unfold Timer.lt
  split
  · rename_i h
    split
    · rename_i h2
      simp [h, h2]
    · rename_i h2
      simp [h, h2]
  · rename_i h
    simp [h]
theorem Timer.lt_irrefl (x : Timer) : x.lt x = false := by simp [Timer.lt]
theorem Timer.lt_trans {x y z : Timer} (h : x.lt y = true) (k : y.lt z = true) : x.lt z = true := by
  rw [Timer.lt_iff] at *
  omega
theorem Timer.lt_total {x y : Timer} (h : x.lt y = false) (k : y.lt x = false) : x = y := by
  have h' : ¬ x.lt y = true := by rw [h]; simp
  have k' : ¬ y.lt x = true := by rw [k]; simp
  rw [Timer.lt_iff] at h' k'
  apply Timer.ext' <;> omega
def cmpI (a b : Int) : Int := if a < b then -1 else if b < a then 1 else 0
def cmpT (x y : Timer) : Int := if cmpI x.at_ y.at_ ≠ 0 then cmpI x.at_ y.at_ else if cmpI x.seq y.seq ≠ 0 then cmpI x.seq y.seq else cmpI x.place y.place
theorem cmpT_lt (x y : Timer) : decide (cmpT x y < 0) = x.lt y := by
  rw [Bool.eq_iff_iff, decide_eq_true_iff, Timer.lt_iff]
  unfold cmpT cmpI
  split <;> split <;> (try split) <;> (try split) <;> (try split) <;> omega
theorem cmpI_in (a b : Int) : -1 ≤ cmpI a b ∧ cmpI a b ≤ 1 := by
  unfold cmpI
  split <;> (try split) <;> omega
theorem nan_u (a : Int) (w : World) : Calls Try.prog 66 #[.int .u64 a] w fun e w' => e = .returned (.bool false) ∧ w = w' := by
  go_enter Try.func66, Try.ntmps66
  go_wp2
  go_ret
  exact ⟨rfl, rfl⟩
theorem nan_i (a : Int) (w : World) : Calls Try.prog 67 #[.int .i64 a] w fun e w' => e = .returned (.bool false) ∧ w = w' := by
  go_enter Try.func67, Try.ntmps67
  go_wp2
  go_ret
  exact ⟨rfl, rfl⟩
theorem cmp_u (a b : Int) (w : World) : Calls Try.prog 58 #[.int .u64 a, .int .u64 b] w fun e w' => e = .returned (.int .i64 (cmpI a b)) ∧ w = w' := by
  by_cases h1 : a < b
  · have HW := Lib.hid (show cmpI a b = -1 by simp [cmpI, h1])
    go_enter Try.func58, Try.ntmps58
    go_wp2_with (go_at_call 66; refine (nan_u _ _).mono ?_; rintro e w' ⟨rfl, rfl⟩)
    go_ret
    exact ⟨ret_int HW.out.symm, rfl⟩
  · by_cases h2 : b < a
    · have HW := Lib.hid (show cmpI a b = 1 by simp [cmpI, h1, h2])
      go_enter Try.func58, Try.ntmps58
      go_wp2_with (go_at_call 66; refine (nan_u _ _).mono ?_; rintro e w' ⟨rfl, rfl⟩)
      go_ret
      exact ⟨ret_int HW.out.symm, rfl⟩
    · have HW := Lib.hid (show cmpI a b = 0 by simp [cmpI, h1, h2])
      go_enter Try.func58, Try.ntmps58
      go_wp2_with (go_at_call 66; refine (nan_u _ _).mono ?_; rintro e w' ⟨rfl, rfl⟩)
      go_ret
      exact ⟨ret_int HW.out.symm, rfl⟩
theorem cmp_i (a b : Int) (w : World) : Calls Try.prog 59 #[.int .i64 a, .int .i64 b] w fun e w' => e = .returned (.int .i64 (cmpI a b)) ∧ w = w' := by
  by_cases h1 : a < b
  · have HW := Lib.hid (show cmpI a b = -1 by simp [cmpI, h1])
    go_enter Try.func59, Try.ntmps59
    go_wp2_with (go_at_call 67; refine (nan_i _ _).mono ?_; rintro e w' ⟨rfl, rfl⟩)
    go_ret
    exact ⟨ret_int HW.out.symm, rfl⟩
  · by_cases h2 : b < a
    · have HW := Lib.hid (show cmpI a b = 1 by simp [cmpI, h1, h2])
      go_enter Try.func59, Try.ntmps59
      go_wp2_with (go_at_call 67; refine (nan_i _ _).mono ?_; rintro e w' ⟨rfl, rfl⟩)
      go_ret
      exact ⟨ret_int HW.out.symm, rfl⟩
    · have HW := Lib.hid (show cmpI a b = 0 by simp [cmpI, h1, h2])
      go_enter Try.func59, Try.ntmps59
      go_wp2_with (go_at_call 67; refine (nan_i _ _).mono ?_; rintro e w' ⟨rfl, rfl⟩)
      go_ret
      exact ⟨ret_int HW.out.symm, rfl⟩
def orI (l : List Int) : Int := (l.find? fun x => x != 0).getD 0
set_option maxRecDepth 100000 in
set_option maxHeartbeats 2000000 in
theorem or_three (g : Nat) (x y z : Int) (w : World) (hc : ∀ i, w.cell? ⟨g, i, none⟩ = (#[.int .i64 x, .int .i64 y, .int .i64 z] : Array Value)[i]?) :
    Calls Try.prog 57 #[.slice (some ⟨g, 0, none⟩) 3 3] w fun e w' => e = .returned (.int .i64 (if x ≠ 0 then x else if y ≠ 0 then y else z)) ∧ w = w' := by
  go_enter Try.func57, Try.ntmps57
  go_wp2
  go_loop [8] (fun i => ∃ k : Nat, k ≤ 3 ∧ i = .int .i64 k ∧ (0 < k → x = 0) ∧ (1 < k → y = 0) ∧ (2 < k → z = 0)) (fun i => 3 - (intOf i).toNat)
  case atStart => exact ⟨0, by omega, rfl, by omega, by omega, by omega⟩
  case round =>
    obtain ⟨k, hk, rfl, h0, h1, h2⟩ := hrel
    have H : k = 0 ∨ k = 1 ∨ k = 2 ∨ k = 3 := by omega
    rcases H with rfl | rfl | rfl | rfl
    · clear h0 h1 h2
      by_cases hx : x = 0
      · have HX := Lib.hid hx
        have hx' : (x != 0) = false := by simp [hx]
        clear hx
        go_wp2
        go_round
        case rel => exact ⟨1, by omega, rfl, fun _ => HX.out, by omega, by omega⟩
        case measure => simp [intOf]
      · have HX := Lib.hid hx
        have hx' : (x != 0) = true := by simp [hx]
        clear hx
        go_wp2
        go_ret
        exact ⟨ret_int (by have a := HX.out; simp_all), rfl⟩
    · have HX := Lib.hid (h0 (by omega))
      clear h0 h1 h2
      by_cases hx : y = 0
      · have HY := Lib.hid hx
        have hx' : (y != 0) = false := by simp [hx]
        clear hx
        go_wp2
        go_round
        case rel => exact ⟨2, by omega, rfl, fun _ => HX.out, fun _ => HY.out, by omega⟩
        case measure => simp [intOf]
      · have HY := Lib.hid hx
        have hx' : (y != 0) = true := by simp [hx]
        clear hx
        go_wp2
        go_ret
        exact ⟨ret_int (by have a := HX.out; have b := HY.out; simp_all), rfl⟩
    · have HX := Lib.hid (h0 (by omega))
      have HY := Lib.hid (h1 (by omega))
      clear h0 h1 h2
      by_cases hx : z = 0
      · have HZ := Lib.hid hx
        have hx' : (z != 0) = false := by simp [hx]
        clear hx
        go_wp2
        go_round
        case rel => exact ⟨3, by omega, rfl, fun _ => HX.out, fun _ => HY.out, fun _ => HZ.out⟩
        case measure => simp [intOf]
      · have hx' : (z != 0) = true := by simp [hx]
        clear hx
        go_wp2
        go_ret
        exact ⟨ret_int (by have a := HX.out; have b := HY.out; simp_all), rfl⟩
    · have HX := Lib.hid (h0 (by omega))
      have HY := Lib.hid (h1 (by omega))
      have HZ := Lib.hid (h2 (by omega))
      clear h0 h1 h2
      go_wp2
      go_ret
      exact ⟨ret_int (by have a := HX.out; have b := HY.out; have c := HZ.out; simp_all), rfl⟩
set_option maxRecDepth 100000 in
set_option maxHeartbeats 2000000 in
theorem cmp_any (x y : Timer) (w : World) : Calls Try.prog 48 #[x.val, y.val] w fun e w' => e = .returned (.int .i64 (cmpT x y)) ∧ Below w.heap.size w w' := by
  have HW := Lib.hid (show cmpT x y = if cmpI x.at_ y.at_ ≠ 0 then cmpI x.at_ y.at_ else if cmpI x.seq y.seq ≠ 0 then cmpI x.seq y.seq else cmpI x.place y.place from rfl)
  generalize cmpT x y = c at *
  unfold Timer.val
  go_enter Try.func48, Try.ntmps48
  go_wp2
  refine still_tail 15 (by kernel_rfl) (by kernel_rfl) ?_
  simp only [List.take_succ_cons, List.take_zero, List.drop_succ_cons, List.drop_zero]
  iterate 4 still_step
  still_call (flip (cmp_u x.at_ y.at_ _))
  iterate 4 still_step
  still_call (flip (cmp_u x.seq y.seq _))
  iterate 4 still_step
  still_call (flip (cmp_i x.place y.place _))
  refine wpStill_nil ?_
  go_wp2_with fail
  refine (or_three _ (cmpI x.at_ y.at_) (cmpI x.seq y.seq) (cmpI x.place y.place) _ (fun i => by simpa using (Blk.new ((w.alloc (.cells #[.int .u64 x.at_, .int .u64 x.seq, .int .i64 x.place] 35)).alloc (.cells #[.int .u64 y.at_, .int .u64 y.seq, .int .i64 y.place] 35)) 3 #[.int .i64 (cmpI x.at_ y.at_), .int .i64 (cmpI x.seq y.seq), .int .i64 (cmpI x.place y.place)]).drew.cell i)).mono ?_
  rintro e w' ⟨rfl, rfl⟩
  rw [← HW.out]
  go_wp2_with fail
  go_ret
  exact ⟨rfl, (((((Below.refl _ _).alloc (Nat.le_refl _) _).alloc (by simp) _).alloc (by simp; omega) _)).drew⟩
set_option maxRecDepth 100000 in
set_option maxHeartbeats 2000000 in
theorem before_any (x y : Timer) (w : World) : Calls Try.prog 60 #[x.val, y.val] w fun e w' => e = .returned (.bool (x.lt y)) ∧ Below w.heap.size w w' := by
  have hb : Below w.heap.size w ((w.alloc (.cells #[.int .u64 x.at_, .int .u64 x.seq, .int .i64 x.place] 35)).alloc (.cells #[.int .u64 y.at_, .int .u64 y.seq, .int .i64 y.place] 35)) := ((Below.refl _ _).alloc (Nat.le_refl _) _).alloc (by simp) _
  have HB := Lib.hid hb
  clear hb
  unfold Timer.val
  by_cases h1 : x.at_ = y.at_
  · by_cases h2 : x.seq = y.seq
    · have HW := Lib.hid (show x.lt y = decide (x.place < y.place) by simp [Timer.lt, h1, h2])
      have h1' : (x.at_ != y.at_) = false := by simp [h1]
      have h2' : (x.seq != y.seq) = false := by simp [h2]
      clear h1 h2
      go_enter Try.func60, Try.ntmps60
      go_wp2
      go_ret
      exact ⟨ret_bool HW.out.symm, HB.out⟩
    · have HW := Lib.hid (show x.lt y = decide (x.seq < y.seq) by simp [Timer.lt, h1, h2])
      have h1' : (x.at_ != y.at_) = false := by simp [h1]
      have h2' : (x.seq != y.seq) = true := by simp [h2]
      clear h1 h2
      go_enter Try.func60, Try.ntmps60
      go_wp2
      go_ret
      exact ⟨ret_bool HW.out.symm, HB.out⟩
  · have HW := Lib.hid (show x.lt y = decide (x.at_ < y.at_) by simp [Timer.lt, h1])
    have h1' : (x.at_ != y.at_) = true := by simp [h1]
    clear h1
    go_enter Try.func60, Try.ntmps60
    go_wp2
    go_ret
    exact ⟨ret_bool HW.out.symm, HB.out⟩
end Go.Proofs.Ytpbepmipfjcjbaa
namespace Go.Proofs.Ytpbepmipfjcjbaa
open Go.RowKit
/-- The slice at A holds the timers l, below block B. -/
def TmAt (w : World) (B : Nat) (A : Option Addr) (l : List Timer) : Prop :=
  ∀ i (h : i < l.length), ∃ b o, A = some ⟨b, o, none⟩ ∧ b < B ∧
    w.cell? ⟨b, o + i * 3, none⟩ = some (.int .u64 l[i].at_) ∧ w.cell? ⟨b, o + i * 3 + 1, none⟩ = some (.int .u64 l[i].seq) ∧ w.cell? ⟨b, o + i * 3 + 2, none⟩ = some (.int .i64 l[i].place)
theorem TmAt.keep {w w' : World} {B : Nat} {A : Option Addr} {l : List Timer} (h : TmAt w B A l) (hk : ∀ b, b < B → A.map (·.block) = some b → w'.heap[b]? = w.heap[b]?) : TmAt w' B A l := by
  intro i hi
  obtain ⟨b, o, rfl, hb, c0, c1, c2⟩ := h i hi
  have e : ∀ k, w'.cell? ⟨b, k, none⟩ = w.cell? ⟨b, k, none⟩ := fun k => World.cell?_of_block (hk b hb rfl)
  exact ⟨b, o, rfl, hb, (e _).trans c0, (e _).trans c1, (e _).trans c2⟩
theorem TmAt.below {w w' : World} {B B' : Nat} {A : Option Addr} {l : List Timer} (h : TmAt w B A l) (hk : Below B' w w') (hB : B ≤ B') : TmAt w' B A l := h.keep fun b hb _ => hk.block b (by omega)
theorem TmAt.mono {w : World} {B B' : Nat} {A : Option Addr} {l : List Timer} (h : TmAt w B A l) (hB : B ≤ B') : TmAt w B' A l := by
  intro i hi
  obtain ⟨b, o, rfl, hb, c⟩ := h i hi
  exact ⟨b, o, rfl, by omega, c⟩
theorem TmAt.on {x y : World} {A : Option Addr} {l : List Timer} (h : TmAt x x.heap.size A l) (k : Below x.heap.size x y) : TmAt y y.heap.size A l := (h.below k (Nat.le_refl _)).mono k.size
theorem TmAt.alloc {w : World} {B : Nat} {A : Option Addr} {l : List Timer} (h : TmAt w B A l) (hB : B ≤ w.heap.size) (o : Obj) : TmAt (w.alloc o) B A l := h.below ((Below.refl _ _).alloc hB o) (Nat.le_refl _)
theorem TmAt.drew {w : World} {B : Nat} {A : Option Addr} {l : List Timer} (h : TmAt w B A l) : TmAt w.drew B A l := h
theorem TmAt.nil {w : World} {B : Nat} {A : Option Addr} : TmAt w B A [] := fun i hi => absurd hi (by simp)
theorem TmAt.take {w : World} {B : Nat} {A : Option Addr} {l : List Timer} (h : TmAt w B A l) (n : Nat) : TmAt w B A (l.take n) := by
  intro i hi
  have hi' : i < l.length := by
    have := hi
    simp at this
    omega
  have e : (l.take n)[i] = l[i] := by simp
  rw [e]
  exact h i hi'
theorem TmAt.drop {w : World} {B b o : Nat} {l : List Timer} (h : TmAt w B (some ⟨b, o, none⟩) l) (n : Nat) : TmAt w B (some ⟨b, o + n * 3, none⟩) (l.drop n) := by
  intro i hi
  have hi' : n + i < l.length := by
    have := hi
    simp at this
    omega
  obtain ⟨b', o', e, hb, c0, c1, c2⟩ := h (n + i) hi'
  simp only [Option.some.injEq, Addr.mk.injEq, and_true] at e
  obtain ⟨rfl, rfl⟩ := e
  have e : (l.drop n)[i] = l[n + i] := by simp
  rw [e]
  refine ⟨b, o + n * 3, rfl, hb, ?_, ?_, ?_⟩
  · rw [show o + n * 3 + i * 3 = o + (n + i) * 3 by omega]; exact c0
  · rw [show o + n * 3 + i * 3 = o + (n + i) * 3 by omega]; exact c1
  · rw [show o + n * 3 + i * 3 = o + (n + i) * 3 by omega]; exact c2
theorem TmAt.form {w : World} {B : Nat} {A : Option Addr} {l : List Timer} (h : TmAt w B A l) (hl : 0 < l.length) : ∃ b o, A = some ⟨b, o, none⟩ ∧ b < B := by
  obtain ⟨b, o, e, hb, _⟩ := h 0 hl
  exact ⟨b, o, e, hb⟩
theorem take_snoc {α : Type} (l : List α) (k : Nat) (h : k < l.length) : l.take (k + 1) = l.take k ++ [l[k]] := by
  rw [List.take_succ_eq_append_getElem h]
/-- The cells cur begin with the timers m. -/
def CurIs (cur : Array Value) (m : List Timer) : Prop := ∀ i (_ : i < m.length), cur[i * 3]? = some (.int .u64 m[i].at_) ∧ cur[i * 3 + 1]? = some (.int .u64 m[i].seq) ∧ cur[i * 3 + 2]? = some (.int .i64 m[i].place)
def put3 (cur : Array Value) (j : Nat) (x : Timer) : Array Value := ((cur.setIfInBounds (j * 3) (.int .u64 x.at_)).setIfInBounds (j * 3 + 1) (.int .u64 x.seq)).setIfInBounds (j * 3 + 2) (.int .i64 x.place)
theorem CurIs.set {cur : Array Value} {m : List Timer} (h : CurIs cur m) (j : Nat) (x : Timer) : CurIs (put3 cur j x) (m.set j x) := by
  intro i hi
  simp only [List.length_set] at hi
  obtain ⟨c0, c1, c2⟩ := h i hi
  have hs : i * 3 + 2 < cur.size := by
    rcases Nat.lt_or_ge (i * 3 + 2) cur.size with hlt | hge
    · exact hlt
    · rw [Array.getElem?_eq_none hge] at c2; cases c2
  unfold put3
  by_cases hij : j = i
  · subst hij
    have e : (m.set j x)[j]'(by simpa using hi) = x := List.getElem_set_self _
    rw [e]
    simp only [Array.getElem?_setIfInBounds, Array.size_setIfInBounds]
    refine ⟨?_, ?_, ?_⟩ <;> (repeat' split) <;> (first | rfl | omega | simp_all)
  · rw [List.getElem_set_ne hij]
    simp only [Array.getElem?_setIfInBounds, Array.size_setIfInBounds]
    refine ⟨?_, ?_, ?_⟩ <;> (repeat' split) <;> (first | assumption | omega)
theorem CurIs.tms {w : World} {g : Nat} {t : TypeId} {cur : Array Value} {m : List Timer} (hb : Blk w g t cur) (h : CurIs cur m) : TmAt w w.heap.size (some ⟨g, 0, none⟩) m := by
  intro i hi
  obtain ⟨c0, c1, c2⟩ := h i hi
  refine ⟨g, 0, rfl, hb.lt, ?_, ?_, ?_⟩
  · rw [Nat.zero_add, hb.cell]; exact c0
  · rw [Nat.zero_add, hb.cell]; exact c1
  · rw [Nat.zero_add, hb.cell]; exact c2
theorem put3_blk {w : World} {g : Nat} {t : TypeId} {cur : Array Value} (h : Blk w g t cur) (j : Nat) (x : Timer) :
    Blk (((w.setCell ⟨g, j * 3, none⟩ (.int .u64 x.at_)).setCell ⟨g, j * 3 + 1, none⟩ (.int .u64 x.seq)).setCell ⟨g, j * 3 + 2, none⟩ (.int .i64 x.place)) g t (put3 cur j x) :=
  ((h.put _ _).put _ _).put _ _
theorem flat_idx : ∀ (m : List Timer) (i : Nat) (hi : i < m.length) (j : Nat), j < 3 → (m.flatMap Timer.cells)[i * 3 + j]? = m[i].cells[j]? := by
  intro m
  induction m with
  | nil => intro i hi; simp at hi
  | cons x m ih =>
    intro i hi j hj
    cases i with
    | zero =>
      have hx : x.cells.length = 3 := rfl
      simp only [List.flatMap_cons]
      rw [List.getElem?_append_left (by omega)]
      simp
    | succ i =>
      have hx : x.cells.length = 3 := rfl
      simp only [List.flatMap_cons, List.getElem_cons_succ]
      rw [List.getElem?_append_right (by omega), hx, ← ih i (by simpa using hi) j hj]
      congr 1
      omega
theorem flat_len (m : List Timer) : (m.flatMap Timer.cells).length = m.length * 3 := by
  induction m with
  | nil => rfl
  | cons x m ih => simp only [List.flatMap_cons, List.length_append, List.length_cons, ih]; have : x.cells.length = 3 := rfl; omega
theorem tm_cells {w : World} {B b o : Nat} {l : List Timer} (h : TmAt w B (some ⟨b, o, none⟩) l) : ∀ j u, (l.flatMap Timer.cells)[j]? = some u → w.cell? ((⟨b, o, none⟩ : Addr).add j) = some u := by
  intro j u hj
  have hjl : j < l.length * 3 := by
    rw [← flat_len]
    exact (List.getElem?_eq_some_iff.1 hj).1
  have hi : j / 3 < l.length := by omega
  obtain ⟨b', o', e, _, c0, c1, c2⟩ := h (j / 3) hi
  simp only [Option.some.injEq, Addr.mk.injEq, and_true] at e
  obtain ⟨rfl, rfl⟩ := e
  have ea : (⟨b, o, none⟩ : Addr).add j = ⟨b, o + j, none⟩ := by unfold Addr.add; split <;> simp_all
  rw [ea]
  have hr : j % 3 = 0 ∨ j % 3 = 1 ∨ j % 3 = 2 := by omega
  have hjj := flat_idx l (j / 3) hi (j % 3) (by omega)
  rw [show j / 3 * 3 + j % 3 = j from by omega, hj] at hjj
  rcases hr with hr | hr | hr
  · rw [hr] at hjj
    rw [show o + j = o + j / 3 * 3 from by omega, c0, hjj]; rfl
  · rw [hr] at hjj
    rw [show o + j = o + j / 3 * 3 + 1 from by omega, c1, hjj]; rfl
  · rw [hr] at hjj
    rw [show o + j = o + j / 3 * 3 + 2 from by omega, c2, hjj]; rfl
theorem own_cur {w : World} {base n : Nat} {v : Value} {l : List Timer} (h : w.ownsRow base 35 3 v n (l.flatMap Timer.cells)) (hn : n = l.length) (h0 : 0 < n) :
    ∃ g cap cur, v = .slice (some ⟨g, 0, none⟩) n cap ∧ Blk w g 35 cur ∧ CurIs cur l ∧ base ≤ g ∧ n ≤ cap := by
  rcases h.2 with ⟨rfl, hl⟩ | ⟨g, cap, cur, rfl, hg, hh, hc, hm, hs, ht⟩
  · omega
  · refine ⟨g, cap, cur, rfl, hh, ?_, hg, hc⟩
    intro i hi
    have hcell : ∀ (j : Nat) (u : Value), (l.flatMap Timer.cells)[j]? = some u → cur[j]? = some u := by
      intro j u hu
      rw [← ht, List.getElem?_take] at hu
      split at hu
      · simpa using hu
      · cases hu
    refine ⟨?_, ?_, ?_⟩
    · have := hcell (i * 3 + 0) _ (by rw [flat_idx l i hi 0 (by omega)]; rfl)
      simpa using this
    · exact hcell (i * 3 + 1) _ (by rw [flat_idx l i hi 1 (by omega)]; rfl)
    · exact hcell (i * 3 + 2) _ (by rw [flat_idx l i hi 2 (by omega)]; rfl)
theorem info_timer : (Try.prog.info? 35).map (fun i => (i.zero, i.size, i.bytes)) = some (some (.agg #[.int .u64 0, .int .u64 0, .int .i64 0]), 3, 24) := by kernel_rfl
/-- A row of the call's own that holds the timers l. -/
def OwnT (w : World) (base : Nat) (v : Value) (l : List Timer) : Prop := w.ownsRow base 35 3 v l.length (l.flatMap Timer.cells)
theorem OwnT.nil (w : World) (base : Nat) : OwnT w base (.slice none 0 0) [] := ⟨rfl, .inl ⟨rfl, rfl⟩⟩
theorem OwnT.at {w : World} {base : Nat} {v : Value} {l : List Timer} (h : OwnT w base v l) : ∃ A cap, v = .slice A l.length cap ∧ TmAt w w.heap.size A l ∧ l.length ≤ cap ∧ cap ≤ maxLen ∧ (∀ g, A.map (·.block) = some g → base ≤ g ∧ g < w.heap.size) := by
  by_cases h0 : 0 < l.length
  · obtain ⟨g, cap, cur, e, hb, hc, hg, hn⟩ := own_cur h rfl h0
    refine ⟨_, cap, e, hc.tms hb, hn, ?_, ?_⟩
    · subst e
      rcases h.2 with ⟨hv, _⟩ | ⟨g', cap', cur', hv, _, _, _, hm, _⟩
      · cases hv
      · injection hv with _ _ hv
        subst hv
        exact hm
    · intro g' hg'
      simp only [Option.map_some, Option.some.injEq] at hg'
      subst hg'
      exact ⟨hg, hb.lt⟩
  · have hl : l = [] := List.eq_nil_of_length_eq_zero (by omega)
    subst hl
    rcases h.2 with ⟨rfl, _⟩ | ⟨g, cap, cur, rfl, hg, hh, _, hm, _⟩
    · exact ⟨none, 0, rfl, TmAt.nil, Nat.zero_le _, by simp [maxLen], by simp⟩
    · refine ⟨_, cap, rfl, TmAt.nil, Nat.zero_le _, hm, ?_⟩
      intro g' hg'
      simp only [Option.map_some, Option.some.injEq] at hg'
      subst hg'
      exact ⟨hg, Blk.lt hh⟩
theorem OwnT.below {w w' : World} {B base : Nat} {v : Value} {l : List Timer} (h : OwnT w base v l) (hb : Below B w w') (hB : w.heap.size ≤ B) : OwnT w' base v l := own_below h hb hB
theorem OwnT.alloc {w : World} {base : Nat} {v : Value} {l : List Timer} (h : OwnT w base v l) (o : Obj) : OwnT (w.alloc o) base v l := World.ownsRow.alloc h o
theorem OwnT.mono {w : World} {base base' : Nat} {v : Value} {l : List Timer} (h : OwnT w base v l) (hb : base' ≤ base) : OwnT w base' v l :=
  ⟨h.1, h.2.imp id (fun ⟨g, cap, cur, h1, h2, h3⟩ => ⟨g, cap, cur, h1, by omega, h3⟩)⟩
/-- Two timers compared. -/
@[go_sem] theorem egT (op : BinOp) (x y : Operand) (xs ys : Array Value) (w : World) : (eqGuard op 35 x y (.agg xs) (.agg ys)).run Try.prog w = .ok () w :=
  run_eqGuard_agg w op 35 x y xs ys (by kernel_rfl)
theorem beq_tm (x y : Timer) : (x.at_ == y.at_ && (x.seq == y.seq && (x.place == y.place && true))) = decide (x = y) := by
  rw [Bool.eq_iff_iff, decide_eq_true_iff, Timer.eq_iff]
  simp
@[go_sem ↓] theorem eqlT (x y : Timer) (w : World) : (binOp .eql 35 (.agg #[.int .u64 x.at_, .int .u64 x.seq, .int .i64 x.place]) (.agg #[.int .u64 y.at_, .int .u64 y.seq, .int .i64 y.place])).run Try.prog w = .ok (.bool (decide (x = y))) w := by
  rw [← beq_tm]
  exact run_eql_scal 35 [_, _, _] [_, _, _] w (by kernel_rfl) (by kernel_rfl) (by kernel_rfl)
@[go_sem ↓] theorem neqT (x y : Timer) (w : World) : (binOp .neq 35 (.agg #[.int .u64 x.at_, .int .u64 x.seq, .int .i64 x.place]) (.agg #[.int .u64 y.at_, .int .u64 y.seq, .int .i64 y.place])).run Try.prog w = .ok (.bool (!decide (x = y))) w := by
  rw [← beq_tm]
  exact run_neq_scal 35 [_, _, _] [_, _, _] w (by kernel_rfl) (by kernel_rfl) (by kernel_rfl)
set_option maxRecDepth 100000 in
set_option maxHeartbeats 1000000 in
theorem same_any (A C : Option Addr) (l m : List Timer) (c d : Nat) (w : World) (h : TmAt w w.heap.size A l) (k : TmAt w w.heap.size C m) (hl : l.length ≤ 1000000) (hm : m.length ≤ 1000000) :
    Calls Try.prog 21 #[.slice A l.length c, .slice C m.length d] w fun e w' => e = .returned (.bool (decide (l = m))) ∧ Below w.heap.size w w' := by
  by_cases hlen : l.length = m.length
  · have hll : ((l.length : Int) != (m.length : Int)) = false := by simp [hlen]
    have HL := Lib.hid hlen
    clear hlen
    go_enter Try.func21, Try.ntmps21
    go_wp2
    go_loopw [5] (fun i wr => ∃ j : Nat, j ≤ l.length ∧ i = .int .i64 j ∧ l.take j = m.take j ∧ Below w.heap.size w wr) (fun i _ => l.length - (intOf i).toNat)
    case atStart => exact ⟨0, by omega, rfl, rfl, Below.refl _ _⟩
    case round =>
      obtain ⟨j, hj, rfl, ht, hb⟩ := hrel
      by_cases hlt : j < l.length
      · obtain ⟨b1, o1, rfl, hb1, c1, c1', c1''⟩ := (h.below hb (Nat.le_refl _)) j hlt
        obtain ⟨b2, o2, rfl, hb2, c2, c2', c2''⟩ := (k.below hb (Nat.le_refl _)) j (by have := HL.out; omega)
        have hjm : j < m.length := by have := HL.out; omega
        have HT := Lib.hid ht
        clear ht
        by_cases he : l[j] = m[j]'(by have := HL.out; omega)
        · have HT2 : Hid (l.take (j + 1) = m.take (j + 1)) := Lib.hid (by rw [List.take_succ_eq_append_getElem hlt, List.take_succ_eq_append_getElem (by have := HL.out; omega : j < m.length), HT.out, he])
          have he2 : decide (l[j] = m[j]'(by have := HL.out; omega)) = true := by simp [he]
          generalize l[j] = x at *
          generalize m[j]'_ = y at *
          clear he
          go_wp2
          refine still_all (by kernel_rfl) (by kernel_rfl) ?_
          repeat still_step
          refine wpStill_nil ?_
          go_wp2
          go_roundw
          case rel => exact ⟨j + 1, by omega, by go_num, HT2.out, hb.drew⟩
          case measure => simp [intOf]; omega
        · have hne : l ≠ m := fun e => he (by subst e; rfl)
          have he2 : decide (l[j] = m[j]'(by have := HL.out; omega)) = false := by simp [he]
          generalize l[j] = x at *
          generalize m[j]'_ = y at *
          clear he
          go_wp2
          refine still_all (by kernel_rfl) (by kernel_rfl) ?_
          repeat still_step
          refine wpStill_nil ?_
          go_wp2
          go_ret
          exact ⟨ret_bool (decide_eq_false hne).symm, hb.drew⟩
      · have : l = m := by have := HL.out; rw [List.take_of_length_le (by omega), List.take_of_length_le (by omega)] at ht; exact ht
        have HT := Lib.hid this
        clear ht this
        go_wp2
        go_ret
        exact ⟨ret_bool (decide_eq_true HT.out).symm, hb⟩
  · have hll : ((l.length : Int) != (m.length : Int)) = true := by simp; omega
    have hne : l ≠ m := fun e => hlen (by rw [e])
    go_enter Try.func21, Try.ntmps21
    go_wp2
    go_ret
    exact ⟨ret_bool (decide_eq_false hne).symm, Below.refl _ _⟩
end Go.Proofs.Ytpbepmipfjcjbaa
namespace Go.Proofs.Ytpbepmipfjcjbaa
open Go.RowKit
def nBefore (l : List Timer) (t : Timer) : Nat := l.countP fun x => x.lt t
def putL (l : List Timer) (t : Timer) : List Timer := l.take (nBefore l t) ++ [t] ++ l.drop (nBefore l t)
def dueL (l : List Timer) (now : Int) (due : Bool) : List Timer := l.filter fun x => decide (x.at_ ≤ now) == due
theorem nBefore_le (l : List Timer) (t : Timer) : nBefore l t ≤ l.length := List.countP_le_length
theorem nBefore_snoc (l : List Timer) (x t : Timer) : nBefore (l ++ [x]) t = nBefore l t + if x.lt t then 1 else 0 := by simp [nBefore, List.countP_cons]
theorem cells_one (x : Timer) : [x].flatMap Timer.cells = x.cells := by simp
theorem one_cell (l : List Timer) : ∀ v ∈ l.flatMap Timer.cells, v.oneCell' = true := by
  intro v hv
  obtain ⟨y, _, hy⟩ := List.mem_flatMap.1 hv
  simp only [Timer.cells, List.mem_cons, List.not_mem_nil, or_false] at hy
  rcases hy with rfl | rfl | rfl <;> rfl
theorem tm_src {w : World} {B : Nat} {A : Option Addr} {b o : Nat} {l : List Timer} (h : TmAt w B A l) (hA : A = some ⟨b, o, none⟩) : ∀ j u, (l.flatMap Timer.cells)[j]? = some u → w.cell? ((⟨b, o, none⟩ : Addr).add j) = some u := by
  subst hA
  exact tm_cells h
set_option maxRecDepth 100000 in
set_option maxHeartbeats 1000000 in
theorem find_any (A : Option Addr) (l : List Timer) (c : Nat) (t : Timer) (w : World) (h : TmAt w w.heap.size A l) (hl : l.length ≤ 1000000) :
    Calls Try.prog 52 #[.slice A l.length c, t.val] w fun e w' => e = .returned (.int .i64 (nBefore l t)) ∧ Below w.heap.size w w' := by
  unfold Timer.val
  go_enter Try.func52, Try.ntmps52
  go_wp2
  have hT0 : Blk (w.alloc (.cells #[.int .u64 t.at_, .int .u64 t.seq, .int .i64 t.place] 35)) w.heap.size 35 #[.int .u64 t.at_, .int .u64 t.seq, .int .i64 t.place] := Blk.new _ _ _
  go_loopw [5, 6] (fun n i wr => ∃ k : Nat, k ≤ l.length ∧ i = .int .i64 k ∧ n = .int .i64 (nBefore (l.take k) t) ∧ Blk wr w.heap.size 35 #[.int .u64 t.at_, .int .u64 t.seq, .int .i64 t.place] ∧ Below w.heap.size w wr) (fun _ i _ => l.length - (intOf i).toNat)
  case atStart => exact ⟨0, Nat.zero_le _, rfl, rfl, hT0, (Below.refl _ _).alloc (Nat.le_refl _) _⟩
  case round =>
    obtain ⟨k, hk, rfl, rfl, hT, hb⟩ := hrel
    clear hT0
    have hTc := hT.cell
    by_cases hlt : k < l.length
    · obtain ⟨b, o, rfl, hbb, c0, c1, c2⟩ := (h.below hb (Nat.le_refl _)) k hlt
      have hbw : b < wr.heap.size := Nat.lt_of_lt_of_le hbb hb.size
      have HS := Lib.hid (show nBefore (l.take (k + 1)) t = _ from by rw [take_snoc l k hlt, nBefore_snoc])
      have hn := nBefore_le (l.take k) t
      have hn2 : (l.take k).length ≤ 1000000 := by simp; omega
      generalize nBefore (l.take k) t = n at *
      generalize l[k] = x at *
      go_wp2
      refine still_tail 5 (by kernel_rfl) (by kernel_rfl) ?_
      simp only [List.take_succ_cons, List.take_zero, List.drop_succ_cons, List.drop_zero]
      repeat still_step
      refine wpStill_nil ?_
      go_wp2_with fail
      have hbd := before_any x t wr.drew
      unfold Timer.val at hbd
      refine hbd.mono ?_
      rintro e w2 ⟨rfl, hx⟩
      have hT2 : Blk w2 w.heap.size 35 #[.int .u64 t.at_, .int .u64 t.seq, .int .i64 t.place] := hT.drew.below hx hT.lt
      have hb2 : Below w.heap.size w w2 := hb.drew.trans (Below.mono hx hb.size)
      clear hx hT hTc c0 c1 c2 hb hbd
      cases hxt : x.lt t
      · rw [hxt] at HS
        clear hxt
        go_wp2_with fail
        go_roundw
        case rel => exact ⟨k + 1, by omega, by go_num, by rw [HS.out]; simp, hT2, hb2⟩
        case measure => simp [intOf]; omega
      · rw [hxt] at HS
        clear hxt
        go_wp2_with fail
        go_roundw
        case rel => exact ⟨k + 1, by omega, by go_num, by rw [HS.out]; go_num, hT2, hb2⟩
        case measure => simp [intOf]; omega
    · have ht : l.take k = l := List.take_of_length_le (by omega)
      rw [ht]
      clear ht
      go_wp2
      go_ret
      exact ⟨rfl, hb⟩

set_option maxRecDepth 100000 in
set_option maxHeartbeats 2000000 in
theorem due_any (A : Option Addr) (l : List Timer) (c : Nat) (now : Int) (due : Bool) (w : World) (h : TmAt w w.heap.size A l) (hl : l.length ≤ 1000000) :
    Calls Try.prog 51 #[.slice A l.length c, .int .u64 now, .bool due] w fun e w' => ∃ v, e = .returned v ∧ OwnT w' w.heap.size v (dueL l now due) ∧ Below w.heap.size w w' := by
  obtain ⟨i0, hi, hz0, hz1, hz2⟩ := info_parts info_timer
  go_enter Try.func51, Try.ntmps51
  go_wp2
  go_loopw [7, 8] (fun v i wr => ∃ k : Nat, k ≤ l.length ∧ i = .int .i64 k ∧ OwnT wr w.heap.size v (dueL (l.take k) now due) ∧ Below w.heap.size w wr) (fun _ i _ => l.length - (intOf i).toNat)
  case atStart => exact ⟨0, Nat.zero_le _, rfl, OwnT.nil _ _, Below.refl _ _⟩
  case round =>
    obtain ⟨k, hk, rfl, hown, hb⟩ := hrel
    by_cases hlt : k < l.length
    · obtain ⟨b, o, rfl, hbb, c0, c1, c2⟩ := (h.below hb (Nat.le_refl _)) k hlt
      have hbw : b < wr.heap.size := Nat.lt_of_lt_of_le hbb hb.size
      have hdl : (dueL (l.take k) now due).length ≤ 1000000 := Nat.le_trans (List.length_filter_le _ _) (by simp; omega)
      have HS := Lib.hid (show dueL (l.take (k + 1)) now due = dueL (l.take k) now due ++ if decide (l[k].at_ ≤ now) == due then [l[k]] else [] from by rw [take_snoc l k hlt]; simp only [dueL, List.filter_append, List.filter_cons, List.filter_nil])
      generalize dueL (l.take k) now due = d at *
      generalize l[k] = x at *
      cases hd : decide (x.at_ ≤ now) == due
      · rw [hd] at HS
        go_wp2
        go_roundw
        case rel => exact ⟨k + 1, by omega, by go_num, by have := HS.out; simp at this; rw [this]; exact hown, hb⟩
        case measure => simp [intOf]; omega
      · rw [hd] at HS
        have hwl := hb.size
        go_wp2_with (at_builtin; refine wpList_append_own _ rfl _ _ 28 rfl w.heap.size 35 i0 (.agg #[.int .u64 0, .int .u64 0, .int .i64 0]) 3 24 Try.underlying28 hi hz0 hz1 hz2 rfl (by decide) _ _ _ rfl (hown.alloc _) ⟨wr.heap.size, 0, none⟩ 1 1 x.cells rfl ?c0 ?c1 ?c2 ?c3 ?c4 ?c5 ?_)
        case c0 => rfl
        case c1 => first | exact cells_new _ _ x.cells | exact fun _ _ h => h
        case c2 => intro v hv; exact one_cell [x] v (by rw [cells_one]; exact hv)
        case c3 => unfold maxLen; omega
        case c4 => omega
        case c5 => first | omega | (simp; omega)
        intro v2 w2 hown2 hgr2 _
        have hb2 := below_app hb hown hgr2 hb.size (Nat.le_refl _)
        have hown3 : OwnT w2 w.heap.size v2 (dueL (l.take (k + 1)) now due) := by
          have := HS.out
          simp only [if_pos] at this
          unfold OwnT
          rw [this]
          simpa using hown2
        clear hgr2 hown hown2 hb c0 c1 c2 hd
        go_wp2
        go_roundw
        case rel => exact ⟨k + 1, by omega, by go_num, hown3, hb2⟩
        case measure => simp [intOf]; omega
    · have ht : l.take k = l := List.take_of_length_le (by omega)
      rw [ht] at hown
      clear ht
      go_wp2
      go_ret
      exact ⟨_, rfl, hown, hb⟩
end Go.Proofs.Ytpbepmipfjcjbaa
namespace Go.Proofs.Ytpbepmipfjcjbaa
open Go.RowKit
section
variable {P : Program} {ops : Array Oper} {Q : Exit → Act → World → Prop} {F : Nat → Value → World → Prop} {S : World → Prop} {R : World → World → Prop} {al : Nat → Bool} {D : List Nat} {fr : Array Value} {df : List Deferred}
/-- A call of a named function, of whatever values of the operands. -/
theorem execOp_call_fn (ρ : Operand → Value) (dst : Option Tmp) (f : FuncId) (xs : Array Operand) (ats : Array TypeId) (ty : TypeId) (pos : String) (after : Array Edge) (guard : Option (Nat × Bool)) (h : ρ (.func f) = .func (.func f) #[] #[]) :
    execOp ρ { dst, op := .call { callee := .value (.func f), args := xs, argTypes := ats }, type := ty, pos, after, guard } = callFunc f (xs.map ρ) := by
  have e : execOp ρ { dst, op := .call { callee := .value (.func f), args := xs, argTypes := ats }, type := ty, pos, after, guard } = callVal (ρ (.func f)) (xs.map ρ) := rfl
  rw [e, h, callVal_fn]
  simp
/-- The block that a value points into. -/
def blkOf : Value → Option Nat
  | .pointer (some p) => some p.block
  | .slice (some p) _ _ => some p.block
  | _ => none
/-- What operation number i must do, run from w. -/
def Good (P : Program) (F : Nat → Value → World → Prop) (R : World → World → Prop) (i : Nat) (w : World) : Result Next → Prop
  | .ok (.value v) w' => F i v w' ∧ R w w'
  | .ok .skip w' => F i undef w' ∧ R w w'
  | .ok (.enter f args) w' => Calls P f args w' fun e w'' => ∃ v, e = .returned v ∧ F i v w'' ∧ R w w''
  | _ => False
/-- The same; and where 'al i' it makes a block, and yields a way to it. -/
def GoodA (P : Program) (F : Nat → Value → World → Prop) (R : World → World → Prop) (al : Nat → Bool) (i : Nat) (w : World) (r : Result Next) : Prop :=
  Good P F R i w r ∧ (al i = true → ∃ v w', r = .ok (.value v) w' ∧ blkOf v = some w.heap.size ∧ w.heap.size < w'.heap.size)
/-- The facts of those that an operation waits for. -/
def DepF (F : Nat → Value → World → Prop) (D : List Nat) (ρ : Operand → Value) (w : World) : List Edge → Prop
  | [] => True
  | e :: l => (Region.binds .any e = true → F e.on (ρ (.tmp (D.getD e.on 0))) w) ∧ DepF F D ρ w l
def GuardOk (F : Nat → Value → World → Prop) (o : Oper) : Prop :=
  match o.guard with
  | none => True
  | some (j, b) => (o.after.toList.any fun e => Region.binds .any e && e.on == j) = true ∧ ∀ v w, F j v w → v = .bool b
structure Rho (ρ : Operand → Value) (D : List Nat) (fr : Array Value) : Prop where
  con : ∀ v, ρ (.const v) = v
  fn : ∀ f, ρ (.func f) = .func (.func f) #[] #[]
  glob : ∀ g, ρ (.global g) = .pointer (some ⟨g, 0, none⟩)
  slot : ∀ k, D.contains k = false → ρ (.tmp k) = fr.getD k undef
def ObA (P : Program) (F : Nat → Value → World → Prop) (S : World → Prop) (R : World → World → Prop) (al : Nat → Bool) (D : List Nat) (fr : Array Value) (i : Nat) (o : Oper) : Prop :=
  GuardOk F o ∧ ∀ (ρ : Operand → Value) (w : World), Rho ρ D fr → DepF F D ρ w o.after.toList → S w → GoodA P F R al i w ((execOp ρ o).run P w)
def AllObA (P : Program) (F : Nat → Value → World → Prop) (S : World → Prop) (R : World → World → Prop) (al : Nat → Bool) (D : List Nat) (fr : Array Value) : Nat → List Oper → Prop
  | _, [] => True
  | i, o :: l => ObA P F S R al D fr i o ∧ AllObA P F S R al D fr (i + 1) l
def Ob (P : Program) (F : Nat → Value → World → Prop) (S : World → Prop) (R : World → World → Prop) (D : List Nat) (fr : Array Value) (i : Nat) (o : Oper) : Prop :=
  GuardOk F o ∧ ∀ (ρ : Operand → Value) (w : World), Rho ρ D fr → DepF F D ρ w o.after.toList → S w → Good P F R i w ((execOp ρ o).run P w)
def AllOb (P : Program) (F : Nat → Value → World → Prop) (S : World → Prop) (R : World → World → Prop) (D : List Nat) (fr : Array Value) : Nat → List Oper → Prop
  | _, [] => True
  | i, o :: l => Ob P F S R D fr i o ∧ AllOb P F S R D fr (i + 1) l
theorem AllOb.plain : ∀ {l : List Oper} {i : Nat}, AllOb P F S R D fr i l → AllObA P F S R (fun _ => false) D fr i l
  | [], _, _ => trivial
  | _ :: _, _, h => ⟨⟨h.1.1, fun ρ w a b c => ⟨h.1.2 ρ w a b c, nofun⟩⟩, AllOb.plain h.2⟩
theorem AllObA.get : ∀ {l : List Oper} {i : Nat}, AllObA P F S R al D fr i l → ∀ j o, l[j]? = some o → ObA P F S R al D fr (i + j) o
  | [], _, _, j, o, ho => by simp at ho
  | x :: l, i, h, 0, o, ho => by
    simp only [List.getElem?_cons_zero, Option.some.injEq] at ho
    subst ho
    exact h.1
  | x :: l, i, h, j + 1, o, ho => by
    have := AllObA.get h.2 j o (by simpa using ho)
    rw [show i + (j + 1) = i + 1 + j by omega]
    exact this
structure HeldF (F : Nat → Value → World → Prop) (S : World → Prop) (al : Nat → Bool) (D : List Nat) (fr : Array Value) (df : List Deferred) (listed : Array Bool) (a : Act) (w : World) : Prop where
  s : S w
  size : a.tmps.size = fr.size
  defers : a.defers = df
  frame : ∀ k, k ∉ D → a.tmps.getD k undef = fr.getD k undef
  facts : ∀ j, listed.getD j false = true → F j (a.tmps.getD (D.getD j 0) undef) w
  own : ∀ j, listed.getD j false = true → al j = true → ∃ g, blkOf (a.tmps.getD (D.getD j 0) undef) = some g ∧ g < w.heap.size
  dist : ∀ j k, j ≠ k → listed.getD j false = true → listed.getD k false = true → al j = true → al k = true → blkOf (a.tmps.getD (D.getD j 0) undef) ≠ blkOf (a.tmps.getD (D.getD k 0) undef)
def setAll : Array Value → Nat → List Nat → (Nat → Value) → Array Value
  | fr, _, [], _ => fr
  | fr, j, d :: l, vs => setAll (fr.setIfInBounds d (vs j)) (j + 1) l vs
theorem setAll_size : ∀ (l : List Nat) (fr : Array Value) (j : Nat) (vs : Nat → Value), (setAll fr j l vs).size = fr.size
  | [], _, _, _ => rfl
  | d :: l, fr, j, vs => by simp [setAll, setAll_size l]
theorem setAll_out : ∀ (l : List Nat) (fr : Array Value) (j : Nat) (vs : Nat → Value) (k : Nat), k ∉ l → (setAll fr j l vs).getD k undef = fr.getD k undef
  | [], _, _, _, _, _ => rfl
  | d :: l, fr, j, vs, k, h => by
    simp only [List.mem_cons, not_or] at h
    rw [setAll, setAll_out l _ _ _ _ h.2]
    simp [Array.getElem?_setIfInBounds_ne (Ne.symm h.1)]
theorem setAll_in : ∀ (l : List Nat) (fr : Array Value) (j : Nat) (vs : Nat → Value) (i k : Nat), l.Nodup → l[i]? = some k → k < fr.size → (setAll fr j l vs).getD k undef = vs (j + i)
  | [], _, _, _, i, k, _, h, _ => by simp at h
  | d :: l, fr, j, vs, 0, k, hn, h, hk => by
    simp only [List.getElem?_cons_zero, Option.some.injEq] at h
    subst h
    rw [setAll, setAll_out l _ _ _ _ (List.nodup_cons.1 hn).1]
    simp [hk]
  | d :: l, fr, j, vs, i + 1, k, hn, h, hk => by
    rw [setAll, setAll_in l _ (j + 1) vs i k (List.nodup_cons.1 hn).2 (by simpa using h) (by simpa using hk)]
    congr 1
    omega
def topoB (ops : Array Oper) : Bool := (List.range ops.size).all fun i => ((ops[i]?).map fun o => o.after.toList.all fun e => !Region.binds .any e || decide (e.on < i)).getD true
theorem topo_spec (h : topoB ops = true) (i : Nat) (o : Oper) (ho : ops[i]? = some o) : ∀ e ∈ o.after, Region.binds .any e = true → e.on < i := by
  intro e he hbd
  unfold topoB at h
  rw [List.all_eq_true] at h
  have hi : i < ops.size := (Array.getElem?_eq_some_iff.1 ho).1
  have := h i (List.mem_range.2 hi)
  rw [ho] at this
  simp only [Option.map_some, Option.getD_some, List.all_eq_true] at this
  have h2 := this e (Array.mem_toList_iff.2 he)
  rw [hbd] at h2
  simpa using h2
theorem ready_nil (ht : topoB ops = true) {listed : Array Bool} (hs : listed.size = ops.size) (h : Region.ready .any ops listed = []) : ∀ j, j < ops.size → listed.getD j false = true := by
  intro j
  induction j using Nat.strongRecOn with
  | ind j ih =>
    intro hj
    cases hl : listed.getD j false with
    | true => rfl
    | false =>
      exfalso
      have hm : j ∈ Region.ready .any ops listed := by
        rw [mem_ready]
        refine ⟨?_, ops[j], by simp [hj], ?_⟩
        · simpa [hs ▸ hj, hs, hj] using hl
        · intro e he hbd
          have := topo_spec ht j ops[j] (by simp [hj]) e he hbd
          exact ih e.on this (by omega)
      rw [h] at hm
      cases hm
/-- What has come up has come up behind all that it waits for. -/
def Closed (ops : Array Oper) (listed : Array Bool) : Prop := ∀ j o, ops[j]? = some o → listed.getD j false = true → ∀ e ∈ o.after, Region.binds .any e = true → listed.getD e.on false = true
theorem Closed.waits {listed : Array Bool} (h : Closed ops listed) {t i : Nat} (ht : listed.getD t false = true) (hw : Region.waitsFor .any ops t i = true) : listed.getD i false = true := by
  obtain ⟨oj, hoj, e, he, hb, rfl⟩ := Region.waitsFor_spec hw
  exact h t oj hoj ht e he hb
/-- t waits for i, by f + 1 steps at most. -/
def reachB (ops : Array Oper) (n : Nat) : Nat → Nat → Nat → Bool
  | 0, t, i => Region.waitsFor .any ops t i
  | f + 1, t, i => Region.waitsFor .any ops t i || (List.range n).any fun k => Region.waitsFor .any ops t k && reachB ops n f k i
theorem Closed.reach {listed : Array Bool} (h : Closed ops listed) {n : Nat} : ∀ (f t i : Nat), listed.getD t false = true → reachB ops n f t i = true → listed.getD i false = true
  | 0, _, _, ht, hr => h.waits ht hr
  | f + 1, t, i, ht, hr => by
    unfold reachB at hr
    rw [Bool.or_eq_true] at hr
    rcases hr with hr | hr
    · exact h.waits ht hr
    · rw [List.any_eq_true] at hr
      obtain ⟨k, _, hk⟩ := hr
      rw [Bool.and_eq_true] at hk
      exact Closed.reach h f k i (h.waits ht hk.1) hk.2
/-- Each of the operations from number n on waits for each ahead of n, by five steps at most. -/
def tailB (ops : Array Oper) (n : Nat) (fl : Nat → Bool) : Bool := (List.range ops.size).all fun t => decide (t < n) || (List.range n).all fun i => fl i || reachB ops n 4 t i
theorem tailB_spec {n : Nat} {fl : Nat → Bool} (h : tailB ops n fl = true) {listed : Array Bool} (hc : Closed ops listed) {t i : Nat} (ht : t ∈ Region.ready .any ops listed) (hn : n ≤ t) (hi : i < n) (hfl : fl i = false) : listed.getD i false = true := by
  obtain ⟨_, o, ho, hdep⟩ := mem_ready.1 ht
  have hts : t < ops.size := (Array.getElem?_eq_some_iff.1 ho).1
  have one : ∀ k, Region.waitsFor .any ops t k = true → listed.getD k false = true := by
    intro k hk
    obtain ⟨oj, hoj, e, he, hb, rfl⟩ := Region.waitsFor_spec hk
    rw [ho] at hoj
    injection hoj with hoj
    subst hoj
    exact hdep e he hb
  unfold tailB at h
  rw [List.all_eq_true] at h
  have h1 := h t (List.mem_range.2 hts)
  rw [Bool.or_eq_true, decide_eq_true_iff] at h1
  rcases h1 with h1 | h1
  · omega
  · rw [List.all_eq_true] at h1
    have h2 := h1 i (List.mem_range.2 hi)
    rw [hfl, Bool.false_or] at h2
    unfold reachB at h2
    rw [Bool.or_eq_true] at h2
    rcases h2 with h2 | h2
    · exact one i h2
    · rw [List.any_eq_true] at h2
      obtain ⟨k, _, hk⟩ := h2
      rw [Bool.and_eq_true] at hk
      exact hc.reach _ k i (one k hk.1) hk.2
def headL (n m : Nat) : Array Bool := (List.replicate n true ++ List.replicate m false).toArray
theorem facts_any {n : Nat} {fl : Nat → Bool} (hnn : n ≤ ops.size) (hD : (ops.toList.take n).map (·.dst) = D.map some) (hn : D.Nodup) (hlt : ∀ d ∈ D, d < fr.size) (ht : topoB ops = true) (htl : tailB ops n fl = true) (hsq : Region.seqB .any ops (ops.size - n) n (headL n (ops.size - n)) = true)
    (hF : ∀ j v w w', F j v w → R w w' → F j v w') (hS : ∀ w w', S w → R w w' → S w') (hR : ∀ w w', R w w' → w.heap.size ≤ w'.heap.size) (ob : AllObA P F S R al D fr 0 (ops.toList.take n))
    (fin : ∀ a w, HeldF F S al D fr df (Array.replicate n true) a w → wpList P ops Q (ops.toList.drop n) a w) :
    ∀ (fuel : Nat) (listed : Array Bool) (a : Act) (w : World), listed.size = ops.size → Closed ops listed → (∀ j, fl j = true → listed.getD j false = true) → (∀ j, n ≤ j → listed.getD j false = false) → (listed.toList.take n).count false = fuel → HeldF F S al D fr df listed a w → wpAny P .any ops Q (fuel + (ops.size - n)) listed a w := by
  have hlen : D.length = n := by
    have := congrArg List.length hD
    rw [List.length_map, List.length_map, List.length_take] at this
    simp at this
    omega
  have dstOf : ∀ (i : Nat) (o : Oper), i < n → ops[i]? = some o → ∃ d, o.dst = some d ∧ D[i]? = some d := by
    intro i o hi ho
    have h1 : ((ops.toList.take n).map (·.dst))[i]? = some o.dst := by simp [ho, hi]
    rw [hD] at h1
    simp only [List.getElem?_map, Option.map_eq_some_iff] at h1
    obtain ⟨d, h2, h3⟩ := h1
    exact ⟨d, h3.symm, h2⟩
  intro fuel
  induction fuel with
  | zero =>
    intro listed a w hs hcl hfl htail hc h
    have hall : ∀ j, j < n → listed.getD j false = true := by
      intro j hj
      have hj' : j < listed.size := by omega
      have hm : listed[j] ∈ listed.toList.take n := by
        rw [List.mem_iff_getElem?]
        exact ⟨j, by rw [List.getElem?_take, if_pos hj]; simp [hj']⟩
      cases hb : listed[j] with
      | true => simp [hj', hb]
      | false =>
        rw [hb] at hm
        exact absurd hm (List.count_eq_zero.1 hc)
    have hlist : listed = headL n (ops.size - n) := by
      refine Array.ext (by simp [headL]; omega) ?_
      intro j h1 h2
      by_cases hj : j < n
      · have := hall j hj
        have e2 : (headL n (ops.size - n))[j] = true := by simp [headL, hj]
        rw [e2]
        simpa [h1] using this
      · have := htail j (by omega)
        have e2 : (headL n (ops.size - n))[j] = false := by simp [headL, List.getElem_append, hj]
        rw [e2]
        simpa [h1] using this
    rw [Nat.zero_add]
    have hl : (ops.toList.drop n).length = ops.size - n := by simp
    rw [← hl]
    have hup : ∀ j, (Array.replicate n true).getD j false = true → listed.getD j false = true := by
      intro j hj
      by_cases hj' : j < n
      · exact hall j hj'
      · simp [hj'] at hj
    refine wpAny_of_seq (ops.toList.drop n) n listed a w (fun j => by simp [List.getElem?_drop]) ?_ (fin a w ⟨h.s, h.size, h.defers, h.frame, fun j hj => h.facts j (hup j hj), fun j hj => h.own j (hup j hj), fun j k hjk hj hk => h.dist j k hjk (hup j hj) (hup k hk)⟩)
    rw [hl, hlist]
    exact hsq
  | succ fuel ih =>
    intro listed a w hs hcl hfl htail hc h
    obtain ⟨j0, hj0, hun0⟩ : ∃ j, j < n ∧ listed.getD j false = false := by
      have : false ∈ listed.toList.take n := by
        rw [← List.count_pos_iff, hc]
        omega
      obtain ⟨j, hj⟩ := List.mem_iff_getElem?.1 this
      rw [List.getElem?_take] at hj
      split at hj
      · rename_i hjn
        refine ⟨j, hjn, ?_⟩
        rw [Array.getElem?_toList] at hj
        simp [hj]
      · cases hj
    rw [show fuel + 1 + (ops.size - n) = (fuel + (ops.size - n)) + 1 by omega]
    refine ⟨fun hr => ?_, fun i hi => ?_⟩
    · have := ready_nil ht hs hr j0 (by omega)
      rw [this] at hun0
      cases hun0
    have hin : i < n := by
      rcases Nat.lt_or_ge i n with hlt | hge
      · exact hlt
      · have hj0f : fl j0 = false := by
          cases hb : fl j0 with
          | false => rfl
          | true =>
            rw [hfl j0 hb] at hun0
            cases hun0
        have := tailB_spec htl hcl hi hge hj0 hj0f
        rw [this] at hun0
        cases hun0
    obtain ⟨hun, o, ho, hdep⟩ := mem_ready.1 hi
    have hio : i < ops.size := (Array.getElem?_eq_some_iff.1 ho).1
    have hil : i < listed.size := by omega
    obtain ⟨d, hd, hDi⟩ := dstOf i o hin ho
    have hdD : D.getD i 0 = d := by simp [hDi]
    have hdlt : d < fr.size := hlt d (List.mem_of_getElem? hDi)
    obtain ⟨hg, hob⟩ := ob.get i o (by simp [hin, ho])
    rw [Nat.zero_add] at hob
    have hdeps : ∀ e ∈ o.after.toList, Region.binds .any e = true → F e.on (a.eval (.tmp (D.getD e.on 0))) w := fun e he hb => h.facts e.on (hdep e (Array.mem_toList_iff.1 he) hb)
    have hDep : ∀ l : List Edge, (∀ e ∈ l, Region.binds .any e = true → F e.on (a.eval (.tmp (D.getD e.on 0))) w) → DepF F D a.eval w l := by
      intro l
      induction l with
      | nil => intro _; trivial
      | cons e l ihl => intro hl; exact ⟨hl e (by simp), ihl fun e' he' => hl e' (by simp [he'])⟩
    have hgood := hob a.eval w ⟨fun _ => rfl, fun _ => rfl, fun _ => rfl, fun k hk => h.frame k (by simpa using hk)⟩ (hDep _ hdeps) h.s
    obtain ⟨hgood, hal⟩ := hgood
    have hw : Region.wanted o (yielded ops a.tmps) = true := by
      unfold GuardOk at hg
      unfold Region.wanted
      split
      · rfl
      · rename_i j b hgd
        rw [hgd] at hg
        obtain ⟨hany, hval⟩ := hg
        rw [List.any_eq_true] at hany
        obtain ⟨e, he, hb⟩ := hany
        simp only [Bool.and_eq_true, beq_iff_eq] at hb
        obtain ⟨hb1, rfl⟩ := hb
        have hv := hval _ _ (hdeps e he hb1)
        have hj : e.on < ops.size := Nat.lt_trans (topo_spec ht i o ho e (Array.mem_toList_iff.1 he) hb1) hio
        obtain ⟨d', hd', hD'⟩ := dstOf e.on ops[e.on] (Nat.lt_trans (topo_spec ht i o ho e (Array.mem_toList_iff.1 he) hb1) hin) (by simp [hj])
        have hlt' : d' < a.tmps.size := by rw [h.size]; exact hlt d' (List.mem_of_getElem? hD')
        have hval2 : a.tmps[d']? = some (.bool b) := by
          have : a.tmps.getD d' undef = .bool b := by simpa [Act.eval, hD'] using hv
          simpa [hlt'] using this
        simp [yielded, hj, hd', hval2]
    have hcl' : Closed ops (listed.setIfInBounds i true) := by
      intro j oj hj hl e he hb
      by_cases hij : i = j
      · subst hij
        rw [ho] at hj
        injection hj with hj
        subst hj
        exact getD_set_true (hdep e he hb)
      · rw [getD_set_ne false hij] at hl
        exact getD_set_true (hcl j oj hj hl e he hb)
    have step : ∀ v w', F i v w' → R w w' → (al i = true → blkOf v = some w.heap.size ∧ w.heap.size < w'.heap.size) → wpAny P .any ops Q (fuel + (ops.size - n)) (listed.setIfInBounds i true) (a.put o.dst v) w' := by
      intro v w' hFv hRw hfresh
      rw [hd]
      have hsz := hR _ _ hRw
      have vi : (a.put (some d) v).tmps.getD (D.getD i 0) undef = v := by
        rw [hdD]
        simp [Act.put, h.size, hdlt]
      have vj : ∀ j, j ≠ i → (listed.setIfInBounds i true).getD j false = true → listed.getD j false = true ∧ (a.put (some d) v).tmps.getD (D.getD j 0) undef = a.tmps.getD (D.getD j 0) undef := by
        intro j hji hj
        rw [getD_set_ne false (Ne.symm hji)] at hj
        have hjn : j < n := by
          rcases Nat.lt_or_ge j n with hlt | hge
          · exact hlt
          · rw [htail j hge] at hj
            cases hj
        have hDj : D[j]? = some (D.getD j 0) := by simp [hlen, hjn]
        have hne : d ≠ D.getD j 0 := by
          intro he
          have h1 : D[i]? = D[j]? := by rw [hDi, hDj, he]
          exact hji ((List.getElem?_inj (by omega) hn).1 h1).symm
        refine ⟨hj, ?_⟩
        rw [Array.getD_eq_getD_getElem?, Array.getD_eq_getD_getElem?, Act.put, Array.getElem?_setIfInBounds_ne hne]
      refine ih _ _ _ (by simpa using hs) hcl' (fun j hj => getD_set_true (hfl j hj)) (fun j hj => by rw [getD_set_ne false (by omega)]; exact htail j hj) ?_ ⟨hS _ _ h.s hRw, by simpa [Act.put] using h.size, h.defers, ?_, ?_, ?_, ?_⟩
      · have hb : listed[i] = false := by simpa [hil] using hun
        rw [Array.toList_setIfInBounds, List.take_set, List.count_set (by simp; omega)]
        simp [hb, hc]
      · intro k hk
        have hkd : d ≠ k := by
          rintro rfl
          exact hk (List.mem_of_getElem? hDi)
        simpa [Act.put, Array.getElem?_setIfInBounds_ne hkd] using h.frame k hk
      · intro j hj
        by_cases hji : j = i
        · subst hji
          rw [vi]
          exact hFv
        · obtain ⟨h1, h2⟩ := vj j hji hj
          rw [h2]
          exact hF j _ _ _ (h.facts j h1) hRw
      · intro j hj ha
        by_cases hji : j = i
        · subst hji
          rw [vi]
          exact ⟨_, hfresh ha⟩
        · obtain ⟨h1, h2⟩ := vj j hji hj
          rw [h2]
          obtain ⟨g, h3, h4⟩ := h.own j h1 ha
          exact ⟨g, h3, by omega⟩
      · intro j k hjk hj hk haj hak
        by_cases hji : j = i
        · subst hji
          obtain ⟨h1, h2⟩ := vj k (Ne.symm hjk) hk
          rw [vi, h2, (hfresh haj).1]
          obtain ⟨g, h3, h4⟩ := h.own k h1 hak
          rw [h3]
          simp
          omega
        · obtain ⟨h1, h2⟩ := vj j hji hj
          rw [h2]
          by_cases hki : k = i
          · subst hki
            rw [vi, (hfresh hak).1]
            obtain ⟨g, h3, h4⟩ := h.own j h1 haj
            rw [h3]
            simp
            omega
          · obtain ⟨h5, h6⟩ := vj k hki hk
            rw [h6]
            exact h.dist j k hjk h1 h5 haj hak
    unfold wpOp
    rw [ho]
    simp only [hw, if_true]
    refine .inl ?_
    unfold Oper.wp
    generalize hr : (execOp a.eval o).run P w = r at *
    unfold Good at hgood
    split at hgood
    · refine step _ _ hgood.1 hgood.2 fun ha => ?_
      obtain ⟨v', w', h1, h2, h3⟩ := hal ha
      injection h1 with h1 h4
      injection h1 with h1
      subst h1 h4
      exact ⟨h2, h3⟩
    · refine step _ _ hgood.1 hgood.2 fun ha => ?_
      obtain ⟨v', w', h1, _⟩ := hal ha
      injection h1 with h1
      cases h1
    · refine Calls.mono hgood ?_
      rintro e w'' ⟨v, rfl, h1, h2⟩
      refine step _ _ h1 h2 fun ha => ?_
      obtain ⟨v', w', h1, _⟩ := hal ha
      injection h1 with h1
      cases h1
    · exact hgood.elim
theorem alloc_kept' (w : World) (o : Obj) : Below w.heap.size w (w.alloc o) := (Below.refl _ _).alloc (Nat.le_refl _) _
theorem dat (s m : Nat) (l : List Nat) (j : Nat) (h : j < m) : (List.range' s m ++ l).getD j 0 = s + j := by
  rw [List.getD_eq_getElem?_getD, List.getElem?_append_left (by simpa using h)]
  simp [h]
theorem region_facts_tail {id : Nat} {w : World} (n : Nat) (al : Nat → Bool) (F : Nat → Value → World → Prop) (S : World → Prop) (R : World → World → Prop) (D : List Nat) (hm : P.follows .mixedOrders = true) (hnn : decide (n ≤ ops.size) = true)
    (hD : (ops.toList.take n).map (·.dst) = D.map some) (hn : D.Nodup) (hlt' : (D.all fun d => decide (d < fr.size)) = true) (ht : (topoB ops && tailB ops n (fun _ => false) && Region.seqB .any ops (ops.size - n) n (headL n (ops.size - n))) = true)
    (hF : ∀ j v w w', F j v w → R w w' → F j v w') (hS : ∀ w w', S w → R w w' → S w') (hR : ∀ w w', R w w' → w.heap.size ≤ w'.heap.size) (h0 : S w.drew) (ob : ∀ f, f = fr → AllObA P F S R al D f 0 (ops.toList.take n))
    (fin : ∀ (vs : Nat → Value) w, S w → (∀ j, j < n → F j (vs j) w) → (∀ j k, j ≠ k → j < n → k < n → al j = true → al k = true → blkOf (vs j) ≠ blkOf (vs k)) → wpList P ops Q (ops.toList.drop n) ⟨setAll fr 0 D vs, df⟩ w) : (Code.region id ops true).wp P Q ⟨fr, df⟩ w := by
  have hlt : ∀ d ∈ D, d < fr.size := fun d hd => by simpa using List.all_eq_true.1 hlt' d hd
  have hnn' : n ≤ ops.size := of_decide_eq_true hnn
  simp only [Bool.and_eq_true] at ht
  obtain ⟨⟨ht, htl⟩, hsq⟩ := ht
  have hgo := facts_any (P := P) (Q := Q) (fr := fr) (df := df) hnn' hD hn hlt ht htl hsq hF hS hR (ob fr rfl) ?_ n (Array.replicate ops.size false) ⟨fr, df⟩ w.drew (by simp) (fun j o hj hl => by by_cases hj' : j < ops.size <;> simp [hj'] at hl) (fun j hj => by cases hj) (fun j _ => by by_cases hj : j < ops.size <;> simp [hj]) (by simp [List.take_replicate]; omega) ⟨h0, rfl, rfl, fun _ _ => rfl, ?_, ?_, ?_⟩
  · rw [show n + (ops.size - n) = ops.size by omega] at hgo
    exact wp_region_any hm hgo
  · intro a w' h
    have hlen : D.length = n := by
      have := congrArg List.length hD
      rw [List.length_map, List.length_map, List.length_take] at this
      simp at this
      omega
    have := fin (fun j => a.tmps.getD (D.getD j 0) undef) w' h.s (fun j hj => h.facts j (by simp [hj])) (fun j k hjk hj hk => h.dist j k hjk (by simp [hj]) (by simp [hk]))
    have e : a = ⟨setAll fr 0 D (fun j => a.tmps.getD (D.getD j 0) undef), df⟩ := by
      obtain ⟨tm, dd⟩ := a
      have h1 := h.size
      have h2 := h.defers
      have h3 := h.frame
      simp only at h1 h2 h3
      subst h2
      congr 1
      refine Array.ext (by rw [setAll_size, h1]) ?_
      intro k hk1 hk2
      have g : tm.getD k undef = (setAll fr 0 D (fun j => tm.getD (D.getD j 0) undef)).getD k undef := by
        by_cases hkD : k ∈ D
        · obtain ⟨j, hj, rfl⟩ := List.mem_iff_getElem.1 hkD
          rw [setAll_in D fr 0 _ j D[j] hn (by simp [hj]) (by omega)]
          simp [hj]
        · rw [setAll_out D fr 0 _ k hkD, h3 k hkD]
      rw [Array.getD_eq_getD_getElem?, Array.getD_eq_getD_getElem?, Array.getElem?_eq_getElem hk1, Array.getElem?_eq_getElem hk2] at g
      exact g
    rw [e]
    exact this
  · intro j hj
    by_cases hj' : j < ops.size <;> simp [hj'] at hj
  · intro j hj
    by_cases hj' : j < ops.size <;> simp [hj'] at hj
  · intro j k _ hj
    by_cases hj' : j < ops.size <;> simp [hj'] at hj
/-- The same, where operation number f, a move of slot k, may come up ever so late: nobody from n on waits for it. -/
theorem region_facts_float {id : Nat} {w : World} (n f k : Nat) (F : Nat → Value → World → Prop) (S : World → Prop) (R : World → World → Prop) (D : List Nat) (hm : P.follows .mixedOrders = true) (hnn : (decide (n ≤ ops.size) && decide (f < n)) = true)
    (hD : (ops.toList.take n).map (·.dst) = D.map some) (hn : D.Nodup) (hlt' : (D.all fun d => decide (d < fr.size)) = true) (ht : (topoB ops && tailB ops n (fun j => j == f) && Region.seqB .any ops (ops.size - n) n (headL n (ops.size - n))) = true)
    (hop : (ops[f]?).map (fun o => (o.op, o.guard, o.after)) = some (.move (.tmp k), none, (((ops[f]?).map (·.after)).getD #[])))
    (haf : ((((ops[f]?).map (·.after)).getD #[]).all fun e => !Region.binds .any e) = true)
    (hfree : (Region.noSelect ops && Region.free .any ops (Array.replicate ops.size false) f && (Region.ready .any ops (Array.replicate ops.size false)).contains f) = true)
    (hQ : ∀ c a w v, Q (.panic c) (a.put (some (D.getD f 0)) v) w → Q (.panic c) a w) (hFf : ∀ w, S w → F f (fr.getD k undef) w)
    (hF : ∀ j v w w', F j v w → R w w' → F j v w') (hS : ∀ w w', S w → R w w' → S w') (hR : ∀ w w', R w w' → w.heap.size ≤ w'.heap.size) (h0 : S w.drew) (ob : ∀ f, f = fr → AllOb P F S R D f 0 (ops.toList.take n))
    (fin : ∀ (vs : Nat → Value) w, S w → (∀ j, j < n → F j (vs j) w) → wpList P ops Q (ops.toList.drop n) ⟨setAll fr 0 D vs, df⟩ w) : (Code.region id ops true).wp P Q ⟨fr, df⟩ w := by
  have hlt : ∀ d ∈ D, d < fr.size := fun d hd => by simpa using List.all_eq_true.1 hlt' d hd
  simp only [Bool.and_eq_true, decide_eq_true_eq] at hnn ht hfree
  obtain ⟨hnn', hfn⟩ := hnn
  obtain ⟨⟨ht, htl⟩, hsq⟩ := ht
  obtain ⟨⟨hns, hfr⟩, hrd⟩ := hfree
  have hlen : D.length = n := by
    have := congrArg List.length hD
    rw [List.length_map, List.length_map, List.length_take] at this
    simp at this
    omega
  have hfs : f < ops.size := by omega
  obtain ⟨o, ho⟩ : ∃ o, ops[f]? = some o := ⟨ops[f], by simp [hfs]⟩
  rw [ho] at hop haf
  simp only [Option.map_some, Option.getD_some, Option.some.injEq, Prod.mk.injEq] at hop haf
  obtain ⟨hop1, hop2, _⟩ := hop
  obtain ⟨d, hd, hDf⟩ : ∃ d, o.dst = some d ∧ D[f]? = some d := by
    have h1 : ((ops.toList.take n).map (·.dst))[f]? = some o.dst := by simp [ho, hfn]
    rw [hD] at h1
    simp only [List.getElem?_map, Option.map_eq_some_iff] at h1
    obtain ⟨d, h2, h3⟩ := h1
    exact ⟨d, h3.symm, h2⟩
  have hdlt : d < fr.size := hlt d (List.mem_of_getElem? hDf)
  have hdf : D.getD f 0 = d := by simp [hDf]
  have hcl0 : Closed ops ((Array.replicate ops.size false).setIfInBounds f true) := by
    intro j oj hj hl e he hb
    by_cases hjf : f = j
    · subst hjf
      rw [ho] at hj
      injection hj with hj
      subst hj
      have := Array.all_eq_true'.1 haf e he
      rw [hb] at this
      cases this
    · rw [getD_set_ne false hjf] at hl
      by_cases hj' : j < ops.size <;> simp [hj'] at hl
  have hl0 : ∀ j, ((Array.replicate ops.size false).setIfInBounds f true).getD j false = true → j = f := by
    intro j hj
    by_cases hjf : f = j
    · exact hjf.symm
    · rw [getD_set_ne false hjf] at hj
      by_cases hj' : j < ops.size <;> simp [hj'] at hj
  have hcount : (((Array.replicate ops.size false).setIfInBounds f true).toList.take n).count false = n - 1 := by
    rw [Array.toList_setIfInBounds, List.take_set, List.count_set (by simp; omega)]
    simp [List.take_replicate]
    omega
  have hgo := facts_any (P := P) (Q := Q) (F := F) (S := S) (R := R) (al := fun _ => false) (fr := fr) (df := df) hnn' hD hn hlt ht htl hsq hF hS hR (ob fr rfl).plain ?_ (n - 1) ((Array.replicate ops.size false).setIfInBounds f true) ⟨fr.setIfInBounds d (fr.getD k undef), df⟩ w.drew (by simp) hcl0 (fun j hj => by
      have : j = f := by simpa using hj
      subst this
      simp [hfs]) (fun j hj => by
      rw [getD_set_ne false (by omega)]
      by_cases hj' : j < ops.size <;> simp [hj']) hcount ⟨h0, by simp, rfl, ?_, ?_, ?_, ?_⟩
  · refine wp_region_any hm ?_
    have hy : Yields P ops o (fr.getD k undef) ⟨fr, df⟩ := by
      refine .inl ⟨by simp [Region.wanted, hop2], fun w => ?_⟩
      simp [execOp, hop1, Act.eval]
    have := wpAny_take (P := P) (Q := Q) (fuel := n - 1 + (ops.size - n)) (a := ⟨fr, df⟩) (w := w.drew) ho hns hfr hrd (fun c a w h => hQ c a w (fr.getD k undef) (by rw [hdf, ← hd]; exact h)) hy (by rw [hd]; exact hgo)
    rw [show n - 1 + (ops.size - n) + 1 = ops.size by omega] at this
    exact this
  · intro a w' h
    have := fin (fun j => a.tmps.getD (D.getD j 0) undef) w' h.s (fun j hj => h.facts j (by simp [hj]))
    have e : a = ⟨setAll fr 0 D (fun j => a.tmps.getD (D.getD j 0) undef), df⟩ := by
      obtain ⟨tm, dd⟩ := a
      have h1 := h.size
      have h2 := h.defers
      have h3 := h.frame
      simp only at h1 h2 h3
      subst h2
      congr 1
      refine Array.ext (by rw [setAll_size, h1]) ?_
      intro k hk1 hk2
      have g : tm.getD k undef = (setAll fr 0 D (fun j => tm.getD (D.getD j 0) undef)).getD k undef := by
        by_cases hkD : k ∈ D
        · obtain ⟨j, hj, rfl⟩ := List.mem_iff_getElem.1 hkD
          rw [setAll_in D fr 0 _ j D[j] hn (by simp [hj]) (by omega)]
          simp [hj]
        · rw [setAll_out D fr 0 _ k hkD, h3 k hkD]
      rw [Array.getD_eq_getD_getElem?, Array.getD_eq_getD_getElem?, Array.getElem?_eq_getElem hk1, Array.getElem?_eq_getElem hk2] at g
      exact g
    rw [e]
    exact this
  · intro x hx
    have hne : d ≠ x := by
      rintro rfl
      exact hx (List.mem_of_getElem? hDf)
    simp [Array.getElem?_setIfInBounds_ne hne]
  · intro j hj
    rw [hl0 j hj, hdf]
    simpa [hdlt] using hFf _ h0
  · intro j _ hj
    cases hj
  · intro j k _ _ _ hj
    cases hj
theorem region_facts {id : Nat} {w : World} (F : Nat → Value → World → Prop) (S : World → Prop) (R : World → World → Prop) (D : List Nat) (hm : P.follows .mixedOrders = true)
    (hD : ops.toList.map (·.dst) = D.map some) (hn : D.Nodup) (hlt' : (D.all fun d => decide (d < fr.size)) = true) (ht : (topoB ops && tailB ops ops.size (fun _ => false) && Region.seqB .any ops (ops.size - ops.size) ops.size (headL ops.size (ops.size - ops.size))) = true)
    (hF : ∀ j v w w', F j v w → R w w' → F j v w') (hS : ∀ w w', S w → R w w' → S w') (hR : ∀ w w', R w w' → w.heap.size ≤ w'.heap.size) (h0 : S w.drew) (ob : ∀ f, f = fr → AllOb P F S R D f 0 ops.toList)
    (fin : ∀ (vs : Nat → Value) w, S w → (∀ j, j < ops.size → F j (vs j) w) → Q .normal ⟨setAll fr 0 D vs, df⟩ w) : (Code.region id ops true).wp P Q ⟨fr, df⟩ w := by
  have e : ops.toList.take ops.size = ops.toList := by rw [← Array.length_toList, List.take_length]
  have e2 : ops.toList.drop ops.size = [] := by rw [← Array.length_toList, List.drop_length]
  refine region_facts_tail ops.size (fun _ => false) F S R D hm (by simp) (by rw [e]; exact hD) hn hlt' ht hF hS hR h0 (by rw [e]; exact fun f hf => (ob f hf).plain) ?_
  intro vs w' hs hf _
  rw [e2]
  exact fin vs w' hs hf
end
end Go.Proofs.Ytpbepmipfjcjbaa
namespace Go.Proofs.Ytpbepmipfjcjbaa
open Go.RowKit
section
variable {P : Program} {ops : Array Oper} {Q : Exit → Act → World → Prop} {F : Nat → Value → World → Prop} {S : World → Prop} {R : World → World → Prop} {al : Nat → Bool} {D : List Nat} {fr : Array Value} {df : List Deferred}
/-- What is yielded lies in memory that has come since. -/
def Frsh (v : Value) (w w' : World) : Prop := ∀ g, blkOf v = some g → w.heap.size ≤ g ∧ g < w'.heap.size
def GoodB (P : Program) (F : Nat → Value → World → Prop) (R : World → World → Prop) (al : Nat → Bool) (i : Nat) (w : World) : Result Next → Prop
  | .ok (.value v) w' => F i v w' ∧ R w w' ∧ (al i = true → Frsh v w w')
  | .ok .skip w' => F i undef w' ∧ R w w' ∧ (al i = true → Frsh undef w w')
  | .ok (.enter f args) w' => Calls P f args w' fun e w'' => ∃ v, e = .returned v ∧ F i v w'' ∧ R w w'' ∧ (al i = true → Frsh v w w'')
  | _ => False
def ObB (P : Program) (F : Nat → Value → World → Prop) (S : World → Prop) (R : World → World → Prop) (al : Nat → Bool) (D : List Nat) (fr : Array Value) (i : Nat) (o : Oper) : Prop :=
  GuardOk F o ∧ ∀ (ρ : Operand → Value) (w : World), Rho ρ D fr → DepF F D ρ w o.after.toList → S w → GoodB P F R al i w ((execOp ρ o).run P w)
def AllObB (P : Program) (F : Nat → Value → World → Prop) (S : World → Prop) (R : World → World → Prop) (al : Nat → Bool) (D : List Nat) (fr : Array Value) : Nat → List Oper → Prop
  | _, [] => True
  | i, o :: l => ObB P F S R al D fr i o ∧ AllObB P F S R al D fr (i + 1) l
theorem AllObB.get : ∀ {l : List Oper} {i : Nat}, AllObB P F S R al D fr i l → ∀ j o, l[j]? = some o → ObB P F S R al D fr (i + j) o
  | [], _, _, j, o, ho => by simp at ho
  | x :: l, i, h, 0, o, ho => by
    simp only [List.getElem?_cons_zero, Option.some.injEq] at ho
    subst ho
    exact h.1
  | x :: l, i, h, j + 1, o, ho => by
    have := AllObB.get h.2 j o (by simpa using ho)
    rw [show i + (j + 1) = i + 1 + j by omega]
    exact this
structure HeldB (F : Nat → Value → World → Prop) (S : World → Prop) (al : Nat → Bool) (D : List Nat) (fr : Array Value) (df : List Deferred) (listed : Array Bool) (a : Act) (w : World) : Prop where
  s : S w
  size : a.tmps.size = fr.size
  defers : a.defers = df
  frame : ∀ k, k ∉ D → a.tmps.getD k undef = fr.getD k undef
  facts : ∀ j, listed.getD j false = true → F j (a.tmps.getD (D.getD j 0) undef) w
  own : ∀ j, listed.getD j false = true → al j = true → ∀ g, blkOf (a.tmps.getD (D.getD j 0) undef) = some g → g < w.heap.size
  dist : ∀ j k, j ≠ k → listed.getD j false = true → listed.getD k false = true → al j = true → al k = true → ∀ g, blkOf (a.tmps.getD (D.getD j 0) undef) = some g → blkOf (a.tmps.getD (D.getD k 0) undef) = some g → False
theorem facts_anyB {n : Nat} {fl : Nat → Bool} (hnn : n ≤ ops.size) (hD : (ops.toList.take n).map (·.dst) = D.map some) (hn : D.Nodup) (hlt : ∀ d ∈ D, d < fr.size) (ht : topoB ops = true) (htl : tailB ops n fl = true) (hsq : Region.seqB .any ops (ops.size - n) n (headL n (ops.size - n)) = true)
    (hF : ∀ j v w w', F j v w → R w w' → F j v w') (hS : ∀ w w', S w → R w w' → S w') (hR : ∀ w w', R w w' → w.heap.size ≤ w'.heap.size) (ob : AllObB P F S R al D fr 0 (ops.toList.take n))
    (fin : ∀ a w, HeldB F S al D fr df (Array.replicate n true) a w → wpList P ops Q (ops.toList.drop n) a w) :
    ∀ (fuel : Nat) (listed : Array Bool) (a : Act) (w : World), listed.size = ops.size → Closed ops listed → (∀ j, fl j = true → listed.getD j false = true) → (∀ j, n ≤ j → listed.getD j false = false) → (listed.toList.take n).count false = fuel → HeldB F S al D fr df listed a w → wpAny P .any ops Q (fuel + (ops.size - n)) listed a w := by
  have hlen : D.length = n := by
    have := congrArg List.length hD
    rw [List.length_map, List.length_map, List.length_take] at this
    simp at this
    omega
  have dstOf : ∀ (i : Nat) (o : Oper), i < n → ops[i]? = some o → ∃ d, o.dst = some d ∧ D[i]? = some d := by
    intro i o hi ho
    have h1 : ((ops.toList.take n).map (·.dst))[i]? = some o.dst := by simp [ho, hi]
    rw [hD] at h1
    simp only [List.getElem?_map, Option.map_eq_some_iff] at h1
    obtain ⟨d, h2, h3⟩ := h1
    exact ⟨d, h3.symm, h2⟩
  intro fuel
  induction fuel with
  | zero =>
    intro listed a w hs hcl hfl htail hc h
    have hall : ∀ j, j < n → listed.getD j false = true := by
      intro j hj
      have hj' : j < listed.size := by omega
      have hm : listed[j] ∈ listed.toList.take n := by
        rw [List.mem_iff_getElem?]
        exact ⟨j, by rw [List.getElem?_take, if_pos hj]; simp [hj']⟩
      cases hb : listed[j] with
      | true => simp [hj', hb]
      | false =>
        rw [hb] at hm
        exact absurd hm (List.count_eq_zero.1 hc)
    have hlist : listed = headL n (ops.size - n) := by
      refine Array.ext (by simp [headL]; omega) ?_
      intro j h1 h2
      by_cases hj : j < n
      · have := hall j hj
        have e2 : (headL n (ops.size - n))[j] = true := by simp [headL, hj]
        rw [e2]
        simpa [h1] using this
      · have := htail j (by omega)
        have e2 : (headL n (ops.size - n))[j] = false := by simp [headL, List.getElem_append, hj]
        rw [e2]
        simpa [h1] using this
    rw [Nat.zero_add]
    have hl : (ops.toList.drop n).length = ops.size - n := by simp
    rw [← hl]
    have hup : ∀ j, (Array.replicate n true).getD j false = true → listed.getD j false = true := by
      intro j hj
      by_cases hj' : j < n
      · exact hall j hj'
      · simp [hj'] at hj
    refine wpAny_of_seq (ops.toList.drop n) n listed a w (fun j => by simp [List.getElem?_drop]) ?_ (fin a w ⟨h.s, h.size, h.defers, h.frame, fun j hj => h.facts j (hup j hj), fun j hj => h.own j (hup j hj), fun j k hjk hj hk => h.dist j k hjk (hup j hj) (hup k hk)⟩)
    rw [hl, hlist]
    exact hsq
  | succ fuel ih =>
    intro listed a w hs hcl hfl htail hc h
    obtain ⟨j0, hj0, hun0⟩ : ∃ j, j < n ∧ listed.getD j false = false := by
      have : false ∈ listed.toList.take n := by
        rw [← List.count_pos_iff, hc]
        omega
      obtain ⟨j, hj⟩ := List.mem_iff_getElem?.1 this
      rw [List.getElem?_take] at hj
      split at hj
      · rename_i hjn
        refine ⟨j, hjn, ?_⟩
        rw [Array.getElem?_toList] at hj
        simp [hj]
      · cases hj
    rw [show fuel + 1 + (ops.size - n) = (fuel + (ops.size - n)) + 1 by omega]
    refine ⟨fun hr => ?_, fun i hi => ?_⟩
    · have := ready_nil ht hs hr j0 (by omega)
      rw [this] at hun0
      cases hun0
    have hin : i < n := by
      rcases Nat.lt_or_ge i n with hlt | hge
      · exact hlt
      · have hj0f : fl j0 = false := by
          cases hb : fl j0 with
          | false => rfl
          | true =>
            rw [hfl j0 hb] at hun0
            cases hun0
        have := tailB_spec htl hcl hi hge hj0 hj0f
        rw [this] at hun0
        cases hun0
    obtain ⟨hun, o, ho, hdep⟩ := mem_ready.1 hi
    have hio : i < ops.size := (Array.getElem?_eq_some_iff.1 ho).1
    have hil : i < listed.size := by omega
    obtain ⟨d, hd, hDi⟩ := dstOf i o hin ho
    have hdD : D.getD i 0 = d := by simp [hDi]
    have hdlt : d < fr.size := hlt d (List.mem_of_getElem? hDi)
    obtain ⟨hg, hob⟩ := ob.get i o (by simp [hin, ho])
    rw [Nat.zero_add] at hob
    have hdeps : ∀ e ∈ o.after.toList, Region.binds .any e = true → F e.on (a.eval (.tmp (D.getD e.on 0))) w := fun e he hb => h.facts e.on (hdep e (Array.mem_toList_iff.1 he) hb)
    have hDep : ∀ l : List Edge, (∀ e ∈ l, Region.binds .any e = true → F e.on (a.eval (.tmp (D.getD e.on 0))) w) → DepF F D a.eval w l := by
      intro l
      induction l with
      | nil => intro _; trivial
      | cons e l ihl => intro hl; exact ⟨hl e (by simp), ihl fun e' he' => hl e' (by simp [he'])⟩
    have hgood := hob a.eval w ⟨fun _ => rfl, fun _ => rfl, fun _ => rfl, fun k hk => h.frame k (by simpa using hk)⟩ (hDep _ hdeps) h.s
    have hw : Region.wanted o (yielded ops a.tmps) = true := by
      unfold GuardOk at hg
      unfold Region.wanted
      split
      · rfl
      · rename_i j b hgd
        rw [hgd] at hg
        obtain ⟨hany, hval⟩ := hg
        rw [List.any_eq_true] at hany
        obtain ⟨e, he, hb⟩ := hany
        simp only [Bool.and_eq_true, beq_iff_eq] at hb
        obtain ⟨hb1, rfl⟩ := hb
        have hv := hval _ _ (hdeps e he hb1)
        have hj : e.on < ops.size := Nat.lt_trans (topo_spec ht i o ho e (Array.mem_toList_iff.1 he) hb1) hio
        obtain ⟨d', hd', hD'⟩ := dstOf e.on ops[e.on] (Nat.lt_trans (topo_spec ht i o ho e (Array.mem_toList_iff.1 he) hb1) hin) (by simp [hj])
        have hlt' : d' < a.tmps.size := by rw [h.size]; exact hlt d' (List.mem_of_getElem? hD')
        have hval2 : a.tmps[d']? = some (.bool b) := by
          have : a.tmps.getD d' undef = .bool b := by simpa [Act.eval, hD'] using hv
          simpa [hlt'] using this
        simp [yielded, hj, hd', hval2]
    have hcl' : Closed ops (listed.setIfInBounds i true) := by
      intro j oj hj hl e he hb
      by_cases hij : i = j
      · subst hij
        rw [ho] at hj
        injection hj with hj
        subst hj
        exact getD_set_true (hdep e he hb)
      · rw [getD_set_ne false hij] at hl
        exact getD_set_true (hcl j oj hj hl e he hb)
    have step : ∀ v w', F i v w' → R w w' → (al i = true → Frsh v w w') → wpAny P .any ops Q (fuel + (ops.size - n)) (listed.setIfInBounds i true) (a.put o.dst v) w' := by
      intro v w' hFv hRw hfresh
      rw [hd]
      have hsz := hR _ _ hRw
      have vi : (a.put (some d) v).tmps.getD (D.getD i 0) undef = v := by
        rw [hdD]
        simp [Act.put, h.size, hdlt]
      have vj : ∀ j, j ≠ i → (listed.setIfInBounds i true).getD j false = true → listed.getD j false = true ∧ (a.put (some d) v).tmps.getD (D.getD j 0) undef = a.tmps.getD (D.getD j 0) undef := by
        intro j hji hj
        rw [getD_set_ne false (Ne.symm hji)] at hj
        have hjn : j < n := by
          rcases Nat.lt_or_ge j n with hlt | hge
          · exact hlt
          · rw [htail j hge] at hj
            cases hj
        have hDj : D[j]? = some (D.getD j 0) := by simp [hlen, hjn]
        have hne : d ≠ D.getD j 0 := by
          intro he
          have h1 : D[i]? = D[j]? := by rw [hDi, hDj, he]
          exact hji ((List.getElem?_inj (by omega) hn).1 h1).symm
        refine ⟨hj, ?_⟩
        rw [Array.getD_eq_getD_getElem?, Array.getD_eq_getD_getElem?, Act.put, Array.getElem?_setIfInBounds_ne hne]
      refine ih _ _ _ (by simpa using hs) hcl' (fun j hj => getD_set_true (hfl j hj)) (fun j hj => by rw [getD_set_ne false (by omega)]; exact htail j hj) ?_ ⟨hS _ _ h.s hRw, by simpa [Act.put] using h.size, h.defers, ?_, ?_, ?_, ?_⟩
      · have hb : listed[i] = false := by simpa [hil] using hun
        rw [Array.toList_setIfInBounds, List.take_set, List.count_set (by simp; omega)]
        simp [hb, hc]
      · intro k hk
        have hkd : d ≠ k := by
          rintro rfl
          exact hk (List.mem_of_getElem? hDi)
        simpa [Act.put, Array.getElem?_setIfInBounds_ne hkd] using h.frame k hk
      · intro j hj
        by_cases hji : j = i
        · subst hji
          rw [vi]
          exact hFv
        · obtain ⟨h1, h2⟩ := vj j hji hj
          rw [h2]
          exact hF j _ _ _ (h.facts j h1) hRw
      · intro j hj ha
        by_cases hji : j = i
        · subst hji
          rw [vi]
          exact fun g hg => (hfresh ha g hg).2
        · obtain ⟨h1, h2⟩ := vj j hji hj
          rw [h2]
          exact fun g hg => Nat.lt_of_lt_of_le (h.own j h1 ha g hg) hsz
      · intro j k hjk hj hk haj hak
        by_cases hji : j = i
        · subst hji
          obtain ⟨h1, h2⟩ := vj k (Ne.symm hjk) hk
          rw [vi, h2]
          intro g h3 h4
          have q1 := h.own k h1 hak g h4
          have q2 := (hfresh haj g h3).1
          omega
        · obtain ⟨h1, h2⟩ := vj j hji hj
          rw [h2]
          by_cases hki : k = i
          · subst hki
            rw [vi]
            intro g h3 h4
            have q1 := h.own j h1 haj g h3
            have q2 := (hfresh hak g h4).1
            omega
          · obtain ⟨h5, h6⟩ := vj k hki hk
            rw [h6]
            exact h.dist j k hjk h1 h5 haj hak
    unfold wpOp
    rw [ho]
    simp only [hw, if_true]
    refine .inl ?_
    unfold Oper.wp
    generalize hr : (execOp a.eval o).run P w = r at *
    unfold GoodB at hgood
    split at hgood
    · exact step _ _ hgood.1 hgood.2.1 hgood.2.2
    · exact step _ _ hgood.1 hgood.2.1 hgood.2.2
    · refine Calls.mono hgood ?_
      rintro e w'' ⟨v, rfl, h1, h2, h3⟩
      exact step _ _ h1 h2 h3
    · exact hgood.elim
theorem region_facts_own {id : Nat} {w : World} (n : Nat) (al : Nat → Bool) (F : Nat → Value → World → Prop) (S : World → Prop) (R : World → World → Prop) (D : List Nat) (hm : P.follows .mixedOrders = true) (hnn : decide (n ≤ ops.size) = true)
    (hD : (ops.toList.take n).map (·.dst) = D.map some) (hn : D.Nodup) (hlt' : (D.all fun d => decide (d < fr.size)) = true) (ht : (topoB ops && tailB ops n (fun _ => false) && Region.seqB .any ops (ops.size - n) n (headL n (ops.size - n))) = true)
    (hF : ∀ j v w w', F j v w → R w w' → F j v w') (hS : ∀ w w', S w → R w w' → S w') (hR : ∀ w w', R w w' → w.heap.size ≤ w'.heap.size) (h0 : S w.drew) (ob : ∀ f, f = fr → AllObB P F S R al D f 0 (ops.toList.take n))
    (fin : ∀ (vs : Nat → Value) w, S w → (∀ j, j < n → F j (vs j) w) → (∀ j k, j ≠ k → j < n → k < n → al j = true → al k = true → ∀ g, blkOf (vs j) = some g → blkOf (vs k) = some g → False) → wpList P ops Q (ops.toList.drop n) ⟨setAll fr 0 D vs, df⟩ w) : (Code.region id ops true).wp P Q ⟨fr, df⟩ w := by
  have hlt : ∀ d ∈ D, d < fr.size := fun d hd => by simpa using List.all_eq_true.1 hlt' d hd
  have hnn' : n ≤ ops.size := of_decide_eq_true hnn
  simp only [Bool.and_eq_true] at ht
  obtain ⟨⟨ht, htl⟩, hsq⟩ := ht
  have hgo := facts_anyB (P := P) (Q := Q) (fr := fr) (df := df) hnn' hD hn hlt ht htl hsq hF hS hR (ob fr rfl) ?_ n (Array.replicate ops.size false) ⟨fr, df⟩ w.drew (by simp) (fun j o hj hl => by by_cases hj' : j < ops.size <;> simp [hj'] at hl) (fun j hj => by cases hj) (fun j _ => by by_cases hj : j < ops.size <;> simp [hj]) (by simp [List.take_replicate]; omega) ⟨h0, rfl, rfl, fun _ _ => rfl, ?_, ?_, ?_⟩
  · rw [show n + (ops.size - n) = ops.size by omega] at hgo
    exact wp_region_any hm hgo
  · intro a w' h
    have hlen : D.length = n := by
      have := congrArg List.length hD
      rw [List.length_map, List.length_map, List.length_take] at this
      simp at this
      omega
    have := fin (fun j => a.tmps.getD (D.getD j 0) undef) w' h.s (fun j hj => h.facts j (by simp [hj])) (fun j k hjk hj hk => h.dist j k hjk (by simp [hj]) (by simp [hk]))
    have e : a = ⟨setAll fr 0 D (fun j => a.tmps.getD (D.getD j 0) undef), df⟩ := by
      obtain ⟨tm, dd⟩ := a
      have h1 := h.size
      have h2 := h.defers
      have h3 := h.frame
      simp only at h1 h2 h3
      subst h2
      congr 1
      refine Array.ext (by rw [setAll_size, h1]) ?_
      intro k hk1 hk2
      have g : tm.getD k undef = (setAll fr 0 D (fun j => tm.getD (D.getD j 0) undef)).getD k undef := by
        by_cases hkD : k ∈ D
        · obtain ⟨j, hj, rfl⟩ := List.mem_iff_getElem.1 hkD
          rw [setAll_in D fr 0 _ j D[j] hn (by simp [hj]) (by omega)]
          simp [hj]
        · rw [setAll_out D fr 0 _ k hkD, h3 k hkD]
      rw [Array.getD_eq_getD_getElem?, Array.getD_eq_getD_getElem?, Array.getElem?_eq_getElem hk1, Array.getElem?_eq_getElem hk2] at g
      exact g
    rw [e]
    exact this
  · intro j hj
    by_cases hj' : j < ops.size <;> simp [hj'] at hj
  · intro j hj
    by_cases hj' : j < ops.size <;> simp [hj'] at hj
  · intro j k _ hj
    by_cases hj' : j < ops.size <;> simp [hj'] at hj
end
end Go.Proofs.Ytpbepmipfjcjbaa
namespace Go.Proofs.Ytpbepmipfjcjbaa
open Go.RowKit
section
variable {P : Program} {ops : Array Oper} {Q : Exit → Act → World → Prop} {F : Nat → Value → World → Prop} {S : Bool → World → Prop} {R : Nat → World → World → Prop} {sp : Nat} {al : Nat → Bool} {D : List Nat} {fr : Array Value} {df : List Deferred}
def GoodP (P : Program) (F : Nat → Value → World → Prop) (R : Nat → World → World → Prop) (al : Nat → Bool) (i : Nat) (w : World) : Result Next → Prop
  | .ok (.value v) w' => F i v w' ∧ R i w w' ∧ (al i = true → Frsh v w w')
  | .ok .skip w' => F i undef w' ∧ R i w w' ∧ (al i = true → Frsh undef w w')
  | .ok (.enter f args) w' => Calls P f args w' fun e w'' => ∃ v, e = .returned v ∧ F i v w'' ∧ R i w w'' ∧ (al i = true → Frsh v w w'')
  | _ => False
def ObP (P : Program) (F : Nat → Value → World → Prop) (S : Bool → World → Prop) (R : Nat → World → World → Prop) (sp : Nat) (al : Nat → Bool) (D : List Nat) (fr : Array Value) (i : Nat) (o : Oper) : Prop :=
  GuardOk F o ∧ ∀ (ρ : Operand → Value) (w : World) (ph : Bool), (i = sp → ph = false) → Rho ρ D fr → DepF F D ρ w o.after.toList → S ph w → GoodP P F R al i w ((execOp ρ o).run P w)
def AllObP (P : Program) (F : Nat → Value → World → Prop) (S : Bool → World → Prop) (R : Nat → World → World → Prop) (sp : Nat) (al : Nat → Bool) (D : List Nat) (fr : Array Value) : Nat → List Oper → Prop
  | _, [] => True
  | i, o :: l => ObP P F S R sp al D fr i o ∧ AllObP P F S R sp al D fr (i + 1) l
theorem AllObP.get : ∀ {l : List Oper} {i : Nat}, AllObP P F S R sp al D fr i l → ∀ j o, l[j]? = some o → ObP P F S R sp al D fr (i + j) o
  | [], _, _, j, o, ho => by simp at ho
  | x :: l, i, h, 0, o, ho => by
    simp only [List.getElem?_cons_zero, Option.some.injEq] at ho
    subst ho
    exact h.1
  | x :: l, i, h, j + 1, o, ho => by
    have := AllObP.get h.2 j o (by simpa using ho)
    rw [show i + (j + 1) = i + 1 + j by omega]
    exact this
structure HeldP (F : Nat → Value → World → Prop) (S : Bool → World → Prop) (sp : Nat) (al : Nat → Bool) (D : List Nat) (fr : Array Value) (df : List Deferred) (listed : Array Bool) (a : Act) (w : World) : Prop where
  s : S (listed.getD sp false) w
  size : a.tmps.size = fr.size
  defers : a.defers = df
  frame : ∀ k, k ∉ D → a.tmps.getD k undef = fr.getD k undef
  facts : ∀ j, listed.getD j false = true → F j (a.tmps.getD (D.getD j 0) undef) w
  own : ∀ j, listed.getD j false = true → al j = true → ∀ g, blkOf (a.tmps.getD (D.getD j 0) undef) = some g → g < w.heap.size
  dist : ∀ j k, j ≠ k → listed.getD j false = true → listed.getD k false = true → al j = true → al k = true → ∀ g, blkOf (a.tmps.getD (D.getD j 0) undef) = some g → blkOf (a.tmps.getD (D.getD k 0) undef) = some g → False
theorem facts_anyP {n : Nat} {fl : Nat → Bool} (hsp : sp < n) (hnn : n ≤ ops.size) (hD : (ops.toList.take n).map (·.dst) = D.map some) (hn : D.Nodup) (hlt : ∀ d ∈ D, d < fr.size) (ht : topoB ops = true) (htl : tailB ops n fl = true) (hsq : Region.seqB .any ops (ops.size - n) n (headL n (ops.size - n)) = true)
    (hF : ∀ i j v w w', j ≠ i → F j v w → R i w w' → F j v w') (hS : ∀ i ph w w', (i = sp → ph = false) → S ph w → R i w w' → S (ph || decide (i = sp)) w') (hR : ∀ i w w', R i w w' → w.heap.size ≤ w'.heap.size) (ob : AllObP P F S R sp al D fr 0 (ops.toList.take n))
    (fin : ∀ a w, HeldP F S sp al D fr df (Array.replicate n true) a w → wpList P ops Q (ops.toList.drop n) a w) :
    ∀ (fuel : Nat) (listed : Array Bool) (a : Act) (w : World), listed.size = ops.size → Closed ops listed → (∀ j, fl j = true → listed.getD j false = true) → (∀ j, n ≤ j → listed.getD j false = false) → (listed.toList.take n).count false = fuel → HeldP F S sp al D fr df listed a w → wpAny P .any ops Q (fuel + (ops.size - n)) listed a w := by
  have hlen : D.length = n := by
    have := congrArg List.length hD
    rw [List.length_map, List.length_map, List.length_take] at this
    simp at this
    omega
  have dstOf : ∀ (i : Nat) (o : Oper), i < n → ops[i]? = some o → ∃ d, o.dst = some d ∧ D[i]? = some d := by
    intro i o hi ho
    have h1 : ((ops.toList.take n).map (·.dst))[i]? = some o.dst := by simp [ho, hi]
    rw [hD] at h1
    simp only [List.getElem?_map, Option.map_eq_some_iff] at h1
    obtain ⟨d, h2, h3⟩ := h1
    exact ⟨d, h3.symm, h2⟩
  intro fuel
  induction fuel with
  | zero =>
    intro listed a w hs hcl hfl htail hc h
    have hall : ∀ j, j < n → listed.getD j false = true := by
      intro j hj
      have hj' : j < listed.size := by omega
      have hm : listed[j] ∈ listed.toList.take n := by
        rw [List.mem_iff_getElem?]
        exact ⟨j, by rw [List.getElem?_take, if_pos hj]; simp [hj']⟩
      cases hb : listed[j] with
      | true => simp [hj', hb]
      | false =>
        rw [hb] at hm
        exact absurd hm (List.count_eq_zero.1 hc)
    have hlist : listed = headL n (ops.size - n) := by
      refine Array.ext (by simp [headL]; omega) ?_
      intro j h1 h2
      by_cases hj : j < n
      · have := hall j hj
        have e2 : (headL n (ops.size - n))[j] = true := by simp [headL, hj]
        rw [e2]
        simpa [h1] using this
      · have := htail j (by omega)
        have e2 : (headL n (ops.size - n))[j] = false := by simp [headL, List.getElem_append, hj]
        rw [e2]
        simpa [h1] using this
    rw [Nat.zero_add]
    have hl : (ops.toList.drop n).length = ops.size - n := by simp
    rw [← hl]
    have hup : ∀ j, (Array.replicate n true).getD j false = true → listed.getD j false = true := by
      intro j hj
      by_cases hj' : j < n
      · exact hall j hj'
      · simp [hj'] at hj
    refine wpAny_of_seq (ops.toList.drop n) n listed a w (fun j => by simp [List.getElem?_drop]) ?_ (fin a w ⟨by have := h.s; rw [hall sp hsp] at this; simpa [hsp] using this, h.size, h.defers, h.frame, fun j hj => h.facts j (hup j hj), fun j hj => h.own j (hup j hj), fun j k hjk hj hk => h.dist j k hjk (hup j hj) (hup k hk)⟩)
    rw [hl, hlist]
    exact hsq
  | succ fuel ih =>
    intro listed a w hs hcl hfl htail hc h
    obtain ⟨j0, hj0, hun0⟩ : ∃ j, j < n ∧ listed.getD j false = false := by
      have : false ∈ listed.toList.take n := by
        rw [← List.count_pos_iff, hc]
        omega
      obtain ⟨j, hj⟩ := List.mem_iff_getElem?.1 this
      rw [List.getElem?_take] at hj
      split at hj
      · rename_i hjn
        refine ⟨j, hjn, ?_⟩
        rw [Array.getElem?_toList] at hj
        simp [hj]
      · cases hj
    rw [show fuel + 1 + (ops.size - n) = (fuel + (ops.size - n)) + 1 by omega]
    refine ⟨fun hr => ?_, fun i hi => ?_⟩
    · have := ready_nil ht hs hr j0 (by omega)
      rw [this] at hun0
      cases hun0
    have hin : i < n := by
      rcases Nat.lt_or_ge i n with hlt | hge
      · exact hlt
      · have hj0f : fl j0 = false := by
          cases hb : fl j0 with
          | false => rfl
          | true =>
            rw [hfl j0 hb] at hun0
            cases hun0
        have := tailB_spec htl hcl hi hge hj0 hj0f
        rw [this] at hun0
        cases hun0
    obtain ⟨hun, o, ho, hdep⟩ := mem_ready.1 hi
    have hio : i < ops.size := (Array.getElem?_eq_some_iff.1 ho).1
    have hil : i < listed.size := by omega
    obtain ⟨d, hd, hDi⟩ := dstOf i o hin ho
    have hdD : D.getD i 0 = d := by simp [hDi]
    have hdlt : d < fr.size := hlt d (List.mem_of_getElem? hDi)
    obtain ⟨hg, hob⟩ := ob.get i o (by simp [hin, ho])
    rw [Nat.zero_add] at hob
    have hdeps : ∀ e ∈ o.after.toList, Region.binds .any e = true → F e.on (a.eval (.tmp (D.getD e.on 0))) w := fun e he hb => h.facts e.on (hdep e (Array.mem_toList_iff.1 he) hb)
    have hDep : ∀ l : List Edge, (∀ e ∈ l, Region.binds .any e = true → F e.on (a.eval (.tmp (D.getD e.on 0))) w) → DepF F D a.eval w l := by
      intro l
      induction l with
      | nil => intro _; trivial
      | cons e l ihl => intro hl; exact ⟨hl e (by simp), ihl fun e' he' => hl e' (by simp [he'])⟩
    have hunl : listed.getD i false = false := by
      have hb : listed[i] = false := by simpa [hil] using hun
      simp [hil, hb]
    have hph : i = sp → listed.getD sp false = false := fun e => by rw [← e]; exact hunl
    have hgood := hob a.eval w (listed.getD sp false) hph ⟨fun _ => rfl, fun _ => rfl, fun _ => rfl, fun k hk => h.frame k (by simpa using hk)⟩ (hDep _ hdeps) h.s
    have hw : Region.wanted o (yielded ops a.tmps) = true := by
      unfold GuardOk at hg
      unfold Region.wanted
      split
      · rfl
      · rename_i j b hgd
        rw [hgd] at hg
        obtain ⟨hany, hval⟩ := hg
        rw [List.any_eq_true] at hany
        obtain ⟨e, he, hb⟩ := hany
        simp only [Bool.and_eq_true, beq_iff_eq] at hb
        obtain ⟨hb1, rfl⟩ := hb
        have hv := hval _ _ (hdeps e he hb1)
        have hj : e.on < ops.size := Nat.lt_trans (topo_spec ht i o ho e (Array.mem_toList_iff.1 he) hb1) hio
        obtain ⟨d', hd', hD'⟩ := dstOf e.on ops[e.on] (Nat.lt_trans (topo_spec ht i o ho e (Array.mem_toList_iff.1 he) hb1) hin) (by simp [hj])
        have hlt' : d' < a.tmps.size := by rw [h.size]; exact hlt d' (List.mem_of_getElem? hD')
        have hval2 : a.tmps[d']? = some (.bool b) := by
          have : a.tmps.getD d' undef = .bool b := by simpa [Act.eval, hD'] using hv
          simpa [hlt'] using this
        simp [yielded, hj, hd', hval2]
    have hcl' : Closed ops (listed.setIfInBounds i true) := by
      intro j oj hj hl e he hb
      by_cases hij : i = j
      · subst hij
        rw [ho] at hj
        injection hj with hj
        subst hj
        exact getD_set_true (hdep e he hb)
      · rw [getD_set_ne false hij] at hl
        exact getD_set_true (hcl j oj hj hl e he hb)
    have hs2 : ∀ w', R i w w' → S ((listed.setIfInBounds i true).getD sp false) w' := by
      intro w' hr
      have e : (listed.setIfInBounds i true).getD sp false = (listed.getD sp false || decide (i = sp)) := by
        by_cases h : i = sp
        · subst h
          simp [hil]
        · rw [getD_set_ne false h, decide_eq_false h, Bool.or_false]
      rw [e]
      exact hS i _ w w' hph h.s hr
    have step : ∀ v w', F i v w' → R i w w' → (al i = true → Frsh v w w') → wpAny P .any ops Q (fuel + (ops.size - n)) (listed.setIfInBounds i true) (a.put o.dst v) w' := by
      intro v w' hFv hRw hfresh
      rw [hd]
      have hsz := hR _ _ _ hRw
      have vi : (a.put (some d) v).tmps.getD (D.getD i 0) undef = v := by
        rw [hdD]
        simp [Act.put, h.size, hdlt]
      have vj : ∀ j, j ≠ i → (listed.setIfInBounds i true).getD j false = true → listed.getD j false = true ∧ (a.put (some d) v).tmps.getD (D.getD j 0) undef = a.tmps.getD (D.getD j 0) undef := by
        intro j hji hj
        rw [getD_set_ne false (Ne.symm hji)] at hj
        have hjn : j < n := by
          rcases Nat.lt_or_ge j n with hlt | hge
          · exact hlt
          · rw [htail j hge] at hj
            cases hj
        have hDj : D[j]? = some (D.getD j 0) := by simp [hlen, hjn]
        have hne : d ≠ D.getD j 0 := by
          intro he
          have h1 : D[i]? = D[j]? := by rw [hDi, hDj, he]
          exact hji ((List.getElem?_inj (by omega) hn).1 h1).symm
        refine ⟨hj, ?_⟩
        rw [Array.getD_eq_getD_getElem?, Array.getD_eq_getD_getElem?, Act.put, Array.getElem?_setIfInBounds_ne hne]
      refine ih _ _ _ (by simpa using hs) hcl' (fun j hj => getD_set_true (hfl j hj)) (fun j hj => by rw [getD_set_ne false (by omega)]; exact htail j hj) ?_ ⟨hs2 _ hRw, by simpa [Act.put] using h.size, h.defers, ?_, ?_, ?_, ?_⟩
      · have hb : listed[i] = false := by simpa [hil] using hun
        rw [Array.toList_setIfInBounds, List.take_set, List.count_set (by simp; omega)]
        simp [hb, hc]
      · intro k hk
        have hkd : d ≠ k := by
          rintro rfl
          exact hk (List.mem_of_getElem? hDi)
        simpa [Act.put, Array.getElem?_setIfInBounds_ne hkd] using h.frame k hk
      · intro j hj
        by_cases hji : j = i
        · subst hji
          rw [vi]
          exact hFv
        · obtain ⟨h1, h2⟩ := vj j hji hj
          rw [h2]
          exact hF i j _ _ _ hji (h.facts j h1) hRw
      · intro j hj ha
        by_cases hji : j = i
        · subst hji
          rw [vi]
          exact fun g hg => (hfresh ha g hg).2
        · obtain ⟨h1, h2⟩ := vj j hji hj
          rw [h2]
          exact fun g hg => Nat.lt_of_lt_of_le (h.own j h1 ha g hg) hsz
      · intro j k hjk hj hk haj hak
        by_cases hji : j = i
        · subst hji
          obtain ⟨h1, h2⟩ := vj k (Ne.symm hjk) hk
          rw [vi, h2]
          intro g h3 h4
          have q1 := h.own k h1 hak g h4
          have q2 := (hfresh haj g h3).1
          omega
        · obtain ⟨h1, h2⟩ := vj j hji hj
          rw [h2]
          by_cases hki : k = i
          · subst hki
            rw [vi]
            intro g h3 h4
            have q1 := h.own j h1 haj g h3
            have q2 := (hfresh hak g h4).1
            omega
          · obtain ⟨h5, h6⟩ := vj k hki hk
            rw [h6]
            exact h.dist j k hjk h1 h5 haj hak
    unfold wpOp
    rw [ho]
    simp only [hw, if_true]
    refine .inl ?_
    unfold Oper.wp
    generalize hr : (execOp a.eval o).run P w = r at *
    unfold GoodP at hgood
    split at hgood
    · exact step _ _ hgood.1 hgood.2.1 hgood.2.2
    · exact step _ _ hgood.1 hgood.2.1 hgood.2.2
    · refine Calls.mono hgood ?_
      rintro e w'' ⟨v, rfl, h1, h2, h3⟩
      exact step _ _ h1 h2 h3
    · exact hgood.elim
theorem region_facts_turn {id : Nat} {w : World} (n sp : Nat) (hsp : decide (sp < n) = true) (al : Nat → Bool) (F : Nat → Value → World → Prop) (S : Bool → World → Prop) (R : Nat → World → World → Prop) (D : List Nat) (hm : P.follows .mixedOrders = true) (hnn : decide (n ≤ ops.size) = true)
    (hD : (ops.toList.take n).map (·.dst) = D.map some) (hn : D.Nodup) (hlt' : (D.all fun d => decide (d < fr.size)) = true) (ht : (topoB ops && tailB ops n (fun _ => false) && Region.seqB .any ops (ops.size - n) n (headL n (ops.size - n))) = true)
    (hF : ∀ i j v w w', j ≠ i → F j v w → R i w w' → F j v w') (hS : ∀ i ph w w', (i = sp → ph = false) → S ph w → R i w w' → S (ph || decide (i = sp)) w') (hR : ∀ i w w', R i w w' → w.heap.size ≤ w'.heap.size) (h0 : S false w.drew) (ob : ∀ f, f = fr → AllObP P F S R sp al D f 0 (ops.toList.take n))
    (fin : ∀ (vs : Nat → Value) w, S true w → (∀ j, j < n → F j (vs j) w) → (∀ j k, j ≠ k → j < n → k < n → al j = true → al k = true → ∀ g, blkOf (vs j) = some g → blkOf (vs k) = some g → False) → wpList P ops Q (ops.toList.drop n) ⟨setAll fr 0 D vs, df⟩ w) : (Code.region id ops true).wp P Q ⟨fr, df⟩ w := by
  have hlt : ∀ d ∈ D, d < fr.size := fun d hd => by simpa using List.all_eq_true.1 hlt' d hd
  have hnn' : n ≤ ops.size := of_decide_eq_true hnn
  simp only [Bool.and_eq_true] at ht
  obtain ⟨⟨ht, htl⟩, hsq⟩ := ht
  have hsp' : sp < n := of_decide_eq_true hsp
  have hgo := facts_anyP (P := P) (Q := Q) (fr := fr) (df := df) hsp' hnn' hD hn hlt ht htl hsq hF hS hR (ob fr rfl) ?_ n (Array.replicate ops.size false) ⟨fr, df⟩ w.drew (by simp) (fun j o hj hl => by by_cases hj' : j < ops.size <;> simp [hj'] at hl) (fun j hj => by cases hj) (fun j _ => by by_cases hj : j < ops.size <;> simp [hj]) (by simp [List.take_replicate]; omega) ⟨by (have hq : (Array.replicate ops.size false).getD sp false = false := by by_cases hj : sp < ops.size <;> simp [hj]); rw [hq]; exact h0, rfl, rfl, fun _ _ => rfl, ?_, ?_, ?_⟩
  · rw [show n + (ops.size - n) = ops.size by omega] at hgo
    exact wp_region_any hm hgo
  · intro a w' h
    have hlen : D.length = n := by
      have := congrArg List.length hD
      rw [List.length_map, List.length_map, List.length_take] at this
      simp at this
      omega
    have := fin (fun j => a.tmps.getD (D.getD j 0) undef) w' (by have := h.s; rwa [show (Array.replicate n true).getD sp false = true by simp [hsp']] at this) (fun j hj => h.facts j (by simp [hj])) (fun j k hjk hj hk => h.dist j k hjk (by simp [hj]) (by simp [hk]))
    have e : a = ⟨setAll fr 0 D (fun j => a.tmps.getD (D.getD j 0) undef), df⟩ := by
      obtain ⟨tm, dd⟩ := a
      have h1 := h.size
      have h2 := h.defers
      have h3 := h.frame
      simp only at h1 h2 h3
      subst h2
      congr 1
      refine Array.ext (by rw [setAll_size, h1]) ?_
      intro k hk1 hk2
      have g : tm.getD k undef = (setAll fr 0 D (fun j => tm.getD (D.getD j 0) undef)).getD k undef := by
        by_cases hkD : k ∈ D
        · obtain ⟨j, hj, rfl⟩ := List.mem_iff_getElem.1 hkD
          rw [setAll_in D fr 0 _ j D[j] hn (by simp [hj]) (by omega)]
          simp [hj]
        · rw [setAll_out D fr 0 _ k hkD, h3 k hkD]
      rw [Array.getD_eq_getD_getElem?, Array.getD_eq_getD_getElem?, Array.getElem?_eq_getElem hk1, Array.getElem?_eq_getElem hk2] at g
      exact g
    rw [e]
    exact this
  · intro j hj
    by_cases hj' : j < ops.size <;> simp [hj'] at hj
  · intro j hj
    by_cases hj' : j < ops.size <;> simp [hj'] at hj
  · intro j k _ hj
    by_cases hj' : j < ops.size <;> simp [hj'] at hj
end
end Go.Proofs.Ytpbepmipfjcjbaa
namespace Go.Proofs.Ytpbepmipfjcjbaa
open Go.RowKit
section
variable {P : Program} {ops : Array Oper} {Q : Exit → Act → World → Prop} {F : Nat → Value → World → Prop} {S : (Nat → Bool) → World → Prop} {R : Nat → World → World → Prop} {al : Nat → Bool} {D : List Nat} {fr : Array Value} {df : List Deferred}
/-- Each of the operations from number n on waits for each ahead of n, by six steps at most (over whichever operations). -/
def tailQ (ops : Array Oper) (n : Nat) (fl : Nat → Bool) : Bool := (List.range ops.size).all fun t => decide (t < n) || (List.range n).all fun i => fl i || reachB ops ops.size 5 t i
theorem tailQ_spec {n : Nat} {fl : Nat → Bool} (h : tailQ ops n fl = true) {listed : Array Bool} (hc : Closed ops listed) {t i : Nat} (ht : t ∈ Region.ready .any ops listed) (hn : n ≤ t) (hi : i < n) (hfl : fl i = false) : listed.getD i false = true := by
  obtain ⟨_, o, ho, hdep⟩ := mem_ready.1 ht
  have hts : t < ops.size := (Array.getElem?_eq_some_iff.1 ho).1
  have one : ∀ k, Region.waitsFor .any ops t k = true → listed.getD k false = true := by
    intro k hk
    obtain ⟨oj, hoj, e, he, hb, rfl⟩ := Region.waitsFor_spec hk
    rw [ho] at hoj
    injection hoj with hoj
    subst hoj
    exact hdep e he hb
  unfold tailQ at h
  rw [List.all_eq_true] at h
  have h1 := h t (List.mem_range.2 hts)
  rw [Bool.or_eq_true, decide_eq_true_iff] at h1
  rcases h1 with h1 | h1
  · omega
  · rw [List.all_eq_true] at h1
    have h2 := h1 i (List.mem_range.2 hi)
    rw [hfl, Bool.false_or] at h2
    unfold reachB at h2
    rw [Bool.or_eq_true] at h2
    rcases h2 with h2 | h2
    · exact one i h2
    · rw [List.any_eq_true] at h2
      obtain ⟨k, _, hk⟩ := h2
      rw [Bool.and_eq_true] at hk
      exact hc.reach _ k i (one k hk.1) hk.2
/-- i, too, is done. -/
def also (p : Nat → Bool) (i : Nat) : Nat → Bool := fun j => p j || decide (j = i)
/-- What an operation must find: those that it waits for are done. -/
def DepQ (p : Nat → Bool) : List Edge → Prop
  | [] => True
  | e :: l => (Region.binds .any e = true → p e.on = true) ∧ DepQ p l
def GoodQ (P : Program) (F : Nat → Value → World → Prop) (S : (Nat → Bool) → World → Prop) (R : Nat → World → World → Prop) (al : Nat → Bool) (p : Nat → Bool) (i : Nat) (w : World) : Result Next → Prop
  | .ok (.value v) w' => F i v w' ∧ R i w w' ∧ (al i = true → Frsh v w w') ∧ S (also p i) w'
  | .ok .skip w' => F i undef w' ∧ R i w w' ∧ (al i = true → Frsh undef w w') ∧ S (also p i) w'
  | .ok (.enter f args) w' => Calls P f args w' fun e w'' => ∃ v, e = .returned v ∧ F i v w'' ∧ R i w w'' ∧ (al i = true → Frsh v w w'') ∧ S (also p i) w''
  | _ => False
def ObQ (P : Program) (F : Nat → Value → World → Prop) (S : (Nat → Bool) → World → Prop) (R : Nat → World → World → Prop) (al : Nat → Bool) (D : List Nat) (fr : Array Value) (i : Nat) (o : Oper) : Prop :=
  GuardOk F o ∧ ∀ (ρ : Operand → Value) (w : World) (p : Nat → Bool), p i = false → DepQ p o.after.toList → Rho ρ D fr → DepF F D ρ w o.after.toList → S p w → GoodQ P F S R al p i w ((execOp ρ o).run P w)
def AllObQ (P : Program) (F : Nat → Value → World → Prop) (S : (Nat → Bool) → World → Prop) (R : Nat → World → World → Prop) (al : Nat → Bool) (D : List Nat) (fr : Array Value) : Nat → List Oper → Prop
  | _, [] => True
  | i, o :: l => ObQ P F S R al D fr i o ∧ AllObQ P F S R al D fr (i + 1) l
theorem AllObQ.get : ∀ {l : List Oper} {i : Nat}, AllObQ P F S R al D fr i l → ∀ j o, l[j]? = some o → ObQ P F S R al D fr (i + j) o
  | [], _, _, j, o, ho => by simp at ho
  | x :: l, i, h, 0, o, ho => by
    simp only [List.getElem?_cons_zero, Option.some.injEq] at ho
    subst ho
    exact h.1
  | x :: l, i, h, j + 1, o, ho => by
    have := AllObQ.get h.2 j o (by simpa using ho)
    rw [show i + (j + 1) = i + 1 + j by omega]
    exact this
structure HeldQ (F : Nat → Value → World → Prop) (S : (Nat → Bool) → World → Prop) (al : Nat → Bool) (D : List Nat) (fr : Array Value) (df : List Deferred) (listed : Array Bool) (a : Act) (w : World) : Prop where
  s : S (fun j => listed.getD j false) w
  size : a.tmps.size = fr.size
  defers : a.defers = df
  frame : ∀ k, k ∉ D → a.tmps.getD k undef = fr.getD k undef
  facts : ∀ j, listed.getD j false = true → F j (a.tmps.getD (D.getD j 0) undef) w
  own : ∀ j, listed.getD j false = true → al j = true → ∀ g, blkOf (a.tmps.getD (D.getD j 0) undef) = some g → g < w.heap.size
  dist : ∀ j k, j ≠ k → listed.getD j false = true → listed.getD k false = true → al j = true → al k = true → ∀ g, blkOf (a.tmps.getD (D.getD j 0) undef) = some g → blkOf (a.tmps.getD (D.getD k 0) undef) = some g → False
theorem facts_anyQ {n : Nat} {fl : Nat → Bool} (hnn : n ≤ ops.size) (hD : (ops.toList.take n).map (·.dst) = D.map some) (hn : D.Nodup) (hlt : ∀ d ∈ D, d < fr.size) (ht : topoB ops = true) (htl : tailQ ops n fl = true) (hsq : Region.seqB .any ops (ops.size - n) n (headL n (ops.size - n)) = true)
    (hF : ∀ i j v w w', j ≠ i → F j v w → R i w w' → F j v w') (hR : ∀ i w w', R i w w' → w.heap.size ≤ w'.heap.size) (ob : AllObQ P F S R al D fr 0 (ops.toList.take n))
    (fin : ∀ a w, HeldQ F S al D fr df (Array.replicate n true) a w → wpList P ops Q (ops.toList.drop n) a w) :
    ∀ (fuel : Nat) (listed : Array Bool) (a : Act) (w : World), listed.size = ops.size → Closed ops listed → (∀ j, fl j = true → listed.getD j false = true) → (∀ j, n ≤ j → listed.getD j false = false) → (listed.toList.take n).count false = fuel → HeldQ F S al D fr df listed a w → wpAny P .any ops Q (fuel + (ops.size - n)) listed a w := by
  have hlen : D.length = n := by
    have := congrArg List.length hD
    rw [List.length_map, List.length_map, List.length_take] at this
    simp at this
    omega
  have dstOf : ∀ (i : Nat) (o : Oper), i < n → ops[i]? = some o → ∃ d, o.dst = some d ∧ D[i]? = some d := by
    intro i o hi ho
    have h1 : ((ops.toList.take n).map (·.dst))[i]? = some o.dst := by simp [ho, hi]
    rw [hD] at h1
    simp only [List.getElem?_map, Option.map_eq_some_iff] at h1
    obtain ⟨d, h2, h3⟩ := h1
    exact ⟨d, h3.symm, h2⟩
  intro fuel
  induction fuel with
  | zero =>
    intro listed a w hs hcl hfl htail hc h
    have hall : ∀ j, j < n → listed.getD j false = true := by
      intro j hj
      have hj' : j < listed.size := by omega
      have hm : listed[j] ∈ listed.toList.take n := by
        rw [List.mem_iff_getElem?]
        exact ⟨j, by rw [List.getElem?_take, if_pos hj]; simp [hj']⟩
      cases hb : listed[j] with
      | true => simp [hj', hb]
      | false =>
        rw [hb] at hm
        exact absurd hm (List.count_eq_zero.1 hc)
    have hlist : listed = headL n (ops.size - n) := by
      refine Array.ext (by simp [headL]; omega) ?_
      intro j h1 h2
      by_cases hj : j < n
      · have := hall j hj
        have e2 : (headL n (ops.size - n))[j] = true := by simp [headL, hj]
        rw [e2]
        simpa [h1] using this
      · have := htail j (by omega)
        have e2 : (headL n (ops.size - n))[j] = false := by simp [headL, List.getElem_append, hj]
        rw [e2]
        simpa [h1] using this
    rw [Nat.zero_add]
    have hl : (ops.toList.drop n).length = ops.size - n := by simp
    rw [← hl]
    have hup : ∀ j, (Array.replicate n true).getD j false = true → listed.getD j false = true := by
      intro j hj
      by_cases hj' : j < n
      · exact hall j hj'
      · simp [hj'] at hj
    have hlistQ : (fun j => (Array.replicate n true).getD j false) = fun j => listed.getD j false := by
      funext j
      by_cases hj : j < n
      · rw [hall j hj]
        simp [hj]
      · rw [htail j (by omega)]
        simp [hj]
    refine wpAny_of_seq (ops.toList.drop n) n listed a w (fun j => by simp [List.getElem?_drop]) ?_ (fin a w ⟨by rw [hlistQ]; exact h.s, h.size, h.defers, h.frame, fun j hj => h.facts j (hup j hj), fun j hj => h.own j (hup j hj), fun j k hjk hj hk => h.dist j k hjk (hup j hj) (hup k hk)⟩)
    rw [hl, hlist]
    exact hsq
  | succ fuel ih =>
    intro listed a w hs hcl hfl htail hc h
    obtain ⟨j0, hj0, hun0⟩ : ∃ j, j < n ∧ listed.getD j false = false := by
      have : false ∈ listed.toList.take n := by
        rw [← List.count_pos_iff, hc]
        omega
      obtain ⟨j, hj⟩ := List.mem_iff_getElem?.1 this
      rw [List.getElem?_take] at hj
      split at hj
      · rename_i hjn
        refine ⟨j, hjn, ?_⟩
        rw [Array.getElem?_toList] at hj
        simp [hj]
      · cases hj
    rw [show fuel + 1 + (ops.size - n) = (fuel + (ops.size - n)) + 1 by omega]
    refine ⟨fun hr => ?_, fun i hi => ?_⟩
    · have := ready_nil ht hs hr j0 (by omega)
      rw [this] at hun0
      cases hun0
    have hin : i < n := by
      rcases Nat.lt_or_ge i n with hlt | hge
      · exact hlt
      · have hj0f : fl j0 = false := by
          cases hb : fl j0 with
          | false => rfl
          | true =>
            rw [hfl j0 hb] at hun0
            cases hun0
        have := tailQ_spec htl hcl hi hge hj0 hj0f
        rw [this] at hun0
        cases hun0
    obtain ⟨hun, o, ho, hdep⟩ := mem_ready.1 hi
    have hio : i < ops.size := (Array.getElem?_eq_some_iff.1 ho).1
    have hil : i < listed.size := by omega
    obtain ⟨d, hd, hDi⟩ := dstOf i o hin ho
    have hdD : D.getD i 0 = d := by simp [hDi]
    have hdlt : d < fr.size := hlt d (List.mem_of_getElem? hDi)
    obtain ⟨hg, hob⟩ := ob.get i o (by simp [hin, ho])
    rw [Nat.zero_add] at hob
    have hdeps : ∀ e ∈ o.after.toList, Region.binds .any e = true → F e.on (a.eval (.tmp (D.getD e.on 0))) w := fun e he hb => h.facts e.on (hdep e (Array.mem_toList_iff.1 he) hb)
    have hDep : ∀ l : List Edge, (∀ e ∈ l, Region.binds .any e = true → F e.on (a.eval (.tmp (D.getD e.on 0))) w) → DepF F D a.eval w l := by
      intro l
      induction l with
      | nil => intro _; trivial
      | cons e l ihl => intro hl; exact ⟨hl e (by simp), ihl fun e' he' => hl e' (by simp [he'])⟩
    have hunl : listed.getD i false = false := by
      have hb : listed[i] = false := by simpa [hil] using hun
      simp [hil, hb]
    have hDq : ∀ l : List Edge, (∀ e ∈ l, Region.binds .any e = true → listed.getD e.on false = true) → DepQ (fun j => listed.getD j false) l := by
      intro l
      induction l with
      | nil => intro _; trivial
      | cons e l ihl => intro hl; exact ⟨hl e (by simp), ihl fun e' he' => hl e' (by simp [he'])⟩
    have hgood := hob a.eval w (fun j => listed.getD j false) hunl (hDq _ fun e he hb => hdep e (Array.mem_toList_iff.1 he) hb) ⟨fun _ => rfl, fun _ => rfl, fun _ => rfl, fun k hk => h.frame k (by simpa using hk)⟩ (hDep _ hdeps) h.s
    have hw : Region.wanted o (yielded ops a.tmps) = true := by
      unfold GuardOk at hg
      unfold Region.wanted
      split
      · rfl
      · rename_i j b hgd
        rw [hgd] at hg
        obtain ⟨hany, hval⟩ := hg
        rw [List.any_eq_true] at hany
        obtain ⟨e, he, hb⟩ := hany
        simp only [Bool.and_eq_true, beq_iff_eq] at hb
        obtain ⟨hb1, rfl⟩ := hb
        have hv := hval _ _ (hdeps e he hb1)
        have hj : e.on < ops.size := Nat.lt_trans (topo_spec ht i o ho e (Array.mem_toList_iff.1 he) hb1) hio
        obtain ⟨d', hd', hD'⟩ := dstOf e.on ops[e.on] (Nat.lt_trans (topo_spec ht i o ho e (Array.mem_toList_iff.1 he) hb1) hin) (by simp [hj])
        have hlt' : d' < a.tmps.size := by rw [h.size]; exact hlt d' (List.mem_of_getElem? hD')
        have hval2 : a.tmps[d']? = some (.bool b) := by
          have : a.tmps.getD d' undef = .bool b := by simpa [Act.eval, hD'] using hv
          simpa [hlt'] using this
        simp [yielded, hj, hd', hval2]
    have hcl' : Closed ops (listed.setIfInBounds i true) := by
      intro j oj hj hl e he hb
      by_cases hij : i = j
      · subst hij
        rw [ho] at hj
        injection hj with hj
        subst hj
        exact getD_set_true (hdep e he hb)
      · rw [getD_set_ne false hij] at hl
        exact getD_set_true (hcl j oj hj hl e he hb)
    have hs2 : also (fun j => listed.getD j false) i = fun j => (listed.setIfInBounds i true).getD j false := by
      funext j
      unfold also
      by_cases h : i = j
      · subst h
        simp [hil]
      · rw [getD_set_ne false h, decide_eq_false (fun e => h e.symm), Bool.or_false]
    have step : ∀ v w', F i v w' → R i w w' → (al i = true → Frsh v w w') → S (also (fun j => listed.getD j false) i) w' → wpAny P .any ops Q (fuel + (ops.size - n)) (listed.setIfInBounds i true) (a.put o.dst v) w' := by
      intro v w' hFv hRw hfresh hSw
      rw [hs2] at hSw
      rw [hd]
      have hsz := hR _ _ _ hRw
      have vi : (a.put (some d) v).tmps.getD (D.getD i 0) undef = v := by
        rw [hdD]
        simp [Act.put, h.size, hdlt]
      have vj : ∀ j, j ≠ i → (listed.setIfInBounds i true).getD j false = true → listed.getD j false = true ∧ (a.put (some d) v).tmps.getD (D.getD j 0) undef = a.tmps.getD (D.getD j 0) undef := by
        intro j hji hj
        rw [getD_set_ne false (Ne.symm hji)] at hj
        have hjn : j < n := by
          rcases Nat.lt_or_ge j n with hlt | hge
          · exact hlt
          · rw [htail j hge] at hj
            cases hj
        have hDj : D[j]? = some (D.getD j 0) := by simp [hlen, hjn]
        have hne : d ≠ D.getD j 0 := by
          intro he
          have h1 : D[i]? = D[j]? := by rw [hDi, hDj, he]
          exact hji ((List.getElem?_inj (by omega) hn).1 h1).symm
        refine ⟨hj, ?_⟩
        rw [Array.getD_eq_getD_getElem?, Array.getD_eq_getD_getElem?, Act.put, Array.getElem?_setIfInBounds_ne hne]
      refine ih _ _ _ (by simpa using hs) hcl' (fun j hj => getD_set_true (hfl j hj)) (fun j hj => by rw [getD_set_ne false (by omega)]; exact htail j hj) ?_ ⟨hSw, by simpa [Act.put] using h.size, h.defers, ?_, ?_, ?_, ?_⟩
      · have hb : listed[i] = false := by simpa [hil] using hun
        rw [Array.toList_setIfInBounds, List.take_set, List.count_set (by simp; omega)]
        simp [hb, hc]
      · intro k hk
        have hkd : d ≠ k := by
          rintro rfl
          exact hk (List.mem_of_getElem? hDi)
        simpa [Act.put, Array.getElem?_setIfInBounds_ne hkd] using h.frame k hk
      · intro j hj
        by_cases hji : j = i
        · subst hji
          rw [vi]
          exact hFv
        · obtain ⟨h1, h2⟩ := vj j hji hj
          rw [h2]
          exact hF i j _ _ _ hji (h.facts j h1) hRw
      · intro j hj ha
        by_cases hji : j = i
        · subst hji
          rw [vi]
          exact fun g hg => (hfresh ha g hg).2
        · obtain ⟨h1, h2⟩ := vj j hji hj
          rw [h2]
          exact fun g hg => Nat.lt_of_lt_of_le (h.own j h1 ha g hg) hsz
      · intro j k hjk hj hk haj hak
        by_cases hji : j = i
        · subst hji
          obtain ⟨h1, h2⟩ := vj k (Ne.symm hjk) hk
          rw [vi, h2]
          intro g h3 h4
          have q1 := h.own k h1 hak g h4
          have q2 := (hfresh haj g h3).1
          omega
        · obtain ⟨h1, h2⟩ := vj j hji hj
          rw [h2]
          by_cases hki : k = i
          · subst hki
            rw [vi]
            intro g h3 h4
            have q1 := h.own j h1 haj g h3
            have q2 := (hfresh hak g h4).1
            omega
          · obtain ⟨h5, h6⟩ := vj k hki hk
            rw [h6]
            exact h.dist j k hjk h1 h5 haj hak
    unfold wpOp
    rw [ho]
    simp only [hw, if_true]
    refine .inl ?_
    unfold Oper.wp
    generalize hr : (execOp a.eval o).run P w = r at *
    unfold GoodQ at hgood
    split at hgood
    · exact step _ _ hgood.1 hgood.2.1 hgood.2.2.1 hgood.2.2.2
    · exact step _ _ hgood.1 hgood.2.1 hgood.2.2.1 hgood.2.2.2
    · refine Calls.mono hgood ?_
      rintro e w'' ⟨v, rfl, h1, h2, h3, h4⟩
      exact step _ _ h1 h2 h3 h4
    · exact hgood.elim
theorem region_facts_set {id : Nat} {w : World} (n : Nat) (al : Nat → Bool) (F : Nat → Value → World → Prop) (S : (Nat → Bool) → World → Prop) (R : Nat → World → World → Prop) (D : List Nat) (hm : P.follows .mixedOrders = true) (hnn : decide (n ≤ ops.size) = true)
    (hD : (ops.toList.take n).map (·.dst) = D.map some) (hn : D.Nodup) (hlt' : (D.all fun d => decide (d < fr.size)) = true) (ht : (topoB ops && tailQ ops n (fun _ => false) && Region.seqB .any ops (ops.size - n) n (headL n (ops.size - n))) = true)
    (hF : ∀ i j v w w', j ≠ i → F j v w → R i w w' → F j v w') (hR : ∀ i w w', R i w w' → w.heap.size ≤ w'.heap.size) (h0 : S (fun _ => false) w.drew) (ob : ∀ f, f = fr → AllObQ P F S R al D f 0 (ops.toList.take n))
    (fin : ∀ (vs : Nat → Value) w, S (fun j => decide (j < n)) w → (∀ j, j < n → F j (vs j) w) → (∀ j k, j ≠ k → j < n → k < n → al j = true → al k = true → ∀ g, blkOf (vs j) = some g → blkOf (vs k) = some g → False) → wpList P ops Q (ops.toList.drop n) ⟨setAll fr 0 D vs, df⟩ w) : (Code.region id ops true).wp P Q ⟨fr, df⟩ w := by
  have hlt : ∀ d ∈ D, d < fr.size := fun d hd => by simpa using List.all_eq_true.1 hlt' d hd
  have hnn' : n ≤ ops.size := of_decide_eq_true hnn
  simp only [Bool.and_eq_true] at ht
  obtain ⟨⟨ht, htl⟩, hsq⟩ := ht
  have hgo := facts_anyQ (P := P) (Q := Q) (fr := fr) (df := df) hnn' hD hn hlt ht htl hsq hF hR (ob fr rfl) ?_ n (Array.replicate ops.size false) ⟨fr, df⟩ w.drew (by simp) (fun j o hj hl => by by_cases hj' : j < ops.size <;> simp [hj'] at hl) (fun j hj => by cases hj) (fun j _ => by by_cases hj : j < ops.size <;> simp [hj]) (by simp [List.take_replicate]; omega) ⟨by rw [show (fun j => (Array.replicate ops.size false).getD j false) = fun _ => false from funext fun j => (by by_cases hj : j < ops.size <;> simp [hj])]; exact h0, rfl, rfl, fun _ _ => rfl, ?_, ?_, ?_⟩
  · rw [show n + (ops.size - n) = ops.size by omega] at hgo
    exact wp_region_any hm hgo
  · intro a w' h
    have hlen : D.length = n := by
      have := congrArg List.length hD
      rw [List.length_map, List.length_map, List.length_take] at this
      simp at this
      omega
    have := fin (fun j => a.tmps.getD (D.getD j 0) undef) w' (by have := h.s; rwa [show (fun j => (Array.replicate n true).getD j false) = fun j => decide (j < n) from funext fun j => (by by_cases hj : j < n <;> simp [hj])] at this) (fun j hj => h.facts j (by simp [hj])) (fun j k hjk hj hk => h.dist j k hjk (by simp [hj]) (by simp [hk]))
    have e : a = ⟨setAll fr 0 D (fun j => a.tmps.getD (D.getD j 0) undef), df⟩ := by
      obtain ⟨tm, dd⟩ := a
      have h1 := h.size
      have h2 := h.defers
      have h3 := h.frame
      simp only at h1 h2 h3
      subst h2
      congr 1
      refine Array.ext (by rw [setAll_size, h1]) ?_
      intro k hk1 hk2
      have g : tm.getD k undef = (setAll fr 0 D (fun j => tm.getD (D.getD j 0) undef)).getD k undef := by
        by_cases hkD : k ∈ D
        · obtain ⟨j, hj, rfl⟩ := List.mem_iff_getElem.1 hkD
          rw [setAll_in D fr 0 _ j D[j] hn (by simp [hj]) (by omega)]
          simp [hj]
        · rw [setAll_out D fr 0 _ k hkD, h3 k hkD]
      rw [Array.getD_eq_getD_getElem?, Array.getD_eq_getD_getElem?, Array.getElem?_eq_getElem hk1, Array.getElem?_eq_getElem hk2] at g
      exact g
    rw [e]
    exact this
  · intro j hj
    by_cases hj' : j < ops.size <;> simp [hj'] at hj
  · intro j hj
    by_cases hj' : j < ops.size <;> simp [hj'] at hj
  · intro j k _ hj
    by_cases hj' : j < ops.size <;> simp [hj'] at hj
end
end Go.Proofs.Ytpbepmipfjcjbaa
namespace Go.Proofs.Ytpbepmipfjcjbaa
open Go.RowKit
section
variable {P : Program} {ops : Array Oper} {Q : Exit → Act → World → Prop} {F : Nat → Value → World → Prop} {S : (Nat → Bool) → World → Prop} {R : Nat → World → World → Prop} {al : Nat → Bool} {D : List Nat} {fr : Array Value} {df : List Deferred}
def GoodR (P : Program) (F : Nat → Value → World → Prop) (S : (Nat → Bool) → World → Prop) (R : Nat → World → World → Prop) (al : Nat → Bool) (p : Nat → Bool) (dn : Bool) (i : Nat) (w : World) : Result Next → Prop
  | .ok (.value v) w' => (dn = true → v = undef) ∧ F i v w' ∧ R i w w' ∧ (al i = true → Frsh v w w') ∧ S (also p i) w'
  | .ok .skip w' => F i undef w' ∧ R i w w' ∧ (al i = true → Frsh undef w w') ∧ S (also p i) w'
  | .ok (.enter f args) w' => Calls P f args w' fun e w'' => ∃ v, e = .returned v ∧ (dn = true → v = undef) ∧ F i v w'' ∧ R i w w'' ∧ (al i = true → Frsh v w w'') ∧ S (also p i) w''
  | _ => False
def ObR (P : Program) (F : Nat → Value → World → Prop) (S : (Nat → Bool) → World → Prop) (R : Nat → World → World → Prop) (al : Nat → Bool) (D : List Nat) (fr : Array Value) (i : Nat) (o : Oper) : Prop :=
  GuardOk F o ∧ ∀ (ρ : Operand → Value) (w : World) (p : Nat → Bool), p i = false → DepQ p o.after.toList → Rho ρ D fr → DepF F D ρ w o.after.toList → S p w → GoodR P F S R al p o.dst.isNone i w ((execOp ρ o).run P w)
def AllObR (P : Program) (F : Nat → Value → World → Prop) (S : (Nat → Bool) → World → Prop) (R : Nat → World → World → Prop) (al : Nat → Bool) (D : List Nat) (fr : Array Value) : Nat → List Oper → Prop
  | _, [] => True
  | i, o :: l => ObR P F S R al D fr i o ∧ AllObR P F S R al D fr (i + 1) l
theorem AllObR.get : ∀ {l : List Oper} {i : Nat}, AllObR P F S R al D fr i l → ∀ j o, l[j]? = some o → ObR P F S R al D fr (i + j) o
  | [], _, _, j, o, ho => by simp at ho
  | x :: l, i, h, 0, o, ho => by
    simp only [List.getElem?_cons_zero, Option.some.injEq] at ho
    subst ho
    exact h.1
  | x :: l, i, h, j + 1, o, ho => by
    have := AllObR.get h.2 j o (by simpa using ho)
    rw [show i + (j + 1) = i + 1 + j by omega]
    exact this
/-- Each operation's slot is D's; one that has none is given a place behind the frame. -/
def dstB (ops : Array Oper) (n : Nat) (D : List Nat) (size : Nat) : Bool :=
  decide (D.length = n) && (List.range n).all fun i => match ops[i]?, D[i]? with
    | some o, some d => (match o.dst with
      | some e => (e == d) && decide (d < size)
      | none => decide (size ≤ d))
    | _, _ => false
theorem dstB_spec {n : Nat} {size : Nat} {D : List Nat} (h : dstB ops n D size = true) : D.length = n ∧ ∀ (i : Nat) (o : Oper), i < n → ops[i]? = some o → ∃ d, D[i]? = some d ∧ ((o.dst = some d ∧ d < size) ∨ (o.dst = none ∧ size ≤ d)) := by
  unfold dstB at h
  rw [Bool.and_eq_true, decide_eq_true_iff, List.all_eq_true] at h
  refine ⟨h.1, fun i o hi ho => ?_⟩
  have h2 := h.2 i (List.mem_range.2 hi)
  rw [ho] at h2
  cases hD : D[i]? with
  | none => rw [hD] at h2; cases h2
  | some d =>
    rw [hD] at h2
    dsimp only at h2
    refine ⟨d, rfl, ?_⟩
    cases hd : o.dst with
    | none => rw [hd] at h2; exact .inr ⟨rfl, by simpa using h2⟩
    | some e =>
      rw [hd] at h2
      simp only [Bool.and_eq_true, beq_iff_eq, decide_eq_true_eq] at h2
      exact .inl ⟨by rw [h2.1], h2.2⟩
theorem put_seen (a : Act) (o : Option Nat) (d : Nat) (v : Value) (h : (o = some d ∧ d < a.tmps.size) ∨ (o = none ∧ a.tmps.size ≤ d)) (hv : o.isNone = true → v = undef) :
    (a.put o v).tmps.size = a.tmps.size ∧ (a.put o v).defers = a.defers ∧ (a.put o v).tmps.getD d undef = v ∧ ∀ k, d ≠ k → (a.put o v).tmps.getD k undef = a.tmps.getD k undef := by
  rcases h with ⟨rfl, hd⟩ | ⟨rfl, hd⟩
  · refine ⟨by simp [Act.put], rfl, by simp [Act.put, hd], fun k hk => ?_⟩
    rw [Array.getD_eq_getD_getElem?, Array.getD_eq_getD_getElem?, Act.put, Array.getElem?_setIfInBounds_ne hk]
  · refine ⟨rfl, rfl, ?_, fun k _ => rfl⟩
    rw [hv rfl]
    simp [Act.put, Array.getD_eq_getD_getElem?, hd]
structure HeldR (F : Nat → Value → World → Prop) (S : (Nat → Bool) → World → Prop) (al : Nat → Bool) (D : List Nat) (fr : Array Value) (df : List Deferred) (listed : Array Bool) (a : Act) (w : World) : Prop where
  s : S (fun j => listed.getD j false) w
  size : a.tmps.size = fr.size
  defers : a.defers = df
  frame : ∀ k, k ∉ D → a.tmps.getD k undef = fr.getD k undef
  facts : ∀ j, listed.getD j false = true → F j (a.tmps.getD (D.getD j 0) undef) w
  own : ∀ j, listed.getD j false = true → al j = true → ∀ g, blkOf (a.tmps.getD (D.getD j 0) undef) = some g → g < w.heap.size
  dist : ∀ j k, j ≠ k → listed.getD j false = true → listed.getD k false = true → al j = true → al k = true → ∀ g, blkOf (a.tmps.getD (D.getD j 0) undef) = some g → blkOf (a.tmps.getD (D.getD k 0) undef) = some g → False
theorem facts_anyR {n : Nat} {fl : Nat → Bool} (hnn : n ≤ ops.size) (hD : dstB ops n D fr.size = true) (hn : D.Nodup) (ht : topoB ops = true) (htl : tailQ ops n fl = true) (hsq : Region.seqB .any ops (ops.size - n) n (headL n (ops.size - n)) = true)
    (hF : ∀ i j v w w', j ≠ i → F j v w → R i w w' → F j v w') (hR : ∀ i w w', R i w w' → w.heap.size ≤ w'.heap.size) (ob : AllObR P F S R al D fr 0 (ops.toList.take n))
    (fin : ∀ a w, HeldR F S al D fr df (Array.replicate n true) a w → wpList P ops Q (ops.toList.drop n) a w) :
    ∀ (fuel : Nat) (listed : Array Bool) (a : Act) (w : World), listed.size = ops.size → Closed ops listed → (∀ j, fl j = true → listed.getD j false = true) → (∀ j, n ≤ j → listed.getD j false = false) → (listed.toList.take n).count false = fuel → HeldR F S al D fr df listed a w → wpAny P .any ops Q (fuel + (ops.size - n)) listed a w := by
  obtain ⟨hlen, dstOf⟩ := dstB_spec hD
  intro fuel
  induction fuel with
  | zero =>
    intro listed a w hs hcl hfl htail hc h
    have hall : ∀ j, j < n → listed.getD j false = true := by
      intro j hj
      have hj' : j < listed.size := by omega
      have hm : listed[j] ∈ listed.toList.take n := by
        rw [List.mem_iff_getElem?]
        exact ⟨j, by rw [List.getElem?_take, if_pos hj]; simp [hj']⟩
      cases hb : listed[j] with
      | true => simp [hj', hb]
      | false =>
        rw [hb] at hm
        exact absurd hm (List.count_eq_zero.1 hc)
    have hlist : listed = headL n (ops.size - n) := by
      refine Array.ext (by simp [headL]; omega) ?_
      intro j h1 h2
      by_cases hj : j < n
      · have := hall j hj
        have e2 : (headL n (ops.size - n))[j] = true := by simp [headL, hj]
        rw [e2]
        simpa [h1] using this
      · have := htail j (by omega)
        have e2 : (headL n (ops.size - n))[j] = false := by simp [headL, List.getElem_append, hj]
        rw [e2]
        simpa [h1] using this
    rw [Nat.zero_add]
    have hl : (ops.toList.drop n).length = ops.size - n := by simp
    rw [← hl]
    have hup : ∀ j, (Array.replicate n true).getD j false = true → listed.getD j false = true := by
      intro j hj
      by_cases hj' : j < n
      · exact hall j hj'
      · simp [hj'] at hj
    have hlistQ : (fun j => (Array.replicate n true).getD j false) = fun j => listed.getD j false := by
      funext j
      by_cases hj : j < n
      · rw [hall j hj]
        simp [hj]
      · rw [htail j (by omega)]
        simp [hj]
    refine wpAny_of_seq (ops.toList.drop n) n listed a w (fun j => by simp [List.getElem?_drop]) ?_ (fin a w ⟨by rw [hlistQ]; exact h.s, h.size, h.defers, h.frame, fun j hj => h.facts j (hup j hj), fun j hj => h.own j (hup j hj), fun j k hjk hj hk => h.dist j k hjk (hup j hj) (hup k hk)⟩)
    rw [hl, hlist]
    exact hsq
  | succ fuel ih =>
    intro listed a w hs hcl hfl htail hc h
    obtain ⟨j0, hj0, hun0⟩ : ∃ j, j < n ∧ listed.getD j false = false := by
      have : false ∈ listed.toList.take n := by
        rw [← List.count_pos_iff, hc]
        omega
      obtain ⟨j, hj⟩ := List.mem_iff_getElem?.1 this
      rw [List.getElem?_take] at hj
      split at hj
      · rename_i hjn
        refine ⟨j, hjn, ?_⟩
        rw [Array.getElem?_toList] at hj
        simp [hj]
      · cases hj
    rw [show fuel + 1 + (ops.size - n) = (fuel + (ops.size - n)) + 1 by omega]
    refine ⟨fun hr => ?_, fun i hi => ?_⟩
    · have := ready_nil ht hs hr j0 (by omega)
      rw [this] at hun0
      cases hun0
    have hin : i < n := by
      rcases Nat.lt_or_ge i n with hlt | hge
      · exact hlt
      · have hj0f : fl j0 = false := by
          cases hb : fl j0 with
          | false => rfl
          | true =>
            rw [hfl j0 hb] at hun0
            cases hun0
        have := tailQ_spec htl hcl hi hge hj0 hj0f
        rw [this] at hun0
        cases hun0
    obtain ⟨hun, o, ho, hdep⟩ := mem_ready.1 hi
    have hio : i < ops.size := (Array.getElem?_eq_some_iff.1 ho).1
    have hil : i < listed.size := by omega
    obtain ⟨d, hDi, hdst⟩ := dstOf i o hin ho
    have hdD : D.getD i 0 = d := by simp [hDi]
    obtain ⟨hg, hob⟩ := ob.get i o (by simp [hin, ho])
    rw [Nat.zero_add] at hob
    have hdeps : ∀ e ∈ o.after.toList, Region.binds .any e = true → F e.on (a.eval (.tmp (D.getD e.on 0))) w := fun e he hb => h.facts e.on (hdep e (Array.mem_toList_iff.1 he) hb)
    have hDep : ∀ l : List Edge, (∀ e ∈ l, Region.binds .any e = true → F e.on (a.eval (.tmp (D.getD e.on 0))) w) → DepF F D a.eval w l := by
      intro l
      induction l with
      | nil => intro _; trivial
      | cons e l ihl => intro hl; exact ⟨hl e (by simp), ihl fun e' he' => hl e' (by simp [he'])⟩
    have hunl : listed.getD i false = false := by
      have hb : listed[i] = false := by simpa [hil] using hun
      simp [hil, hb]
    have hDq : ∀ l : List Edge, (∀ e ∈ l, Region.binds .any e = true → listed.getD e.on false = true) → DepQ (fun j => listed.getD j false) l := by
      intro l
      induction l with
      | nil => intro _; trivial
      | cons e l ihl => intro hl; exact ⟨hl e (by simp), ihl fun e' he' => hl e' (by simp [he'])⟩
    have hgood := hob a.eval w (fun j => listed.getD j false) hunl (hDq _ fun e he hb => hdep e (Array.mem_toList_iff.1 he) hb) ⟨fun _ => rfl, fun _ => rfl, fun _ => rfl, fun k hk => h.frame k (by simpa using hk)⟩ (hDep _ hdeps) h.s
    have hw : Region.wanted o (yielded ops a.tmps) = true := by
      unfold GuardOk at hg
      unfold Region.wanted
      split
      · rfl
      · rename_i j b hgd
        rw [hgd] at hg
        obtain ⟨hany, hval⟩ := hg
        rw [List.any_eq_true] at hany
        obtain ⟨e, he, hb⟩ := hany
        simp only [Bool.and_eq_true, beq_iff_eq] at hb
        obtain ⟨hb1, rfl⟩ := hb
        have hv := hval _ _ (hdeps e he hb1)
        have hj : e.on < ops.size := Nat.lt_trans (topo_spec ht i o ho e (Array.mem_toList_iff.1 he) hb1) hio
        obtain ⟨d', hD', hd2⟩ := dstOf e.on ops[e.on] (Nat.lt_trans (topo_spec ht i o ho e (Array.mem_toList_iff.1 he) hb1) hin) (by simp [hj])
        obtain ⟨hd', hlt'⟩ : ops[e.on].dst = some d' ∧ d' < a.tmps.size := by
          rcases hd2 with ⟨h1, h2⟩ | ⟨_, h2⟩
          · exact ⟨h1, by rw [h.size]; exact h2⟩
          · have : a.tmps.getD d' undef = .bool b := by simpa [Act.eval, hD'] using hv
            rw [Array.getD_eq_getD_getElem?, Array.getElem?_eq_none (by rw [h.size]; exact h2)] at this
            cases this
        have hval2 : a.tmps[d']? = some (.bool b) := by
          have : a.tmps.getD d' undef = .bool b := by simpa [Act.eval, hD'] using hv
          simpa [hlt'] using this
        simp [yielded, hj, hd', hval2]
    have hcl' : Closed ops (listed.setIfInBounds i true) := by
      intro j oj hj hl e he hb
      by_cases hij : i = j
      · subst hij
        rw [ho] at hj
        injection hj with hj
        subst hj
        exact getD_set_true (hdep e he hb)
      · rw [getD_set_ne false hij] at hl
        exact getD_set_true (hcl j oj hj hl e he hb)
    have hs2 : also (fun j => listed.getD j false) i = fun j => (listed.setIfInBounds i true).getD j false := by
      funext j
      unfold also
      by_cases h : i = j
      · subst h
        simp [hil]
      · rw [getD_set_ne false h, decide_eq_false (fun e => h e.symm), Bool.or_false]
    have step : ∀ v w', (o.dst.isNone = true → v = undef) → F i v w' → R i w w' → (al i = true → Frsh v w w') → S (also (fun j => listed.getD j false) i) w' → wpAny P .any ops Q (fuel + (ops.size - n)) (listed.setIfInBounds i true) (a.put o.dst v) w' := by
      intro v w' hvn hFv hRw hfresh hSw
      rw [hs2] at hSw
      have hsz := hR _ _ _ hRw
      obtain ⟨pa, pb, pc, pd⟩ := put_seen a o.dst d v (by rw [h.size]; exact hdst) hvn
      generalize a.put o.dst v = a2 at *
      have vi : a2.tmps.getD (D.getD i 0) undef = v := by
        rw [hdD]
        exact pc
      have vj : ∀ j, j ≠ i → (listed.setIfInBounds i true).getD j false = true → listed.getD j false = true ∧ a2.tmps.getD (D.getD j 0) undef = a.tmps.getD (D.getD j 0) undef := by
        intro j hji hj
        rw [getD_set_ne false (Ne.symm hji)] at hj
        have hjn : j < n := by
          rcases Nat.lt_or_ge j n with hlt | hge
          · exact hlt
          · rw [htail j hge] at hj
            cases hj
        have hDj : D[j]? = some (D.getD j 0) := by simp [hlen, hjn]
        have hne : d ≠ D.getD j 0 := by
          intro he
          have h1 : D[i]? = D[j]? := by rw [hDi, hDj, he]
          exact hji ((List.getElem?_inj (by omega) hn).1 h1).symm
        exact ⟨hj, pd _ hne⟩
      refine ih _ _ _ (by simpa using hs) hcl' (fun j hj => getD_set_true (hfl j hj)) (fun j hj => by rw [getD_set_ne false (by omega)]; exact htail j hj) ?_ ⟨hSw, pa.trans h.size, pb.trans h.defers, ?_, ?_, ?_, ?_⟩
      · have hb : listed[i] = false := by simpa [hil] using hun
        rw [Array.toList_setIfInBounds, List.take_set, List.count_set (by simp; omega)]
        simp [hb, hc]
      · intro k hk
        have hkd : d ≠ k := by
          rintro rfl
          exact hk (List.mem_of_getElem? hDi)
        exact (pd k hkd).trans (h.frame k hk)
      · intro j hj
        by_cases hji : j = i
        · subst hji
          rw [vi]
          exact hFv
        · obtain ⟨h1, h2⟩ := vj j hji hj
          rw [h2]
          exact hF i j _ _ _ hji (h.facts j h1) hRw
      · intro j hj ha
        by_cases hji : j = i
        · subst hji
          rw [vi]
          exact fun g hg => (hfresh ha g hg).2
        · obtain ⟨h1, h2⟩ := vj j hji hj
          rw [h2]
          exact fun g hg => Nat.lt_of_lt_of_le (h.own j h1 ha g hg) hsz
      · intro j k hjk hj hk haj hak
        by_cases hji : j = i
        · subst hji
          obtain ⟨h1, h2⟩ := vj k (Ne.symm hjk) hk
          rw [vi, h2]
          intro g h3 h4
          have q1 := h.own k h1 hak g h4
          have q2 := (hfresh haj g h3).1
          omega
        · obtain ⟨h1, h2⟩ := vj j hji hj
          rw [h2]
          by_cases hki : k = i
          · subst hki
            rw [vi]
            intro g h3 h4
            have q1 := h.own j h1 haj g h3
            have q2 := (hfresh hak g h4).1
            omega
          · obtain ⟨h5, h6⟩ := vj k hki hk
            rw [h6]
            exact h.dist j k hjk h1 h5 haj hak
    unfold wpOp
    rw [ho]
    simp only [hw, if_true]
    refine .inl ?_
    unfold Oper.wp
    generalize hr : (execOp a.eval o).run P w = r at *
    unfold GoodR at hgood
    split at hgood
    · exact step _ _ hgood.1 hgood.2.1 hgood.2.2.1 hgood.2.2.2.1 hgood.2.2.2.2
    · exact step _ _ (fun _ => rfl) hgood.1 hgood.2.1 hgood.2.2.1 hgood.2.2.2
    · refine Calls.mono hgood ?_
      rintro e w'' ⟨v, rfl, h0, h1, h2, h3, h4⟩
      exact step _ _ h0 h1 h2 h3 h4
    · exact hgood.elim
theorem region_facts_all {id : Nat} {w : World} (n : Nat) (al : Nat → Bool) (F : Nat → Value → World → Prop) (S : (Nat → Bool) → World → Prop) (R : Nat → World → World → Prop) (D : List Nat) (hm : P.follows .mixedOrders = true) (hnn : decide (n ≤ ops.size) = true)
    (hD : dstB ops n D fr.size = true) (hn : D.Nodup) (ht : (topoB ops && tailQ ops n (fun _ => false) && Region.seqB .any ops (ops.size - n) n (headL n (ops.size - n))) = true)
    (hF : ∀ i j v w w', j ≠ i → F j v w → R i w w' → F j v w') (hR : ∀ i w w', R i w w' → w.heap.size ≤ w'.heap.size) (h0 : S (fun _ => false) w.drew) (ob : ∀ f, f = fr → AllObR P F S R al D f 0 (ops.toList.take n))
    (fin : ∀ (vs : Nat → Value) w, S (fun j => decide (j < n)) w → (∀ j, j < n → F j (vs j) w) → (∀ j k, j ≠ k → j < n → k < n → al j = true → al k = true → ∀ g, blkOf (vs j) = some g → blkOf (vs k) = some g → False) → wpList P ops Q (ops.toList.drop n) ⟨setAll fr 0 D vs, df⟩ w) : (Code.region id ops true).wp P Q ⟨fr, df⟩ w := by
  have hnn' : n ≤ ops.size := of_decide_eq_true hnn
  simp only [Bool.and_eq_true] at ht
  obtain ⟨⟨ht, htl⟩, hsq⟩ := ht
  have hgo := facts_anyR (P := P) (Q := Q) (fr := fr) (df := df) hnn' hD hn ht htl hsq hF hR (ob fr rfl) ?_ n (Array.replicate ops.size false) ⟨fr, df⟩ w.drew (by simp) (fun j o hj hl => by by_cases hj' : j < ops.size <;> simp [hj'] at hl) (fun j hj => by cases hj) (fun j _ => by by_cases hj : j < ops.size <;> simp [hj]) (by simp [List.take_replicate]; omega) ⟨by rw [show (fun j => (Array.replicate ops.size false).getD j false) = fun _ => false from funext fun j => (by by_cases hj : j < ops.size <;> simp [hj])]; exact h0, rfl, rfl, fun _ _ => rfl, ?_, ?_, ?_⟩
  · rw [show n + (ops.size - n) = ops.size by omega] at hgo
    exact wp_region_any hm hgo
  · intro a w' h
    have hlen : D.length = n := (dstB_spec hD).1
    have := fin (fun j => a.tmps.getD (D.getD j 0) undef) w' (by have := h.s; rwa [show (fun j => (Array.replicate n true).getD j false) = fun j => decide (j < n) from funext fun j => (by by_cases hj : j < n <;> simp [hj])] at this) (fun j hj => h.facts j (by simp [hj])) (fun j k hjk hj hk => h.dist j k hjk (by simp [hj]) (by simp [hk]))
    have e : a = ⟨setAll fr 0 D (fun j => a.tmps.getD (D.getD j 0) undef), df⟩ := by
      obtain ⟨tm, dd⟩ := a
      have h1 := h.size
      have h2 := h.defers
      have h3 := h.frame
      simp only at h1 h2 h3
      subst h2
      congr 1
      refine Array.ext (by rw [setAll_size, h1]) ?_
      intro k hk1 hk2
      have g : tm.getD k undef = (setAll fr 0 D (fun j => tm.getD (D.getD j 0) undef)).getD k undef := by
        by_cases hkD : k ∈ D
        · obtain ⟨j, hj, rfl⟩ := List.mem_iff_getElem.1 hkD
          rw [setAll_in D fr 0 _ j D[j] hn (by simp [hj]) (by omega)]
          simp [hj]
        · rw [setAll_out D fr 0 _ k hkD, h3 k hkD]
      rw [Array.getD_eq_getD_getElem?, Array.getD_eq_getD_getElem?, Array.getElem?_eq_getElem hk1, Array.getElem?_eq_getElem hk2] at g
      exact g
    rw [e]
    exact this
  · intro j hj
    by_cases hj' : j < ops.size <;> simp [hj'] at hj
  · intro j hj
    by_cases hj' : j < ops.size <;> simp [hj'] at hj
  · intro j k _ hj
    by_cases hj' : j < ops.size <;> simp [hj'] at hj
end
end Go.Proofs.Ytpbepmipfjcjbaa
namespace Go.Proofs.Ytpbepmipfjcjbaa
open Go.RowKit
section
variable {P : Program} {ops : Array Oper} {Q : Exit → Act → World → Prop} {F : Nat → Value → World → Prop} {S : (Nat → Bool) → World → Prop} {R : Nat → World → World → Prop} {al : Nat → Bool} {D : List Nat} {fr : Array Value} {df : List Deferred} {W : List (Nat × Nat)}
def LateS (W : List (Nat × Nat)) (D : List Nat) (fr : Array Value) (ρ : Operand → Value) (i : Nat) : Prop := ∀ j, j < D.length → W.contains (j, i) = true → ρ (.tmp (D.getD j 0)) = fr.getD (D.getD j 0) undef
def ObE (P : Program) (F : Nat → Value → World → Prop) (S : (Nat → Bool) → World → Prop) (R : Nat → World → World → Prop) (al : Nat → Bool) (D : List Nat) (W : List (Nat × Nat)) (fr : Array Value) (i : Nat) (o : Oper) : Prop :=
  GuardOk F o ∧ ∀ (ρ : Operand → Value) (w : World) (p : Nat → Bool), p i = false → DepQ p o.after.toList → Rho ρ D fr → LateS W D fr ρ i → DepF F D ρ w o.after.toList → S p w → GoodR P F S R al p o.dst.isNone i w ((execOp ρ o).run P w)
def AllObE (P : Program) (F : Nat → Value → World → Prop) (S : (Nat → Bool) → World → Prop) (R : Nat → World → World → Prop) (al : Nat → Bool) (D : List Nat) (W : List (Nat × Nat)) (fr : Array Value) : Nat → List Oper → Prop
  | _, [] => True
  | i, o :: l => ObE P F S R al D W fr i o ∧ AllObE P F S R al D W fr (i + 1) l
theorem AllObE.get : ∀ {l : List Oper} {i : Nat}, AllObE P F S R al D W fr i l → ∀ j o, l[j]? = some o → ObE P F S R al D W fr (i + j) o
  | [], _, _, j, o, ho => by simp at ho
  | x :: l, i, h, 0, o, ho => by
    simp only [List.getElem?_cons_zero, Option.some.injEq] at ho
    subst ho
    exact h.1
  | x :: l, i, h, j + 1, o, ho => by
    have := AllObE.get h.2 j o (by simpa using ho)
    rw [show i + (j + 1) = i + 1 + j by omega]
    exact this
structure HeldE (F : Nat → Value → World → Prop) (S : (Nat → Bool) → World → Prop) (al : Nat → Bool) (D : List Nat) (fr : Array Value) (df : List Deferred) (listed : Array Bool) (a : Act) (w : World) : Prop where
  s : S (fun j => listed.getD j false) w
  size : a.tmps.size = fr.size
  defers : a.defers = df
  frame : ∀ k, k ∉ D → a.tmps.getD k undef = fr.getD k undef
  facts : ∀ j, listed.getD j false = true → F j (a.tmps.getD (D.getD j 0) undef) w
  own : ∀ j, listed.getD j false = true → al j = true → ∀ g, blkOf (a.tmps.getD (D.getD j 0) undef) = some g → g < w.heap.size
  dist : ∀ j k, j ≠ k → listed.getD j false = true → listed.getD k false = true → al j = true → al k = true → ∀ g, blkOf (a.tmps.getD (D.getD j 0) undef) = some g → blkOf (a.tmps.getD (D.getD k 0) undef) = some g → False
  late : ∀ j, j < D.length → listed.getD j false = false → a.tmps.getD (D.getD j 0) undef = fr.getD (D.getD j 0) undef
theorem facts_anyE {n : Nat} {fl : Nat → Bool} (hnn : n ≤ ops.size) (hD : dstB ops n D fr.size = true) (hn : D.Nodup) (hW : (W.all fun p => Region.waitsFor .any ops p.1 p.2) = true) (ht : topoB ops = true) (htl : tailQ ops n fl = true) (hsq : Region.seqB .any ops (ops.size - n) n (headL n (ops.size - n)) = true)
    (hF : ∀ i j v w w', j ≠ i → W.contains (j, i) = false → F j v w → R i w w' → F j v w') (hR : ∀ i w w', R i w w' → w.heap.size ≤ w'.heap.size) (ob : AllObE P F S R al D W fr 0 (ops.toList.take n))
    (fin : ∀ a w, HeldE F S al D fr df (Array.replicate n true) a w → wpList P ops Q (ops.toList.drop n) a w) :
    ∀ (fuel : Nat) (listed : Array Bool) (a : Act) (w : World), listed.size = ops.size → Closed ops listed → (∀ j, fl j = true → listed.getD j false = true) → (∀ j, n ≤ j → listed.getD j false = false) → (listed.toList.take n).count false = fuel → HeldE F S al D fr df listed a w → wpAny P .any ops Q (fuel + (ops.size - n)) listed a w := by
  obtain ⟨hlen, dstOf⟩ := dstB_spec hD
  intro fuel
  induction fuel with
  | zero =>
    intro listed a w hs hcl hfl htail hc h
    have hall : ∀ j, j < n → listed.getD j false = true := by
      intro j hj
      have hj' : j < listed.size := by omega
      have hm : listed[j] ∈ listed.toList.take n := by
        rw [List.mem_iff_getElem?]
        exact ⟨j, by rw [List.getElem?_take, if_pos hj]; simp [hj']⟩
      cases hb : listed[j] with
      | true => simp [hj', hb]
      | false =>
        rw [hb] at hm
        exact absurd hm (List.count_eq_zero.1 hc)
    have hlist : listed = headL n (ops.size - n) := by
      refine Array.ext (by simp [headL]; omega) ?_
      intro j h1 h2
      by_cases hj : j < n
      · have := hall j hj
        have e2 : (headL n (ops.size - n))[j] = true := by simp [headL, hj]
        rw [e2]
        simpa [h1] using this
      · have := htail j (by omega)
        have e2 : (headL n (ops.size - n))[j] = false := by simp [headL, List.getElem_append, hj]
        rw [e2]
        simpa [h1] using this
    rw [Nat.zero_add]
    have hl : (ops.toList.drop n).length = ops.size - n := by simp
    rw [← hl]
    have hup : ∀ j, (Array.replicate n true).getD j false = true → listed.getD j false = true := by
      intro j hj
      by_cases hj' : j < n
      · exact hall j hj'
      · simp [hj'] at hj
    have hlistQ : (fun j => (Array.replicate n true).getD j false) = fun j => listed.getD j false := by
      funext j
      by_cases hj : j < n
      · rw [hall j hj]
        simp [hj]
      · rw [htail j (by omega)]
        simp [hj]
    refine wpAny_of_seq (ops.toList.drop n) n listed a w (fun j => by simp [List.getElem?_drop]) ?_ (fin a w ⟨by rw [hlistQ]; exact h.s, h.size, h.defers, h.frame, fun j hj => h.facts j (hup j hj), fun j hj => h.own j (hup j hj), fun j k hjk hj hk => h.dist j k hjk (hup j hj) (hup k hk), fun j hj hl => by rw [hlen] at hj; simp [hj] at hl⟩)
    rw [hl, hlist]
    exact hsq
  | succ fuel ih =>
    intro listed a w hs hcl hfl htail hc h
    obtain ⟨j0, hj0, hun0⟩ : ∃ j, j < n ∧ listed.getD j false = false := by
      have : false ∈ listed.toList.take n := by
        rw [← List.count_pos_iff, hc]
        omega
      obtain ⟨j, hj⟩ := List.mem_iff_getElem?.1 this
      rw [List.getElem?_take] at hj
      split at hj
      · rename_i hjn
        refine ⟨j, hjn, ?_⟩
        rw [Array.getElem?_toList] at hj
        simp [hj]
      · cases hj
    rw [show fuel + 1 + (ops.size - n) = (fuel + (ops.size - n)) + 1 by omega]
    refine ⟨fun hr => ?_, fun i hi => ?_⟩
    · have := ready_nil ht hs hr j0 (by omega)
      rw [this] at hun0
      cases hun0
    have hin : i < n := by
      rcases Nat.lt_or_ge i n with hlt | hge
      · exact hlt
      · have hj0f : fl j0 = false := by
          cases hb : fl j0 with
          | false => rfl
          | true =>
            rw [hfl j0 hb] at hun0
            cases hun0
        have := tailQ_spec htl hcl hi hge hj0 hj0f
        rw [this] at hun0
        cases hun0
    obtain ⟨hun, o, ho, hdep⟩ := mem_ready.1 hi
    have hio : i < ops.size := (Array.getElem?_eq_some_iff.1 ho).1
    have hil : i < listed.size := by omega
    obtain ⟨d, hDi, hdst⟩ := dstOf i o hin ho
    have hdD : D.getD i 0 = d := by simp [hDi]
    obtain ⟨hg, hob⟩ := ob.get i o (by simp [hin, ho])
    rw [Nat.zero_add] at hob
    have hdeps : ∀ e ∈ o.after.toList, Region.binds .any e = true → F e.on (a.eval (.tmp (D.getD e.on 0))) w := fun e he hb => h.facts e.on (hdep e (Array.mem_toList_iff.1 he) hb)
    have hDep : ∀ l : List Edge, (∀ e ∈ l, Region.binds .any e = true → F e.on (a.eval (.tmp (D.getD e.on 0))) w) → DepF F D a.eval w l := by
      intro l
      induction l with
      | nil => intro _; trivial
      | cons e l ihl => intro hl; exact ⟨hl e (by simp), ihl fun e' he' => hl e' (by simp [he'])⟩
    have hunl : listed.getD i false = false := by
      have hb : listed[i] = false := by simpa [hil] using hun
      simp [hil, hb]
    have hDq : ∀ l : List Edge, (∀ e ∈ l, Region.binds .any e = true → listed.getD e.on false = true) → DepQ (fun j => listed.getD j false) l := by
      intro l
      induction l with
      | nil => intro _; trivial
      | cons e l ihl => intro hl; exact ⟨hl e (by simp), ihl fun e' he' => hl e' (by simp [he'])⟩
    have hlate : LateS W D fr a.eval i := by
      intro j hj hw
      refine h.late j hj ?_
      cases hb : listed.getD j false with
      | false => rfl
      | true =>
        have hmem : (j, i) ∈ W := by simpa using hw
        have := hcl.waits hb (List.all_eq_true.1 hW (j, i) hmem)
        rw [this] at hunl
        cases hunl
    have hgood := hob a.eval w (fun j => listed.getD j false) hunl (hDq _ fun e he hb => hdep e (Array.mem_toList_iff.1 he) hb) ⟨fun _ => rfl, fun _ => rfl, fun _ => rfl, fun k hk => h.frame k (by simpa using hk)⟩ hlate (hDep _ hdeps) h.s
    have hw : Region.wanted o (yielded ops a.tmps) = true := by
      unfold GuardOk at hg
      unfold Region.wanted
      split
      · rfl
      · rename_i j b hgd
        rw [hgd] at hg
        obtain ⟨hany, hval⟩ := hg
        rw [List.any_eq_true] at hany
        obtain ⟨e, he, hb⟩ := hany
        simp only [Bool.and_eq_true, beq_iff_eq] at hb
        obtain ⟨hb1, rfl⟩ := hb
        have hv := hval _ _ (hdeps e he hb1)
        have hj : e.on < ops.size := Nat.lt_trans (topo_spec ht i o ho e (Array.mem_toList_iff.1 he) hb1) hio
        obtain ⟨d', hD', hd2⟩ := dstOf e.on ops[e.on] (Nat.lt_trans (topo_spec ht i o ho e (Array.mem_toList_iff.1 he) hb1) hin) (by simp [hj])
        obtain ⟨hd', hlt'⟩ : ops[e.on].dst = some d' ∧ d' < a.tmps.size := by
          rcases hd2 with ⟨h1, h2⟩ | ⟨_, h2⟩
          · exact ⟨h1, by rw [h.size]; exact h2⟩
          · have : a.tmps.getD d' undef = .bool b := by simpa [Act.eval, hD'] using hv
            rw [Array.getD_eq_getD_getElem?, Array.getElem?_eq_none (by rw [h.size]; exact h2)] at this
            cases this
        have hval2 : a.tmps[d']? = some (.bool b) := by
          have : a.tmps.getD d' undef = .bool b := by simpa [Act.eval, hD'] using hv
          simpa [hlt'] using this
        simp [yielded, hj, hd', hval2]
    have hcl' : Closed ops (listed.setIfInBounds i true) := by
      intro j oj hj hl e he hb
      by_cases hij : i = j
      · subst hij
        rw [ho] at hj
        injection hj with hj
        subst hj
        exact getD_set_true (hdep e he hb)
      · rw [getD_set_ne false hij] at hl
        exact getD_set_true (hcl j oj hj hl e he hb)
    have hs2 : also (fun j => listed.getD j false) i = fun j => (listed.setIfInBounds i true).getD j false := by
      funext j
      unfold also
      by_cases h : i = j
      · subst h
        simp [hil]
      · rw [getD_set_ne false h, decide_eq_false (fun e => h e.symm), Bool.or_false]
    have step : ∀ v w', (o.dst.isNone = true → v = undef) → F i v w' → R i w w' → (al i = true → Frsh v w w') → S (also (fun j => listed.getD j false) i) w' → wpAny P .any ops Q (fuel + (ops.size - n)) (listed.setIfInBounds i true) (a.put o.dst v) w' := by
      intro v w' hvn hFv hRw hfresh hSw
      rw [hs2] at hSw
      have hsz := hR _ _ _ hRw
      obtain ⟨pa, pb, pc, pd⟩ := put_seen a o.dst d v (by rw [h.size]; exact hdst) hvn
      generalize a.put o.dst v = a2 at *
      have vi : a2.tmps.getD (D.getD i 0) undef = v := by
        rw [hdD]
        exact pc
      have vj : ∀ j, j ≠ i → (listed.setIfInBounds i true).getD j false = true → listed.getD j false = true ∧ a2.tmps.getD (D.getD j 0) undef = a.tmps.getD (D.getD j 0) undef := by
        intro j hji hj
        rw [getD_set_ne false (Ne.symm hji)] at hj
        have hjn : j < n := by
          rcases Nat.lt_or_ge j n with hlt | hge
          · exact hlt
          · rw [htail j hge] at hj
            cases hj
        have hDj : D[j]? = some (D.getD j 0) := by simp [hlen, hjn]
        have hne : d ≠ D.getD j 0 := by
          intro he
          have h1 : D[i]? = D[j]? := by rw [hDi, hDj, he]
          exact hji ((List.getElem?_inj (by omega) hn).1 h1).symm
        exact ⟨hj, pd _ hne⟩
      refine ih _ _ _ (by simpa using hs) hcl' (fun j hj => getD_set_true (hfl j hj)) (fun j hj => by rw [getD_set_ne false (by omega)]; exact htail j hj) ?_ ⟨hSw, pa.trans h.size, pb.trans h.defers, ?_, ?_, ?_, ?_, ?_⟩
      · have hb : listed[i] = false := by simpa [hil] using hun
        rw [Array.toList_setIfInBounds, List.take_set, List.count_set (by simp; omega)]
        simp [hb, hc]
      · intro k hk
        have hkd : d ≠ k := by
          rintro rfl
          exact hk (List.mem_of_getElem? hDi)
        exact (pd k hkd).trans (h.frame k hk)
      · intro j hj
        by_cases hji : j = i
        · subst hji
          rw [vi]
          exact hFv
        · obtain ⟨h1, h2⟩ := vj j hji hj
          rw [h2]
          refine hF i j _ _ _ hji ?_ (h.facts j h1) hRw
          cases hb : W.contains (j, i) with
          | false => rfl
          | true =>
            have hmem : (j, i) ∈ W := by simpa using hb
            have := hcl.waits h1 (List.all_eq_true.1 hW (j, i) hmem)
            rw [this] at hunl
            cases hunl
      · intro j hj ha
        by_cases hji : j = i
        · subst hji
          rw [vi]
          exact fun g hg => (hfresh ha g hg).2
        · obtain ⟨h1, h2⟩ := vj j hji hj
          rw [h2]
          exact fun g hg => Nat.lt_of_lt_of_le (h.own j h1 ha g hg) hsz
      · intro j k hjk hj hk haj hak
        by_cases hji : j = i
        · subst hji
          obtain ⟨h1, h2⟩ := vj k (Ne.symm hjk) hk
          rw [vi, h2]
          intro g h3 h4
          have q1 := h.own k h1 hak g h4
          have q2 := (hfresh haj g h3).1
          omega
        · obtain ⟨h1, h2⟩ := vj j hji hj
          rw [h2]
          by_cases hki : k = i
          · subst hki
            rw [vi]
            intro g h3 h4
            have q1 := h.own j h1 haj g h3
            have q2 := (hfresh hak g h4).1
            omega
          · obtain ⟨h5, h6⟩ := vj k hki hk
            rw [h6]
            exact h.dist j k hjk h1 h5 haj hak
      · intro j hj hl
        have hji : j ≠ i := by
          rintro rfl
          rw [show (listed.setIfInBounds j true).getD j false = true by simp [hil]] at hl
          cases hl
        rw [getD_set_ne false (Ne.symm hji)] at hl
        have hDj : D[j]? = some (D.getD j 0) := by simp [hj]
        have hne : d ≠ D.getD j 0 := by
          intro he
          have h1 : D[i]? = D[j]? := by rw [hDi, hDj, he]
          exact hji ((List.getElem?_inj (by omega) hn).1 h1).symm
        exact (pd _ hne).trans (h.late j hj hl)
    unfold wpOp
    rw [ho]
    simp only [hw, if_true]
    refine .inl ?_
    unfold Oper.wp
    generalize hr : (execOp a.eval o).run P w = r at *
    unfold GoodR at hgood
    split at hgood
    · exact step _ _ hgood.1 hgood.2.1 hgood.2.2.1 hgood.2.2.2.1 hgood.2.2.2.2
    · exact step _ _ (fun _ => rfl) hgood.1 hgood.2.1 hgood.2.2.1 hgood.2.2.2
    · refine Calls.mono hgood ?_
      rintro e w'' ⟨v, rfl, h0, h1, h2, h3, h4⟩
      exact step _ _ h0 h1 h2 h3 h4
    · exact hgood.elim
theorem region_facts_late {id : Nat} {w : World} (n : Nat) (al : Nat → Bool) (F : Nat → Value → World → Prop) (S : (Nat → Bool) → World → Prop) (R : Nat → World → World → Prop) (D : List Nat) (hm : P.follows .mixedOrders = true) (hnn : decide (n ≤ ops.size) = true)
    (hD : dstB ops n D fr.size = true) (W : List (Nat × Nat)) (hn : D.Nodup) (hW : (W.all fun p => Region.waitsFor .any ops p.1 p.2) = true) (ht : (topoB ops && tailQ ops n (fun _ => false) && Region.seqB .any ops (ops.size - n) n (headL n (ops.size - n))) = true)
    (hF : ∀ i j v w w', j ≠ i → W.contains (j, i) = false → F j v w → R i w w' → F j v w') (hR : ∀ i w w', R i w w' → w.heap.size ≤ w'.heap.size) (h0 : S (fun _ => false) w.drew) (ob : ∀ f, f = fr → AllObE P F S R al D W f 0 (ops.toList.take n))
    (fin : ∀ (vs : Nat → Value) w, S (fun j => decide (j < n)) w → (∀ j, j < n → F j (vs j) w) → (∀ j k, j ≠ k → j < n → k < n → al j = true → al k = true → ∀ g, blkOf (vs j) = some g → blkOf (vs k) = some g → False) → wpList P ops Q (ops.toList.drop n) ⟨setAll fr 0 D vs, df⟩ w) : (Code.region id ops true).wp P Q ⟨fr, df⟩ w := by
  have hnn' : n ≤ ops.size := of_decide_eq_true hnn
  simp only [Bool.and_eq_true] at ht
  obtain ⟨⟨ht, htl⟩, hsq⟩ := ht
  have hgo := facts_anyE (P := P) (Q := Q) (fr := fr) (df := df) hnn' hD hn hW ht htl hsq hF hR (ob fr rfl) ?_ n (Array.replicate ops.size false) ⟨fr, df⟩ w.drew (by simp) (fun j o hj hl => by by_cases hj' : j < ops.size <;> simp [hj'] at hl) (fun j hj => by cases hj) (fun j _ => by by_cases hj : j < ops.size <;> simp [hj]) (by simp [List.take_replicate]; omega) ⟨by rw [show (fun j => (Array.replicate ops.size false).getD j false) = fun _ => false from funext fun j => (by by_cases hj : j < ops.size <;> simp [hj])]; exact h0, rfl, rfl, fun _ _ => rfl, ?_, ?_, ?_, fun _ _ _ => rfl⟩
  · rw [show n + (ops.size - n) = ops.size by omega] at hgo
    exact wp_region_any hm hgo
  · intro a w' h
    have hlen : D.length = n := (dstB_spec hD).1
    have := fin (fun j => a.tmps.getD (D.getD j 0) undef) w' (by have := h.s; rwa [show (fun j => (Array.replicate n true).getD j false) = fun j => decide (j < n) from funext fun j => (by by_cases hj : j < n <;> simp [hj])] at this) (fun j hj => h.facts j (by simp [hj])) (fun j k hjk hj hk => h.dist j k hjk (by simp [hj]) (by simp [hk]))
    have e : a = ⟨setAll fr 0 D (fun j => a.tmps.getD (D.getD j 0) undef), df⟩ := by
      obtain ⟨tm, dd⟩ := a
      have h1 := h.size
      have h2 := h.defers
      have h3 := h.frame
      simp only at h1 h2 h3
      subst h2
      congr 1
      refine Array.ext (by rw [setAll_size, h1]) ?_
      intro k hk1 hk2
      have g : tm.getD k undef = (setAll fr 0 D (fun j => tm.getD (D.getD j 0) undef)).getD k undef := by
        by_cases hkD : k ∈ D
        · obtain ⟨j, hj, rfl⟩ := List.mem_iff_getElem.1 hkD
          rw [setAll_in D fr 0 _ j D[j] hn (by simp [hj]) (by omega)]
          simp [hj]
        · rw [setAll_out D fr 0 _ k hkD, h3 k hkD]
      rw [Array.getD_eq_getD_getElem?, Array.getD_eq_getD_getElem?, Array.getElem?_eq_getElem hk1, Array.getElem?_eq_getElem hk2] at g
      exact g
    rw [e]
    exact this
  · intro j hj
    by_cases hj' : j < ops.size <;> simp [hj'] at hj
  · intro j hj
    by_cases hj' : j < ops.size <;> simp [hj'] at hj
  · intro j k _ hj
    by_cases hj' : j < ops.size <;> simp [hj'] at hj
end
end Go.Proofs.Ytpbepmipfjcjbaa
namespace Go.Proofs.Ytpbepmipfjcjbaa
open Go.RowKit
section
variable {P : Program} {ops : Array Oper} {Q : Exit → Act → World → Prop} {F : Nat → Value → World → Prop} {S : (Nat → Bool) → (Nat → Value) → World → Prop} {R : Nat → World → World → Prop} {al : Nat → Bool} {D : List Nat} {fr : Array Value} {df : List Deferred}
/-- The values of the operations with a slot in D. -/
def valV (D : List Nat) (a : Act) : Nat → Value := fun j => if j < D.length then a.tmps.getD (D.getD j 0) undef else undef
def updV (vs : Nat → Value) (i : Nat) (v : Value) : Nat → Value := fun j => if j = i then v else vs j
theorem updV_at (vs : Nat → Value) (i : Nat) (v : Value) : updV vs i v i = v := if_pos rfl
theorem updV_ne (vs : Nat → Value) {i j : Nat} (v : Value) (h : j ≠ i) : updV vs i v j = vs j := if_neg h
def GoodV (P : Program) (F : Nat → Value → World → Prop) (S : (Nat → Bool) → (Nat → Value) → World → Prop) (R : Nat → World → World → Prop) (al : Nat → Bool) (p : Nat → Bool) (vs : Nat → Value) (dn : Bool) (i : Nat) (w : World) : Result Next → Prop
  | .ok (.value v) w' => (dn = true → v = undef) ∧ F i v w' ∧ R i w w' ∧ (al i = true → Frsh v w w') ∧ S (also p i) (updV vs i v) w'
  | .ok .skip w' => F i undef w' ∧ R i w w' ∧ (al i = true → Frsh undef w w') ∧ S (also p i) (updV vs i undef) w'
  | .ok (.enter f args) w' => Calls P f args w' fun e w'' => ∃ v, e = .returned v ∧ (dn = true → v = undef) ∧ F i v w'' ∧ R i w w'' ∧ (al i = true → Frsh v w w'') ∧ S (also p i) (updV vs i v) w''
  | _ => False
def ObV (P : Program) (F : Nat → Value → World → Prop) (S : (Nat → Bool) → (Nat → Value) → World → Prop) (R : Nat → World → World → Prop) (al : Nat → Bool) (D : List Nat) (fr : Array Value) (i : Nat) (o : Oper) : Prop :=
  GuardOk F o ∧ ∀ (ρ : Operand → Value) (w : World) (p : Nat → Bool) (vs : Nat → Value), p i = false → DepQ p o.after.toList → Rho ρ D fr → DepF F D ρ w o.after.toList → (∀ j, p j = true → ρ (.tmp (D.getD j 0)) = vs j) → S p vs w → GoodV P F S R al p vs o.dst.isNone i w ((execOp ρ o).run P w)
def AllObV (P : Program) (F : Nat → Value → World → Prop) (S : (Nat → Bool) → (Nat → Value) → World → Prop) (R : Nat → World → World → Prop) (al : Nat → Bool) (D : List Nat) (fr : Array Value) : Nat → List Oper → Prop
  | _, [] => True
  | i, o :: l => ObV P F S R al D fr i o ∧ AllObV P F S R al D fr (i + 1) l
theorem AllObV.get : ∀ {l : List Oper} {i : Nat}, AllObV P F S R al D fr i l → ∀ j o, l[j]? = some o → ObV P F S R al D fr (i + j) o
  | [], _, _, j, o, ho => by simp at ho
  | x :: l, i, h, 0, o, ho => by
    simp only [List.getElem?_cons_zero, Option.some.injEq] at ho
    subst ho
    exact h.1
  | x :: l, i, h, j + 1, o, ho => by
    have := AllObV.get h.2 j o (by simpa using ho)
    rw [show i + (j + 1) = i + 1 + j by omega]
    exact this
structure HeldV (F : Nat → Value → World → Prop) (S : (Nat → Bool) → (Nat → Value) → World → Prop) (al : Nat → Bool) (D : List Nat) (fr : Array Value) (df : List Deferred) (listed : Array Bool) (a : Act) (w : World) : Prop where
  s : S (fun j => listed.getD j false) (valV D a) w
  size : a.tmps.size = fr.size
  defers : a.defers = df
  frame : ∀ k, k ∉ D → a.tmps.getD k undef = fr.getD k undef
  facts : ∀ j, listed.getD j false = true → F j (a.tmps.getD (D.getD j 0) undef) w
  own : ∀ j, listed.getD j false = true → al j = true → ∀ g, blkOf (a.tmps.getD (D.getD j 0) undef) = some g → g < w.heap.size
  dist : ∀ j k, j ≠ k → listed.getD j false = true → listed.getD k false = true → al j = true → al k = true → ∀ g, blkOf (a.tmps.getD (D.getD j 0) undef) = some g → blkOf (a.tmps.getD (D.getD k 0) undef) = some g → False
theorem facts_anyV {n : Nat} {fl : Nat → Bool} (hnn : n ≤ ops.size) (hD : dstB ops n D fr.size = true) (hn : D.Nodup) (ht : topoB ops = true) (htl : tailQ ops n fl = true) (hsq : Region.seqB .any ops (ops.size - n) n (headL n (ops.size - n)) = true)
    (hF : ∀ i j v w w', j ≠ i → F j v w → R i w w' → F j v w') (hR : ∀ i w w', R i w w' → w.heap.size ≤ w'.heap.size) (ob : AllObV P F S R al D fr 0 (ops.toList.take n))
    (fin : ∀ a w, HeldV F S al D fr df (Array.replicate n true) a w → wpList P ops Q (ops.toList.drop n) a w) :
    ∀ (fuel : Nat) (listed : Array Bool) (a : Act) (w : World), listed.size = ops.size → Closed ops listed → (∀ j, fl j = true → listed.getD j false = true) → (∀ j, n ≤ j → listed.getD j false = false) → (listed.toList.take n).count false = fuel → HeldV F S al D fr df listed a w → wpAny P .any ops Q (fuel + (ops.size - n)) listed a w := by
  obtain ⟨hlen, dstOf⟩ := dstB_spec hD
  intro fuel
  induction fuel with
  | zero =>
    intro listed a w hs hcl hfl htail hc h
    have hall : ∀ j, j < n → listed.getD j false = true := by
      intro j hj
      have hj' : j < listed.size := by omega
      have hm : listed[j] ∈ listed.toList.take n := by
        rw [List.mem_iff_getElem?]
        exact ⟨j, by rw [List.getElem?_take, if_pos hj]; simp [hj']⟩
      cases hb : listed[j] with
      | true => simp [hj', hb]
      | false =>
        rw [hb] at hm
        exact absurd hm (List.count_eq_zero.1 hc)
    have hlist : listed = headL n (ops.size - n) := by
      refine Array.ext (by simp [headL]; omega) ?_
      intro j h1 h2
      by_cases hj : j < n
      · have := hall j hj
        have e2 : (headL n (ops.size - n))[j] = true := by simp [headL, hj]
        rw [e2]
        simpa [h1] using this
      · have := htail j (by omega)
        have e2 : (headL n (ops.size - n))[j] = false := by simp [headL, List.getElem_append, hj]
        rw [e2]
        simpa [h1] using this
    rw [Nat.zero_add]
    have hl : (ops.toList.drop n).length = ops.size - n := by simp
    rw [← hl]
    have hup : ∀ j, (Array.replicate n true).getD j false = true → listed.getD j false = true := by
      intro j hj
      by_cases hj' : j < n
      · exact hall j hj'
      · simp [hj'] at hj
    have hlistQ : (fun j => (Array.replicate n true).getD j false) = fun j => listed.getD j false := by
      funext j
      by_cases hj : j < n
      · rw [hall j hj]
        simp [hj]
      · rw [htail j (by omega)]
        simp [hj]
    refine wpAny_of_seq (ops.toList.drop n) n listed a w (fun j => by simp [List.getElem?_drop]) ?_ (fin a w ⟨by rw [hlistQ]; exact h.s, h.size, h.defers, h.frame, fun j hj => h.facts j (hup j hj), fun j hj => h.own j (hup j hj), fun j k hjk hj hk => h.dist j k hjk (hup j hj) (hup k hk)⟩)
    rw [hl, hlist]
    exact hsq
  | succ fuel ih =>
    intro listed a w hs hcl hfl htail hc h
    obtain ⟨j0, hj0, hun0⟩ : ∃ j, j < n ∧ listed.getD j false = false := by
      have : false ∈ listed.toList.take n := by
        rw [← List.count_pos_iff, hc]
        omega
      obtain ⟨j, hj⟩ := List.mem_iff_getElem?.1 this
      rw [List.getElem?_take] at hj
      split at hj
      · rename_i hjn
        refine ⟨j, hjn, ?_⟩
        rw [Array.getElem?_toList] at hj
        simp [hj]
      · cases hj
    rw [show fuel + 1 + (ops.size - n) = (fuel + (ops.size - n)) + 1 by omega]
    refine ⟨fun hr => ?_, fun i hi => ?_⟩
    · have := ready_nil ht hs hr j0 (by omega)
      rw [this] at hun0
      cases hun0
    have hin : i < n := by
      rcases Nat.lt_or_ge i n with hlt | hge
      · exact hlt
      · have hj0f : fl j0 = false := by
          cases hb : fl j0 with
          | false => rfl
          | true =>
            rw [hfl j0 hb] at hun0
            cases hun0
        have := tailQ_spec htl hcl hi hge hj0 hj0f
        rw [this] at hun0
        cases hun0
    obtain ⟨hun, o, ho, hdep⟩ := mem_ready.1 hi
    have hio : i < ops.size := (Array.getElem?_eq_some_iff.1 ho).1
    have hil : i < listed.size := by omega
    obtain ⟨d, hDi, hdst⟩ := dstOf i o hin ho
    have hdD : D.getD i 0 = d := by simp [hDi]
    obtain ⟨hg, hob⟩ := ob.get i o (by simp [hin, ho])
    rw [Nat.zero_add] at hob
    have hdeps : ∀ e ∈ o.after.toList, Region.binds .any e = true → F e.on (a.eval (.tmp (D.getD e.on 0))) w := fun e he hb => h.facts e.on (hdep e (Array.mem_toList_iff.1 he) hb)
    have hDep : ∀ l : List Edge, (∀ e ∈ l, Region.binds .any e = true → F e.on (a.eval (.tmp (D.getD e.on 0))) w) → DepF F D a.eval w l := by
      intro l
      induction l with
      | nil => intro _; trivial
      | cons e l ihl => intro hl; exact ⟨hl e (by simp), ihl fun e' he' => hl e' (by simp [he'])⟩
    have hunl : listed.getD i false = false := by
      have hb : listed[i] = false := by simpa [hil] using hun
      simp [hil, hb]
    have hDq : ∀ l : List Edge, (∀ e ∈ l, Region.binds .any e = true → listed.getD e.on false = true) → DepQ (fun j => listed.getD j false) l := by
      intro l
      induction l with
      | nil => intro _; trivial
      | cons e l ihl => intro hl; exact ⟨hl e (by simp), ihl fun e' he' => hl e' (by simp [he'])⟩
    have hgood := hob a.eval w (fun j => listed.getD j false) (valV D a) hunl (hDq _ fun e he hb => hdep e (Array.mem_toList_iff.1 he) hb) ⟨fun _ => rfl, fun _ => rfl, fun _ => rfl, fun k hk => h.frame k (by simpa using hk)⟩ (hDep _ hdeps) (fun j hj => by
      have hjn : j < n := by
        rcases Nat.lt_or_ge j n with hlt | hge
        · exact hlt
        · exact absurd ((htail j hge).symm.trans hj) (by decide)
      exact (if_pos (show j < D.length by rw [hlen]; exact hjn)).symm) h.s
    have hw : Region.wanted o (yielded ops a.tmps) = true := by
      unfold GuardOk at hg
      unfold Region.wanted
      split
      · rfl
      · rename_i j b hgd
        rw [hgd] at hg
        obtain ⟨hany, hval⟩ := hg
        rw [List.any_eq_true] at hany
        obtain ⟨e, he, hb⟩ := hany
        simp only [Bool.and_eq_true, beq_iff_eq] at hb
        obtain ⟨hb1, rfl⟩ := hb
        have hv := hval _ _ (hdeps e he hb1)
        have hj : e.on < ops.size := Nat.lt_trans (topo_spec ht i o ho e (Array.mem_toList_iff.1 he) hb1) hio
        obtain ⟨d', hD', hd2⟩ := dstOf e.on ops[e.on] (Nat.lt_trans (topo_spec ht i o ho e (Array.mem_toList_iff.1 he) hb1) hin) (by simp [hj])
        obtain ⟨hd', hlt'⟩ : ops[e.on].dst = some d' ∧ d' < a.tmps.size := by
          rcases hd2 with ⟨h1, h2⟩ | ⟨_, h2⟩
          · exact ⟨h1, by rw [h.size]; exact h2⟩
          · have : a.tmps.getD d' undef = .bool b := by simpa [Act.eval, hD'] using hv
            rw [Array.getD_eq_getD_getElem?, Array.getElem?_eq_none (by rw [h.size]; exact h2)] at this
            cases this
        have hval2 : a.tmps[d']? = some (.bool b) := by
          have : a.tmps.getD d' undef = .bool b := by simpa [Act.eval, hD'] using hv
          simpa [hlt'] using this
        simp [yielded, hj, hd', hval2]
    have hcl' : Closed ops (listed.setIfInBounds i true) := by
      intro j oj hj hl e he hb
      by_cases hij : i = j
      · subst hij
        rw [ho] at hj
        injection hj with hj
        subst hj
        exact getD_set_true (hdep e he hb)
      · rw [getD_set_ne false hij] at hl
        exact getD_set_true (hcl j oj hj hl e he hb)
    have hs2 : also (fun j => listed.getD j false) i = fun j => (listed.setIfInBounds i true).getD j false := by
      funext j
      unfold also
      by_cases h : i = j
      · subst h
        simp [hil]
      · rw [getD_set_ne false h, decide_eq_false (fun e => h e.symm), Bool.or_false]
    have step : ∀ v w', (o.dst.isNone = true → v = undef) → F i v w' → R i w w' → (al i = true → Frsh v w w') → S (also (fun j => listed.getD j false) i) (updV (valV D a) i v) w' → wpAny P .any ops Q (fuel + (ops.size - n)) (listed.setIfInBounds i true) (a.put o.dst v) w' := by
      intro v w' hvn hFv hRw hfresh hSw
      rw [hs2] at hSw
      have hsz := hR _ _ _ hRw
      obtain ⟨pa, pb, pc, pd⟩ := put_seen a o.dst d v (by rw [h.size]; exact hdst) hvn
      have hval : valV D (a.put o.dst v) = updV (valV D a) i v := by
        funext j
        show (if j < D.length then (a.put o.dst v).tmps.getD (D.getD j 0) undef else undef) = if j = i then v else if j < D.length then a.tmps.getD (D.getD j 0) undef else undef
        by_cases hji : j = i
        · subst hji
          rw [if_pos (by omega), if_pos rfl, hdD]
          exact pc
        · rw [if_neg hji]
          by_cases hjn : j < D.length
          · rw [if_pos hjn, if_pos hjn]
            have hDj : D[j]? = some (D.getD j 0) := by simp [hjn]
            refine pd _ fun he => hji ?_
            have h1 : D[i]? = D[j]? := by rw [hDi, hDj, he]
            exact ((List.getElem?_inj (by omega) hn).1 h1).symm
          · rw [if_neg hjn, if_neg hjn]
      rw [← hval] at hSw
      clear hval
      generalize a.put o.dst v = a2 at *
      have vi : a2.tmps.getD (D.getD i 0) undef = v := by
        rw [hdD]
        exact pc
      have vj : ∀ j, j ≠ i → (listed.setIfInBounds i true).getD j false = true → listed.getD j false = true ∧ a2.tmps.getD (D.getD j 0) undef = a.tmps.getD (D.getD j 0) undef := by
        intro j hji hj
        rw [getD_set_ne false (Ne.symm hji)] at hj
        have hjn : j < n := by
          rcases Nat.lt_or_ge j n with hlt | hge
          · exact hlt
          · rw [htail j hge] at hj
            cases hj
        have hDj : D[j]? = some (D.getD j 0) := by simp [hlen, hjn]
        have hne : d ≠ D.getD j 0 := by
          intro he
          have h1 : D[i]? = D[j]? := by rw [hDi, hDj, he]
          exact hji ((List.getElem?_inj (by omega) hn).1 h1).symm
        exact ⟨hj, pd _ hne⟩
      refine ih _ _ _ (by simpa using hs) hcl' (fun j hj => getD_set_true (hfl j hj)) (fun j hj => by rw [getD_set_ne false (by omega)]; exact htail j hj) ?_ ⟨hSw, pa.trans h.size, pb.trans h.defers, ?_, ?_, ?_, ?_⟩
      · have hb : listed[i] = false := by simpa [hil] using hun
        rw [Array.toList_setIfInBounds, List.take_set, List.count_set (by simp; omega)]
        simp [hb, hc]
      · intro k hk
        have hkd : d ≠ k := by
          rintro rfl
          exact hk (List.mem_of_getElem? hDi)
        exact (pd k hkd).trans (h.frame k hk)
      · intro j hj
        by_cases hji : j = i
        · subst hji
          rw [vi]
          exact hFv
        · obtain ⟨h1, h2⟩ := vj j hji hj
          rw [h2]
          exact hF i j _ _ _ hji (h.facts j h1) hRw
      · intro j hj ha
        by_cases hji : j = i
        · subst hji
          rw [vi]
          exact fun g hg => (hfresh ha g hg).2
        · obtain ⟨h1, h2⟩ := vj j hji hj
          rw [h2]
          exact fun g hg => Nat.lt_of_lt_of_le (h.own j h1 ha g hg) hsz
      · intro j k hjk hj hk haj hak
        by_cases hji : j = i
        · subst hji
          obtain ⟨h1, h2⟩ := vj k (Ne.symm hjk) hk
          rw [vi, h2]
          intro g h3 h4
          have q1 := h.own k h1 hak g h4
          have q2 := (hfresh haj g h3).1
          omega
        · obtain ⟨h1, h2⟩ := vj j hji hj
          rw [h2]
          by_cases hki : k = i
          · subst hki
            rw [vi]
            intro g h3 h4
            have q1 := h.own j h1 haj g h3
            have q2 := (hfresh hak g h4).1
            omega
          · obtain ⟨h5, h6⟩ := vj k hki hk
            rw [h6]
            exact h.dist j k hjk h1 h5 haj hak
    unfold wpOp
    rw [ho]
    simp only [hw, if_true]
    refine .inl ?_
    unfold Oper.wp
    generalize hr : (execOp a.eval o).run P w = r at *
    unfold GoodV at hgood
    split at hgood
    · exact step _ _ hgood.1 hgood.2.1 hgood.2.2.1 hgood.2.2.2.1 hgood.2.2.2.2
    · exact step _ _ (fun _ => rfl) hgood.1 hgood.2.1 hgood.2.2.1 hgood.2.2.2
    · refine Calls.mono hgood ?_
      rintro e w'' ⟨v, rfl, h0, h1, h2, h3, h4⟩
      exact step _ _ h0 h1 h2 h3 h4
    · exact hgood.elim
theorem region_facts_val {id : Nat} {w : World} (n : Nat) (al : Nat → Bool) (F : Nat → Value → World → Prop) (S : (Nat → Bool) → (Nat → Value) → World → Prop) (R : Nat → World → World → Prop) (D : List Nat) (hm : P.follows .mixedOrders = true) (hnn : decide (n ≤ ops.size) = true)
    (hD : dstB ops n D fr.size = true) (hn : D.Nodup) (ht : (topoB ops && tailQ ops n (fun _ => false) && Region.seqB .any ops (ops.size - n) n (headL n (ops.size - n))) = true)
    (hF : ∀ i j v w w', j ≠ i → F j v w → R i w w' → F j v w') (hR : ∀ i w w', R i w w' → w.heap.size ≤ w'.heap.size) (h0 : ∀ vs, S (fun _ => false) vs w.drew) (ob : ∀ f, f = fr → AllObV P F S R al D f 0 (ops.toList.take n))
    (fin : ∀ (vs : Nat → Value) w, S (fun j => decide (j < n)) (fun j => if j < D.length then vs j else undef) w → (∀ j, j < n → F j (vs j) w) → (∀ j k, j ≠ k → j < n → k < n → al j = true → al k = true → ∀ g, blkOf (vs j) = some g → blkOf (vs k) = some g → False) → wpList P ops Q (ops.toList.drop n) ⟨setAll fr 0 D vs, df⟩ w) : (Code.region id ops true).wp P Q ⟨fr, df⟩ w := by
  have hnn' : n ≤ ops.size := of_decide_eq_true hnn
  simp only [Bool.and_eq_true] at ht
  obtain ⟨⟨ht, htl⟩, hsq⟩ := ht
  have hgo := facts_anyV (P := P) (Q := Q) (fr := fr) (df := df) hnn' hD hn ht htl hsq hF hR (ob fr rfl) ?_ n (Array.replicate ops.size false) ⟨fr, df⟩ w.drew (by simp) (fun j o hj hl => by by_cases hj' : j < ops.size <;> simp [hj'] at hl) (fun j hj => by cases hj) (fun j _ => by by_cases hj : j < ops.size <;> simp [hj]) (by simp [List.take_replicate]; omega) ⟨by rw [show (fun j => (Array.replicate ops.size false).getD j false) = fun _ => false from funext fun j => (by by_cases hj : j < ops.size <;> simp [hj])]; exact h0 _, rfl, rfl, fun _ _ => rfl, ?_, ?_, ?_⟩
  · rw [show n + (ops.size - n) = ops.size by omega] at hgo
    exact wp_region_any hm hgo
  · intro a w' h
    have hlen : D.length = n := (dstB_spec hD).1
    have := fin (fun j => a.tmps.getD (D.getD j 0) undef) w' (by have := h.s; rwa [show (fun j => (Array.replicate n true).getD j false) = fun j => decide (j < n) from funext fun j => (by by_cases hj : j < n <;> simp [hj])] at this) (fun j hj => h.facts j (by simp [hj])) (fun j k hjk hj hk => h.dist j k hjk (by simp [hj]) (by simp [hk]))
    have e : a = ⟨setAll fr 0 D (fun j => a.tmps.getD (D.getD j 0) undef), df⟩ := by
      obtain ⟨tm, dd⟩ := a
      have h1 := h.size
      have h2 := h.defers
      have h3 := h.frame
      simp only at h1 h2 h3
      subst h2
      congr 1
      refine Array.ext (by rw [setAll_size, h1]) ?_
      intro k hk1 hk2
      have g : tm.getD k undef = (setAll fr 0 D (fun j => tm.getD (D.getD j 0) undef)).getD k undef := by
        by_cases hkD : k ∈ D
        · obtain ⟨j, hj, rfl⟩ := List.mem_iff_getElem.1 hkD
          rw [setAll_in D fr 0 _ j D[j] hn (by simp [hj]) (by omega)]
          simp [hj]
        · rw [setAll_out D fr 0 _ k hkD, h3 k hkD]
      rw [Array.getD_eq_getD_getElem?, Array.getD_eq_getD_getElem?, Array.getElem?_eq_getElem hk1, Array.getElem?_eq_getElem hk2] at g
      exact g
    rw [e]
    exact this
  · intro j hj
    by_cases hj' : j < ops.size <;> simp [hj'] at hj
  · intro j hj
    by_cases hj' : j < ops.size <;> simp [hj'] at hj
  · intro j k _ hj
    by_cases hj' : j < ops.size <;> simp [hj'] at hj
end
end Go.Proofs.Ytpbepmipfjcjbaa
