/- A region that draws its order, by one fact for each of its operations: each fact needs only those operations that the operation waits for, and lasts whatever else comes up. -/
import Derived.Test.YtifoeddeofhclaaDoorLib
namespace Go.Proofs.YtifoeddeofhclaaDoor
open Go.RowKit
section
variable {P : Program} {ops : Array Oper} {Q : Exit → Act → World → Prop} {F : Nat → Value → World → Prop} {S : World → Prop} {R : World → World → Prop} {al : Nat → Bool} {D : List Nat} {fr : Array Value} {df : List Deferred}
/-- A call of a named function, of whatever values of the operands. -/
theorem execOp_call_fn (ρ : Operand → Value) (dst : Option Tmp) (f : FuncId) (xs : Array Operand) (ats : Array TypeId) (ty : TypeId) (pos : String) (after : Array Edge) (guard : Option (Nat × Bool)) (h : ρ (.func f) = .func (.func f) #[] #[]) :
    execOp ρ { dst, op := .call { callee := .value (.func f), args := xs, argTypes := ats }, type := ty, pos, after, guard } = callFunc f (xs.map ρ) := by
  have e : execOp ρ { dst, op := .call { callee := .value (.func f), args := xs, argTypes := ats }, type := ty, pos, after, guard } = callVal (ρ (.func f)) (xs.map ρ) := rfl
  rw [e, h, callVal_fn]
  simp
/-- The block that a value points into. -/
def blkOf : Value → Option Nat
  | .pointer (some p) => some p.block
  | .slice (some p) _ _ => some p.block
  | _ => none
/-- What operation number i must do, run from w. -/
def Good (P : Program) (F : Nat → Value → World → Prop) (R : World → World → Prop) (i : Nat) (w : World) : Result Next → Prop
  | .ok (.value v) w' => F i v w' ∧ R w w'
  | .ok .skip w' => F i undef w' ∧ R w w'
  | .ok (.enter f args) w' => Calls P f args w' fun e w'' => ∃ v, e = .returned v ∧ F i v w'' ∧ R w w''
  | _ => False
/-- The same; and where 'al i' it makes a block, and yields a way to it. -/
def GoodA (P : Program) (F : Nat → Value → World → Prop) (R : World → World → Prop) (al : Nat → Bool) (i : Nat) (w : World) (r : Result Next) : Prop :=
  Good P F R i w r ∧ (al i = true → ∃ v w', r = .ok (.value v) w' ∧ blkOf v = some w.heap.size ∧ w.heap.size < w'.heap.size)
/-- The facts of those that an operation waits for. -/
def DepF (F : Nat → Value → World → Prop) (D : List Nat) (ρ : Operand → Value) (w : World) : List Edge → Prop
  | [] => True
  | e :: l => (Region.binds .any e = true → F e.on (ρ (.tmp (D.getD e.on 0))) w) ∧ DepF F D ρ w l
def GuardOk (F : Nat → Value → World → Prop) (o : Oper) : Prop :=
  match o.guard with
  | none => True
  | some (j, b) => (o.after.toList.any fun e => Region.binds .any e && e.on == j) = true ∧ ∀ v w, F j v w → v = .bool b
structure Rho (ρ : Operand → Value) (D : List Nat) (fr : Array Value) : Prop where
  con : ∀ v, ρ (.const v) = v
  fn : ∀ f, ρ (.func f) = .func (.func f) #[] #[]
  glob : ∀ g, ρ (.global g) = .pointer (some ⟨g, 0, none⟩)
  slot : ∀ k, D.contains k = false → ρ (.tmp k) = fr.getD k undef
def ObA (P : Program) (F : Nat → Value → World → Prop) (S : World → Prop) (R : World → World → Prop) (al : Nat → Bool) (D : List Nat) (fr : Array Value) (i : Nat) (o : Oper) : Prop :=
  GuardOk F o ∧ ∀ (ρ : Operand → Value) (w : World), Rho ρ D fr → DepF F D ρ w o.after.toList → S w → GoodA P F R al i w ((execOp ρ o).run P w)
def AllObA (P : Program) (F : Nat → Value → World → Prop) (S : World → Prop) (R : World → World → Prop) (al : Nat → Bool) (D : List Nat) (fr : Array Value) : Nat → List Oper → Prop
  | _, [] => True
  | i, o :: l => ObA P F S R al D fr i o ∧ AllObA P F S R al D fr (i + 1) l
def Ob (P : Program) (F : Nat → Value → World → Prop) (S : World → Prop) (R : World → World → Prop) (D : List Nat) (fr : Array Value) (i : Nat) (o : Oper) : Prop :=
  GuardOk F o ∧ ∀ (ρ : Operand → Value) (w : World), Rho ρ D fr → DepF F D ρ w o.after.toList → S w → Good P F R i w ((execOp ρ o).run P w)
def AllOb (P : Program) (F : Nat → Value → World → Prop) (S : World → Prop) (R : World → World → Prop) (D : List Nat) (fr : Array Value) : Nat → List Oper → Prop
  | _, [] => True
  | i, o :: l => Ob P F S R D fr i o ∧ AllOb P F S R D fr (i + 1) l
theorem AllOb.plain : ∀ {l : List Oper} {i : Nat}, AllOb P F S R D fr i l → AllObA P F S R (fun _ => false) D fr i l
  | [], _, _ => trivial
  | _ :: _, _, h => ⟨⟨h.1.1, fun ρ w a b c => ⟨h.1.2 ρ w a b c, nofun⟩⟩, AllOb.plain h.2⟩
theorem AllObA.get : ∀ {l : List Oper} {i : Nat}, AllObA P F S R al D fr i l → ∀ j o, l[j]? = some o → ObA P F S R al D fr (i + j) o
  | [], _, _, j, o, ho => by simp at ho
  | x :: l, i, h, 0, o, ho => by
    simp only [List.getElem?_cons_zero, Option.some.injEq] at ho
    subst ho
    exact h.1
  | x :: l, i, h, j + 1, o, ho => by
    have := AllObA.get h.2 j o (by simpa using ho)
    rw [show i + (j + 1) = i + 1 + j by omega]
    exact this
structure HeldF (F : Nat → Value → World → Prop) (S : World → Prop) (al : Nat → Bool) (D : List Nat) (fr : Array Value) (df : List Deferred) (listed : Array Bool) (a : Act) (w : World) : Prop where
  s : S w
  size : a.tmps.size = fr.size
  defers : a.defers = df
  frame : ∀ k, k ∉ D → a.tmps.getD k undef = fr.getD k undef
  facts : ∀ j, listed.getD j false = true → F j (a.tmps.getD (D.getD j 0) undef) w
  own : ∀ j, listed.getD j false = true → al j = true → ∃ g, blkOf (a.tmps.getD (D.getD j 0) undef) = some g ∧ g < w.heap.size
  dist : ∀ j k, j ≠ k → listed.getD j false = true → listed.getD k false = true → al j = true → al k = true → blkOf (a.tmps.getD (D.getD j 0) undef) ≠ blkOf (a.tmps.getD (D.getD k 0) undef)
def setAll : Array Value → Nat → List Nat → (Nat → Value) → Array Value
  | fr, _, [], _ => fr
  | fr, j, d :: l, vs => setAll (fr.setIfInBounds d (vs j)) (j + 1) l vs
theorem setAll_size : ∀ (l : List Nat) (fr : Array Value) (j : Nat) (vs : Nat → Value), (setAll fr j l vs).size = fr.size
  | [], _, _, _ => rfl
  | d :: l, fr, j, vs => by simp [setAll, setAll_size l]
theorem setAll_out : ∀ (l : List Nat) (fr : Array Value) (j : Nat) (vs : Nat → Value) (k : Nat), k ∉ l → (setAll fr j l vs).getD k undef = fr.getD k undef
  | [], _, _, _, _, _ => rfl
  | d :: l, fr, j, vs, k, h => by
    simp only [List.mem_cons, not_or] at h
    rw [setAll, setAll_out l _ _ _ _ h.2]
    simp [Array.getElem?_setIfInBounds_ne (Ne.symm h.1)]
theorem setAll_in : ∀ (l : List Nat) (fr : Array Value) (j : Nat) (vs : Nat → Value) (i k : Nat), l.Nodup → l[i]? = some k → k < fr.size → (setAll fr j l vs).getD k undef = vs (j + i)
  | [], _, _, _, i, k, _, h, _ => by simp at h
  | d :: l, fr, j, vs, 0, k, hn, h, hk => by
    simp only [List.getElem?_cons_zero, Option.some.injEq] at h
    subst h
    rw [setAll, setAll_out l _ _ _ _ (List.nodup_cons.1 hn).1]
    simp [hk]
  | d :: l, fr, j, vs, i + 1, k, hn, h, hk => by
    rw [setAll, setAll_in l _ (j + 1) vs i k (List.nodup_cons.1 hn).2 (by simpa using h) (by simpa using hk)]
    congr 1
    omega
def topoB (ops : Array Oper) : Bool := (List.range ops.size).all fun i => ((ops[i]?).map fun o => o.after.toList.all fun e => !Region.binds .any e || decide (e.on < i)).getD true
theorem topo_spec (h : topoB ops = true) (i : Nat) (o : Oper) (ho : ops[i]? = some o) : ∀ e ∈ o.after, Region.binds .any e = true → e.on < i := by
  intro e he hbd
  unfold topoB at h
  rw [List.all_eq_true] at h
  have hi : i < ops.size := (Array.getElem?_eq_some_iff.1 ho).1
  have := h i (List.mem_range.2 hi)
  rw [ho] at this
  simp only [Option.map_some, Option.getD_some, List.all_eq_true] at this
  have h2 := this e (Array.mem_toList_iff.2 he)
  rw [hbd] at h2
  simpa using h2
theorem ready_nil (ht : topoB ops = true) {listed : Array Bool} (hs : listed.size = ops.size) (h : Region.ready .any ops listed = []) : ∀ j, j < ops.size → listed.getD j false = true := by
  intro j
  induction j using Nat.strongRecOn with
  | ind j ih =>
    intro hj
    cases hl : listed.getD j false with
    | true => rfl
    | false =>
      exfalso
      have hm : j ∈ Region.ready .any ops listed := by
        rw [mem_ready]
        refine ⟨?_, ops[j], by simp [hj], ?_⟩
        · simpa [hs ▸ hj, hs, hj] using hl
        · intro e he hbd
          have := topo_spec ht j ops[j] (by simp [hj]) e he hbd
          exact ih e.on this (by omega)
      rw [h] at hm
      cases hm
/-- What has come up has come up behind all that it waits for. -/
def Closed (ops : Array Oper) (listed : Array Bool) : Prop := ∀ j o, ops[j]? = some o → listed.getD j false = true → ∀ e ∈ o.after, Region.binds .any e = true → listed.getD e.on false = true
theorem Closed.waits {listed : Array Bool} (h : Closed ops listed) {t i : Nat} (ht : listed.getD t false = true) (hw : Region.waitsFor .any ops t i = true) : listed.getD i false = true := by
  obtain ⟨oj, hoj, e, he, hb, rfl⟩ := Region.waitsFor_spec hw
  exact h t oj hoj ht e he hb
/-- t waits for i, by f + 1 steps at most. -/
def reachB (ops : Array Oper) (n : Nat) : Nat → Nat → Nat → Bool
  | 0, t, i => Region.waitsFor .any ops t i
  | f + 1, t, i => Region.waitsFor .any ops t i || (List.range n).any fun k => Region.waitsFor .any ops t k && reachB ops n f k i
theorem Closed.reach {listed : Array Bool} (h : Closed ops listed) {n : Nat} : ∀ (f t i : Nat), listed.getD t false = true → reachB ops n f t i = true → listed.getD i false = true
  | 0, _, _, ht, hr => h.waits ht hr
  | f + 1, t, i, ht, hr => by
    unfold reachB at hr
    rw [Bool.or_eq_true] at hr
    rcases hr with hr | hr
    · exact h.waits ht hr
    · rw [List.any_eq_true] at hr
      obtain ⟨k, _, hk⟩ := hr
      rw [Bool.and_eq_true] at hk
      exact Closed.reach h f k i (h.waits ht hk.1) hk.2
/-- Each of the operations from number n on waits for each ahead of n, by five steps at most. -/
def tailB (ops : Array Oper) (n : Nat) (fl : Nat → Bool) : Bool := (List.range ops.size).all fun t => decide (t < n) || (List.range n).all fun i => fl i || reachB ops n 4 t i
theorem tailB_spec {n : Nat} {fl : Nat → Bool} (h : tailB ops n fl = true) {listed : Array Bool} (hc : Closed ops listed) {t i : Nat} (ht : t ∈ Region.ready .any ops listed) (hn : n ≤ t) (hi : i < n) (hfl : fl i = false) : listed.getD i false = true := by
  obtain ⟨_, o, ho, hdep⟩ := mem_ready.1 ht
  have hts : t < ops.size := (Array.getElem?_eq_some_iff.1 ho).1
  have one : ∀ k, Region.waitsFor .any ops t k = true → listed.getD k false = true := by
    intro k hk
    obtain ⟨oj, hoj, e, he, hb, rfl⟩ := Region.waitsFor_spec hk
    rw [ho] at hoj
    injection hoj with hoj
    subst hoj
    exact hdep e he hb
  unfold tailB at h
  rw [List.all_eq_true] at h
  have h1 := h t (List.mem_range.2 hts)
  rw [Bool.or_eq_true, decide_eq_true_iff] at h1
  rcases h1 with h1 | h1
  · omega
  · rw [List.all_eq_true] at h1
    have h2 := h1 i (List.mem_range.2 hi)
    rw [hfl, Bool.false_or] at h2
    unfold reachB at h2
    rw [Bool.or_eq_true] at h2
    rcases h2 with h2 | h2
    · exact one i h2
    · rw [List.any_eq_true] at h2
      obtain ⟨k, _, hk⟩ := h2
      rw [Bool.and_eq_true] at hk
      exact hc.reach _ k i (one k hk.1) hk.2
def headL (n m : Nat) : Array Bool := (List.replicate n true ++ List.replicate m false).toArray
theorem facts_any {n : Nat} {fl : Nat → Bool} (hnn : n ≤ ops.size) (hD : (ops.toList.take n).map (·.dst) = D.map some) (hn : D.Nodup) (hlt : ∀ d ∈ D, d < fr.size) (ht : topoB ops = true) (htl : tailB ops n fl = true) (hsq : Region.seqB .any ops (ops.size - n) n (headL n (ops.size - n)) = true)
    (hF : ∀ j v w w', F j v w → R w w' → F j v w') (hS : ∀ w w', S w → R w w' → S w') (hR : ∀ w w', R w w' → w.heap.size ≤ w'.heap.size) (ob : AllObA P F S R al D fr 0 (ops.toList.take n))
    (fin : ∀ a w, HeldF F S al D fr df (Array.replicate n true) a w → wpList P ops Q (ops.toList.drop n) a w) :
    ∀ (fuel : Nat) (listed : Array Bool) (a : Act) (w : World), listed.size = ops.size → Closed ops listed → (∀ j, fl j = true → listed.getD j false = true) → (∀ j, n ≤ j → listed.getD j false = false) → (listed.toList.take n).count false = fuel → HeldF F S al D fr df listed a w → wpAny P .any ops Q (fuel + (ops.size - n)) listed a w := by
  have hlen : D.length = n := by
    have := congrArg List.length hD
    rw [List.length_map, List.length_map, List.length_take] at this
    simp at this
    omega
  have dstOf : ∀ (i : Nat) (o : Oper), i < n → ops[i]? = some o → ∃ d, o.dst = some d ∧ D[i]? = some d := by
    intro i o hi ho
    have h1 : ((ops.toList.take n).map (·.dst))[i]? = some o.dst := by simp [ho, hi]
    rw [hD] at h1
    simp only [List.getElem?_map, Option.map_eq_some_iff] at h1
    obtain ⟨d, h2, h3⟩ := h1
    exact ⟨d, h3.symm, h2⟩
  intro fuel
  induction fuel with
  | zero =>
    intro listed a w hs hcl hfl htail hc h
    have hall : ∀ j, j < n → listed.getD j false = true := by
      intro j hj
      have hj' : j < listed.size := by omega
      have hm : listed[j] ∈ listed.toList.take n := by
        rw [List.mem_iff_getElem?]
        exact ⟨j, by rw [List.getElem?_take, if_pos hj]; simp [hj']⟩
      cases hb : listed[j] with
      | true => simp [hj', hb]
      | false =>
        rw [hb] at hm
        exact absurd hm (List.count_eq_zero.1 hc)
    have hlist : listed = headL n (ops.size - n) := by
      refine Array.ext (by simp [headL]; omega) ?_
      intro j h1 h2
      by_cases hj : j < n
      · have := hall j hj
        have e2 : (headL n (ops.size - n))[j] = true := by simp [headL, hj]
        rw [e2]
        simpa [h1] using this
      · have := htail j (by omega)
        have e2 : (headL n (ops.size - n))[j] = false := by simp [headL, List.getElem_append, hj]
        rw [e2]
        simpa [h1] using this
    rw [Nat.zero_add]
    have hl : (ops.toList.drop n).length = ops.size - n := by simp
    rw [← hl]
    have hup : ∀ j, (Array.replicate n true).getD j false = true → listed.getD j false = true := by
      intro j hj
      by_cases hj' : j < n
      · exact hall j hj'
      · simp [hj'] at hj
    refine wpAny_of_seq (ops.toList.drop n) n listed a w (fun j => by simp [List.getElem?_drop]) ?_ (fin a w ⟨h.s, h.size, h.defers, h.frame, fun j hj => h.facts j (hup j hj), fun j hj => h.own j (hup j hj), fun j k hjk hj hk => h.dist j k hjk (hup j hj) (hup k hk)⟩)
    rw [hl, hlist]
    exact hsq
  | succ fuel ih =>
    intro listed a w hs hcl hfl htail hc h
    obtain ⟨j0, hj0, hun0⟩ : ∃ j, j < n ∧ listed.getD j false = false := by
      have : false ∈ listed.toList.take n := by
        rw [← List.count_pos_iff, hc]
        omega
      obtain ⟨j, hj⟩ := List.mem_iff_getElem?.1 this
      rw [List.getElem?_take] at hj
      split at hj
      · rename_i hjn
        refine ⟨j, hjn, ?_⟩
        rw [Array.getElem?_toList] at hj
        simp [hj]
      · cases hj
    rw [show fuel + 1 + (ops.size - n) = (fuel + (ops.size - n)) + 1 by omega]
    refine ⟨fun hr => ?_, fun i hi => ?_⟩
    · have := ready_nil ht hs hr j0 (by omega)
      rw [this] at hun0
      cases hun0
    have hin : i < n := by
      rcases Nat.lt_or_ge i n with hlt | hge
      · exact hlt
      · have hj0f : fl j0 = false := by
          cases hb : fl j0 with
          | false => rfl
          | true =>
            rw [hfl j0 hb] at hun0
            cases hun0
        have := tailB_spec htl hcl hi hge hj0 hj0f
        rw [this] at hun0
        cases hun0
    obtain ⟨hun, o, ho, hdep⟩ := mem_ready.1 hi
    have hio : i < ops.size := (Array.getElem?_eq_some_iff.1 ho).1
    have hil : i < listed.size := by omega
    obtain ⟨d, hd, hDi⟩ := dstOf i o hin ho
    have hdD : D.getD i 0 = d := by simp [hDi]
    have hdlt : d < fr.size := hlt d (List.mem_of_getElem? hDi)
    obtain ⟨hg, hob⟩ := ob.get i o (by simp [hin, ho])
    rw [Nat.zero_add] at hob
    have hdeps : ∀ e ∈ o.after.toList, Region.binds .any e = true → F e.on (a.eval (.tmp (D.getD e.on 0))) w := fun e he hb => h.facts e.on (hdep e (Array.mem_toList_iff.1 he) hb)
    have hDep : ∀ l : List Edge, (∀ e ∈ l, Region.binds .any e = true → F e.on (a.eval (.tmp (D.getD e.on 0))) w) → DepF F D a.eval w l := by
      intro l
      induction l with
      | nil => intro _; trivial
      | cons e l ihl => intro hl; exact ⟨hl e (by simp), ihl fun e' he' => hl e' (by simp [he'])⟩
    have hgood := hob a.eval w ⟨fun _ => rfl, fun _ => rfl, fun _ => rfl, fun k hk => h.frame k (by simpa using hk)⟩ (hDep _ hdeps) h.s
    obtain ⟨hgood, hal⟩ := hgood
    have hw : Region.wanted o (yielded ops a.tmps) = true := by
      unfold GuardOk at hg
      unfold Region.wanted
      split
      · rfl
      · rename_i j b hgd
        rw [hgd] at hg
        obtain ⟨hany, hval⟩ := hg
        rw [List.any_eq_true] at hany
        obtain ⟨e, he, hb⟩ := hany
        simp only [Bool.and_eq_true, beq_iff_eq] at hb
        obtain ⟨hb1, rfl⟩ := hb
        have hv := hval _ _ (hdeps e he hb1)
        have hj : e.on < ops.size := Nat.lt_trans (topo_spec ht i o ho e (Array.mem_toList_iff.1 he) hb1) hio
        obtain ⟨d', hd', hD'⟩ := dstOf e.on ops[e.on] (Nat.lt_trans (topo_spec ht i o ho e (Array.mem_toList_iff.1 he) hb1) hin) (by simp [hj])
        have hlt' : d' < a.tmps.size := by rw [h.size]; exact hlt d' (List.mem_of_getElem? hD')
        have hval2 : a.tmps[d']? = some (.bool b) := by
          have : a.tmps.getD d' undef = .bool b := by simpa [Act.eval, hD'] using hv
          simpa [hlt'] using this
        simp [yielded, hj, hd', hval2]
    have hcl' : Closed ops (listed.setIfInBounds i true) := by
      intro j oj hj hl e he hb
      by_cases hij : i = j
      · subst hij
        rw [ho] at hj
        injection hj with hj
        subst hj
        exact getD_set_true (hdep e he hb)
      · rw [getD_set_ne false hij] at hl
        exact getD_set_true (hcl j oj hj hl e he hb)
    have step : ∀ v w', F i v w' → R w w' → (al i = true → blkOf v = some w.heap.size ∧ w.heap.size < w'.heap.size) → wpAny P .any ops Q (fuel + (ops.size - n)) (listed.setIfInBounds i true) (a.put o.dst v) w' := by
      intro v w' hFv hRw hfresh
      rw [hd]
      have hsz := hR _ _ hRw
      have vi : (a.put (some d) v).tmps.getD (D.getD i 0) undef = v := by
        rw [hdD]
        simp [Act.put, h.size, hdlt]
      have vj : ∀ j, j ≠ i → (listed.setIfInBounds i true).getD j false = true → listed.getD j false = true ∧ (a.put (some d) v).tmps.getD (D.getD j 0) undef = a.tmps.getD (D.getD j 0) undef := by
        intro j hji hj
        rw [getD_set_ne false (Ne.symm hji)] at hj
        have hjn : j < n := by
          rcases Nat.lt_or_ge j n with hlt | hge
          · exact hlt
          · rw [htail j hge] at hj
            cases hj
        have hDj : D[j]? = some (D.getD j 0) := by simp [hlen, hjn]
        have hne : d ≠ D.getD j 0 := by
          intro he
          have h1 : D[i]? = D[j]? := by rw [hDi, hDj, he]
          exact hji ((List.getElem?_inj (by omega) hn).1 h1).symm
        refine ⟨hj, ?_⟩
        rw [Array.getD_eq_getD_getElem?, Array.getD_eq_getD_getElem?, Act.put, Array.getElem?_setIfInBounds_ne hne]
      refine ih _ _ _ (by simpa using hs) hcl' (fun j hj => getD_set_true (hfl j hj)) (fun j hj => by rw [getD_set_ne false (by omega)]; exact htail j hj) ?_ ⟨hS _ _ h.s hRw, by simpa [Act.put] using h.size, h.defers, ?_, ?_, ?_, ?_⟩
      · have hb : listed[i] = false := by simpa [hil] using hun
        rw [Array.toList_setIfInBounds, List.take_set, List.count_set (by simp; omega)]
        simp [hb, hc]
      · intro k hk
        have hkd : d ≠ k := by
          rintro rfl
          exact hk (List.mem_of_getElem? hDi)
        simpa [Act.put, Array.getElem?_setIfInBounds_ne hkd] using h.frame k hk
      · intro j hj
        by_cases hji : j = i
        · subst hji
          rw [vi]
          exact hFv
        · obtain ⟨h1, h2⟩ := vj j hji hj
          rw [h2]
          exact hF j _ _ _ (h.facts j h1) hRw
      · intro j hj ha
        by_cases hji : j = i
        · subst hji
          rw [vi]
          exact ⟨_, hfresh ha⟩
        · obtain ⟨h1, h2⟩ := vj j hji hj
          rw [h2]
          obtain ⟨g, h3, h4⟩ := h.own j h1 ha
          exact ⟨g, h3, by omega⟩
      · intro j k hjk hj hk haj hak
        by_cases hji : j = i
        · subst hji
          obtain ⟨h1, h2⟩ := vj k (Ne.symm hjk) hk
          rw [vi, h2, (hfresh haj).1]
          obtain ⟨g, h3, h4⟩ := h.own k h1 hak
          rw [h3]
          simp
          omega
        · obtain ⟨h1, h2⟩ := vj j hji hj
          rw [h2]
          by_cases hki : k = i
          · subst hki
            rw [vi, (hfresh hak).1]
            obtain ⟨g, h3, h4⟩ := h.own j h1 haj
            rw [h3]
            simp
            omega
          · obtain ⟨h5, h6⟩ := vj k hki hk
            rw [h6]
            exact h.dist j k hjk h1 h5 haj hak
    unfold wpOp
    rw [ho]
    simp only [hw, if_true]
    refine .inl ?_
    unfold Oper.wp
    generalize hr : (execOp a.eval o).run P w = r at *
    unfold Good at hgood
    split at hgood
    · refine step _ _ hgood.1 hgood.2 fun ha => ?_
      obtain ⟨v', w', h1, h2, h3⟩ := hal ha
      injection h1 with h1 h4
      injection h1 with h1
      subst h1 h4
      exact ⟨h2, h3⟩
    · refine step _ _ hgood.1 hgood.2 fun ha => ?_
      obtain ⟨v', w', h1, _⟩ := hal ha
      injection h1 with h1
      cases h1
    · refine Calls.mono hgood ?_
      rintro e w'' ⟨v, rfl, h1, h2⟩
      refine step _ _ h1 h2 fun ha => ?_
      obtain ⟨v', w', h1, _⟩ := hal ha
      injection h1 with h1
      cases h1
    · exact hgood.elim
theorem alloc_kept' (w : World) (o : Obj) : Below w.heap.size w (w.alloc o) := (Below.refl _ _).alloc (Nat.le_refl _) _
theorem dat (s m : Nat) (l : List Nat) (j : Nat) (h : j < m) : (List.range' s m ++ l).getD j 0 = s + j := by
  rw [List.getD_eq_getElem?_getD, List.getElem?_append_left (by simpa using h)]
  simp [h]
theorem region_facts_tail {id : Nat} {w : World} (n : Nat) (al : Nat → Bool) (F : Nat → Value → World → Prop) (S : World → Prop) (R : World → World → Prop) (D : List Nat) (hm : P.follows .mixedOrders = true) (hnn : decide (n ≤ ops.size) = true)
    (hD : (ops.toList.take n).map (·.dst) = D.map some) (hn : D.Nodup) (hlt' : (D.all fun d => decide (d < fr.size)) = true) (ht : (topoB ops && tailB ops n (fun _ => false) && Region.seqB .any ops (ops.size - n) n (headL n (ops.size - n))) = true)
    (hF : ∀ j v w w', F j v w → R w w' → F j v w') (hS : ∀ w w', S w → R w w' → S w') (hR : ∀ w w', R w w' → w.heap.size ≤ w'.heap.size) (h0 : S w.drew) (ob : ∀ f, f = fr → AllObA P F S R al D f 0 (ops.toList.take n))
    (fin : ∀ (vs : Nat → Value) w, S w → (∀ j, j < n → F j (vs j) w) → (∀ j k, j ≠ k → j < n → k < n → al j = true → al k = true → blkOf (vs j) ≠ blkOf (vs k)) → wpList P ops Q (ops.toList.drop n) ⟨setAll fr 0 D vs, df⟩ w) : (Code.region id ops true).wp P Q ⟨fr, df⟩ w := by
  have hlt : ∀ d ∈ D, d < fr.size := fun d hd => by simpa using List.all_eq_true.1 hlt' d hd
  have hnn' : n ≤ ops.size := of_decide_eq_true hnn
  simp only [Bool.and_eq_true] at ht
  obtain ⟨⟨ht, htl⟩, hsq⟩ := ht
  have hgo := facts_any (P := P) (Q := Q) (fr := fr) (df := df) hnn' hD hn hlt ht htl hsq hF hS hR (ob fr rfl) ?_ n (Array.replicate ops.size false) ⟨fr, df⟩ w.drew (by simp) (fun j o hj hl => by by_cases hj' : j < ops.size <;> simp [hj'] at hl) (fun j hj => by cases hj) (fun j _ => by by_cases hj : j < ops.size <;> simp [hj]) (by simp [List.take_replicate]; omega) ⟨h0, rfl, rfl, fun _ _ => rfl, ?_, ?_, ?_⟩
  · rw [show n + (ops.size - n) = ops.size by omega] at hgo
    exact wp_region_any hm hgo
  · intro a w' h
    have hlen : D.length = n := by
      have := congrArg List.length hD
      rw [List.length_map, List.length_map, List.length_take] at this
      simp at this
      omega
    have := fin (fun j => a.tmps.getD (D.getD j 0) undef) w' h.s (fun j hj => h.facts j (by simp [hj])) (fun j k hjk hj hk => h.dist j k hjk (by simp [hj]) (by simp [hk]))
    have e : a = ⟨setAll fr 0 D (fun j => a.tmps.getD (D.getD j 0) undef), df⟩ := by
      obtain ⟨tm, dd⟩ := a
      have h1 := h.size
      have h2 := h.defers
      have h3 := h.frame
      simp only at h1 h2 h3
      subst h2
      congr 1
      refine Array.ext (by rw [setAll_size, h1]) ?_
      intro k hk1 hk2
      have g : tm.getD k undef = (setAll fr 0 D (fun j => tm.getD (D.getD j 0) undef)).getD k undef := by
        by_cases hkD : k ∈ D
        · obtain ⟨j, hj, rfl⟩ := List.mem_iff_getElem.1 hkD
          rw [setAll_in D fr 0 _ j D[j] hn (by simp [hj]) (by omega)]
          simp [hj]
        · rw [setAll_out D fr 0 _ k hkD, h3 k hkD]
      rw [Array.getD_eq_getD_getElem?, Array.getD_eq_getD_getElem?, Array.getElem?_eq_getElem hk1, Array.getElem?_eq_getElem hk2] at g
      exact g
    rw [e]
    exact this
  · intro j hj
    by_cases hj' : j < ops.size <;> simp [hj'] at hj
  · intro j hj
    by_cases hj' : j < ops.size <;> simp [hj'] at hj
  · intro j k _ hj
    by_cases hj' : j < ops.size <;> simp [hj'] at hj
/-- The same, where operation number f, a move of slot k, may come up ever so late: nobody from n on waits for it. -/
theorem region_facts_float {id : Nat} {w : World} (n f k : Nat) (F : Nat → Value → World → Prop) (S : World → Prop) (R : World → World → Prop) (D : List Nat) (hm : P.follows .mixedOrders = true) (hnn : (decide (n ≤ ops.size) && decide (f < n)) = true)
    (hD : (ops.toList.take n).map (·.dst) = D.map some) (hn : D.Nodup) (hlt' : (D.all fun d => decide (d < fr.size)) = true) (ht : (topoB ops && tailB ops n (fun j => j == f) && Region.seqB .any ops (ops.size - n) n (headL n (ops.size - n))) = true)
    (hop : (ops[f]?).map (fun o => (o.op, o.guard, o.after)) = some (.move (.tmp k), none, (((ops[f]?).map (·.after)).getD #[])))
    (haf : ((((ops[f]?).map (·.after)).getD #[]).all fun e => !Region.binds .any e) = true)
    (hfree : (Region.noSelect ops && Region.free .any ops (Array.replicate ops.size false) f && (Region.ready .any ops (Array.replicate ops.size false)).contains f) = true)
    (hQ : ∀ c a w v, Q (.panic c) (a.put (some (D.getD f 0)) v) w → Q (.panic c) a w) (hFf : ∀ w, S w → F f (fr.getD k undef) w)
    (hF : ∀ j v w w', F j v w → R w w' → F j v w') (hS : ∀ w w', S w → R w w' → S w') (hR : ∀ w w', R w w' → w.heap.size ≤ w'.heap.size) (h0 : S w.drew) (ob : ∀ f, f = fr → AllOb P F S R D f 0 (ops.toList.take n))
    (fin : ∀ (vs : Nat → Value) w, S w → (∀ j, j < n → F j (vs j) w) → wpList P ops Q (ops.toList.drop n) ⟨setAll fr 0 D vs, df⟩ w) : (Code.region id ops true).wp P Q ⟨fr, df⟩ w := by
  have hlt : ∀ d ∈ D, d < fr.size := fun d hd => by simpa using List.all_eq_true.1 hlt' d hd
  simp only [Bool.and_eq_true, decide_eq_true_eq] at hnn ht hfree
  obtain ⟨hnn', hfn⟩ := hnn
  obtain ⟨⟨ht, htl⟩, hsq⟩ := ht
  obtain ⟨⟨hns, hfr⟩, hrd⟩ := hfree
  have hlen : D.length = n := by
    have := congrArg List.length hD
    rw [List.length_map, List.length_map, List.length_take] at this
    simp at this
    omega
  have hfs : f < ops.size := by omega
  obtain ⟨o, ho⟩ : ∃ o, ops[f]? = some o := ⟨ops[f], by simp [hfs]⟩
  rw [ho] at hop haf
  simp only [Option.map_some, Option.getD_some, Option.some.injEq, Prod.mk.injEq] at hop haf
  obtain ⟨hop1, hop2, _⟩ := hop
  obtain ⟨d, hd, hDf⟩ : ∃ d, o.dst = some d ∧ D[f]? = some d := by
    have h1 : ((ops.toList.take n).map (·.dst))[f]? = some o.dst := by simp [ho, hfn]
    rw [hD] at h1
    simp only [List.getElem?_map, Option.map_eq_some_iff] at h1
    obtain ⟨d, h2, h3⟩ := h1
    exact ⟨d, h3.symm, h2⟩
  have hdlt : d < fr.size := hlt d (List.mem_of_getElem? hDf)
  have hdf : D.getD f 0 = d := by simp [hDf]
  have hcl0 : Closed ops ((Array.replicate ops.size false).setIfInBounds f true) := by
    intro j oj hj hl e he hb
    by_cases hjf : f = j
    · subst hjf
      rw [ho] at hj
      injection hj with hj
      subst hj
      have := Array.all_eq_true'.1 haf e he
      rw [hb] at this
      cases this
    · rw [getD_set_ne false hjf] at hl
      by_cases hj' : j < ops.size <;> simp [hj'] at hl
  have hl0 : ∀ j, ((Array.replicate ops.size false).setIfInBounds f true).getD j false = true → j = f := by
    intro j hj
    by_cases hjf : f = j
    · exact hjf.symm
    · rw [getD_set_ne false hjf] at hj
      by_cases hj' : j < ops.size <;> simp [hj'] at hj
  have hcount : (((Array.replicate ops.size false).setIfInBounds f true).toList.take n).count false = n - 1 := by
    rw [Array.toList_setIfInBounds, List.take_set, List.count_set (by simp; omega)]
    simp [List.take_replicate]
    omega
  have hgo := facts_any (P := P) (Q := Q) (F := F) (S := S) (R := R) (al := fun _ => false) (fr := fr) (df := df) hnn' hD hn hlt ht htl hsq hF hS hR (ob fr rfl).plain ?_ (n - 1) ((Array.replicate ops.size false).setIfInBounds f true) ⟨fr.setIfInBounds d (fr.getD k undef), df⟩ w.drew (by simp) hcl0 (fun j hj => by
      have : j = f := by simpa using hj
      subst this
      simp [hfs]) (fun j hj => by
      rw [getD_set_ne false (by omega)]
      by_cases hj' : j < ops.size <;> simp [hj']) hcount ⟨h0, by simp, rfl, ?_, ?_, ?_, ?_⟩
  · refine wp_region_any hm ?_
    have hy : Yields P ops o (fr.getD k undef) ⟨fr, df⟩ := by
      refine .inl ⟨by simp [Region.wanted, hop2], fun w => ?_⟩
      simp [execOp, hop1, Act.eval]
    have := wpAny_take (P := P) (Q := Q) (fuel := n - 1 + (ops.size - n)) (a := ⟨fr, df⟩) (w := w.drew) ho hns hfr hrd (fun c a w h => hQ c a w (fr.getD k undef) (by rw [hdf, ← hd]; exact h)) hy (by rw [hd]; exact hgo)
    rw [show n - 1 + (ops.size - n) + 1 = ops.size by omega] at this
    exact this
  · intro a w' h
    have := fin (fun j => a.tmps.getD (D.getD j 0) undef) w' h.s (fun j hj => h.facts j (by simp [hj]))
    have e : a = ⟨setAll fr 0 D (fun j => a.tmps.getD (D.getD j 0) undef), df⟩ := by
      obtain ⟨tm, dd⟩ := a
      have h1 := h.size
      have h2 := h.defers
      have h3 := h.frame
      simp only at h1 h2 h3
      subst h2
      congr 1
      refine Array.ext (by rw [setAll_size, h1]) ?_
      intro k hk1 hk2
      have g : tm.getD k undef = (setAll fr 0 D (fun j => tm.getD (D.getD j 0) undef)).getD k undef := by
        by_cases hkD : k ∈ D
        · obtain ⟨j, hj, rfl⟩ := List.mem_iff_getElem.1 hkD
          rw [setAll_in D fr 0 _ j D[j] hn (by simp [hj]) (by omega)]
          simp [hj]
        · rw [setAll_out D fr 0 _ k hkD, h3 k hkD]
      rw [Array.getD_eq_getD_getElem?, Array.getD_eq_getD_getElem?, Array.getElem?_eq_getElem hk1, Array.getElem?_eq_getElem hk2] at g
      exact g
    rw [e]
    exact this
  · intro x hx
    have hne : d ≠ x := by
      rintro rfl
      exact hx (List.mem_of_getElem? hDf)
    simp [Array.getElem?_setIfInBounds_ne hne]
  · intro j hj
    rw [hl0 j hj, hdf]
    simpa [hdlt] using hFf _ h0
  · intro j _ hj
    cases hj
  · intro j k _ _ _ hj
    cases hj
theorem region_facts {id : Nat} {w : World} (F : Nat → Value → World → Prop) (S : World → Prop) (R : World → World → Prop) (D : List Nat) (hm : P.follows .mixedOrders = true)
    (hD : ops.toList.map (·.dst) = D.map some) (hn : D.Nodup) (hlt' : (D.all fun d => decide (d < fr.size)) = true) (ht : (topoB ops && tailB ops ops.size (fun _ => false) && Region.seqB .any ops (ops.size - ops.size) ops.size (headL ops.size (ops.size - ops.size))) = true)
    (hF : ∀ j v w w', F j v w → R w w' → F j v w') (hS : ∀ w w', S w → R w w' → S w') (hR : ∀ w w', R w w' → w.heap.size ≤ w'.heap.size) (h0 : S w.drew) (ob : ∀ f, f = fr → AllOb P F S R D f 0 ops.toList)
    (fin : ∀ (vs : Nat → Value) w, S w → (∀ j, j < ops.size → F j (vs j) w) → Q .normal ⟨setAll fr 0 D vs, df⟩ w) : (Code.region id ops true).wp P Q ⟨fr, df⟩ w := by
  have e : ops.toList.take ops.size = ops.toList := by rw [← Array.length_toList, List.take_length]
  have e2 : ops.toList.drop ops.size = [] := by rw [← Array.length_toList, List.drop_length]
  refine region_facts_tail ops.size (fun _ => false) F S R D hm (by simp) (by rw [e]; exact hD) hn hlt' ht hF hS hR h0 (by rw [e]; exact fun f hf => (ob f hf).plain) ?_
  intro vs w' hs hf _
  rw [e2]
  exact fin vs w' hs hf
end
end Go.Proofs.YtifoeddeofhclaaDoor
