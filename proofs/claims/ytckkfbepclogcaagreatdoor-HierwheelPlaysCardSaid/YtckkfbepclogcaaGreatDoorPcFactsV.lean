/- The law: the texts FactsV, laid end to end by a program. -/
import Derived.Test.YtckkfbepclogcaaGreatDoorPcFactsR
namespace Go.Proofs.YtckkfbepclogcaaGreatDoor
open Go.RowKit
section
variable {P : Program} {ops : Array Oper} {Q : Exit → Act → World → Prop} {F : Nat → Value → World → Prop} {S : (Nat → Bool) → (Nat → Value) → World → Prop} {R : Nat → World → World → Prop} {al : Nat → Bool} {D : List Nat} {fr : Array Value} {df : List Deferred}
/-- The values of the operations with a slot in D. -/
def valV (D : List Nat) (a : Act) : Nat → Value := fun j => if j < D.length then a.tmps.getD (D.getD j 0) undef else undef
def updV (vs : Nat → Value) (i : Nat) (v : Value) : Nat → Value := fun j => if j = i then v else vs j
theorem updV_at (vs : Nat → Value) (i : Nat) (v : Value) : updV vs i v i = v := if_pos rfl
theorem updV_ne (vs : Nat → Value) {i j : Nat} (v : Value) (h : j ≠ i) : updV vs i v j = vs j := if_neg h
def GoodV (P : Program) (F : Nat → Value → World → Prop) (S : (Nat → Bool) → (Nat → Value) → World → Prop) (R : Nat → World → World → Prop) (al : Nat → Bool) (p : Nat → Bool) (vs : Nat → Value) (dn : Bool) (i : Nat) (w : World) : Result Next → Prop
  | .ok (.value v) w' => (dn = true → v = undef) ∧ F i v w' ∧ R i w w' ∧ (al i = true → Frsh v w w') ∧ S (also p i) (updV vs i v) w'
  | .ok .skip w' => F i undef w' ∧ R i w w' ∧ (al i = true → Frsh undef w w') ∧ S (also p i) (updV vs i undef) w'
  | .ok (.enter f args) w' => Calls P f args w' fun e w'' => ∃ v, e = .returned v ∧ (dn = true → v = undef) ∧ F i v w'' ∧ R i w w'' ∧ (al i = true → Frsh v w w'') ∧ S (also p i) (updV vs i v) w''
  | _ => False
def ObV (P : Program) (F : Nat → Value → World → Prop) (S : (Nat → Bool) → (Nat → Value) → World → Prop) (R : Nat → World → World → Prop) (al : Nat → Bool) (D : List Nat) (fr : Array Value) (i : Nat) (o : Oper) : Prop :=
  GuardOk F o ∧ ∀ (ρ : Operand → Value) (w : World) (p : Nat → Bool) (vs : Nat → Value), p i = false → DepQ p o.after.toList → Rho ρ D fr → DepF F D ρ w o.after.toList → (∀ j, p j = true → ρ (.tmp (D.getD j 0)) = vs j) → S p vs w → GoodV P F S R al p vs o.dst.isNone i w ((execOp ρ o).run P w)
def AllObV (P : Program) (F : Nat → Value → World → Prop) (S : (Nat → Bool) → (Nat → Value) → World → Prop) (R : Nat → World → World → Prop) (al : Nat → Bool) (D : List Nat) (fr : Array Value) : Nat → List Oper → Prop
  | _, [] => True
  | i, o :: l => ObV P F S R al D fr i o ∧ AllObV P F S R al D fr (i + 1) l
theorem AllObV.get : ∀ {l : List Oper} {i : Nat}, AllObV P F S R al D fr i l → ∀ j o, l[j]? = some o → ObV P F S R al D fr (i + j) o
  | [], _, _, j, o, ho => by simp at ho
  | x :: l, i, h, 0, o, ho => by
    simp only [List.getElem?_cons_zero, Option.some.injEq] at ho
    subst ho
    exact h.1
  | x :: l, i, h, j + 1, o, ho => by
    have := AllObV.get h.2 j o (by simpa using ho)
    rw [show i + (j + 1) = i + 1 + j by omega]
    exact this
structure HeldV (F : Nat → Value → World → Prop) (S : (Nat → Bool) → (Nat → Value) → World → Prop) (al : Nat → Bool) (D : List Nat) (fr : Array Value) (df : List Deferred) (listed : Array Bool) (a : Act) (w : World) : Prop where
  s : S (fun j => listed.getD j false) (valV D a) w
  size : a.tmps.size = fr.size
  defers : a.defers = df
  frame : ∀ k, k ∉ D → a.tmps.getD k undef = fr.getD k undef
  facts : ∀ j, listed.getD j false = true → F j (a.tmps.getD (D.getD j 0) undef) w
  own : ∀ j, listed.getD j false = true → al j = true → ∀ g, blkOf (a.tmps.getD (D.getD j 0) undef) = some g → g < w.heap.size
  dist : ∀ j k, j ≠ k → listed.getD j false = true → listed.getD k false = true → al j = true → al k = true → ∀ g, blkOf (a.tmps.getD (D.getD j 0) undef) = some g → blkOf (a.tmps.getD (D.getD k 0) undef) = some g → False
theorem facts_anyV {n : Nat} {fl : Nat → Bool} (hnn : n ≤ ops.size) (hD : dstB ops n D fr.size = true) (hn : D.Nodup) (ht : topoB ops = true) (htl : tailQ ops n fl = true) (hsq : Region.seqB .any ops (ops.size - n) n (headL n (ops.size - n)) = true)
    (hF : ∀ i j v w w', j ≠ i → F j v w → R i w w' → F j v w') (hR : ∀ i w w', R i w w' → w.heap.size ≤ w'.heap.size) (ob : AllObV P F S R al D fr 0 (ops.toList.take n))
    (fin : ∀ a w, HeldV F S al D fr df (Array.replicate n true) a w → wpList P ops Q (ops.toList.drop n) a w) :
    ∀ (fuel : Nat) (listed : Array Bool) (a : Act) (w : World), listed.size = ops.size → Closed ops listed → (∀ j, fl j = true → listed.getD j false = true) → (∀ j, n ≤ j → listed.getD j false = false) → (listed.toList.take n).count false = fuel → HeldV F S al D fr df listed a w → wpAny P .any ops Q (fuel + (ops.size - n)) listed a w := by
  obtain ⟨hlen, dstOf⟩ := dstB_spec hD
  intro fuel
  induction fuel with
  | zero =>
    intro listed a w hs hcl hfl htail hc h
    have hall : ∀ j, j < n → listed.getD j false = true := by
      intro j hj
      have hj' : j < listed.size := by omega
      have hm : listed[j] ∈ listed.toList.take n := by
        rw [List.mem_iff_getElem?]
        exact ⟨j, by rw [List.getElem?_take, if_pos hj]; simp [hj']⟩
      cases hb : listed[j] with
      | true => simp [hj', hb]
      | false =>
        rw [hb] at hm
        exact absurd hm (List.count_eq_zero.1 hc)
    have hlist : listed = headL n (ops.size - n) := by
      refine Array.ext (by simp [headL]; omega) ?_
      intro j h1 h2
      by_cases hj : j < n
      · have := hall j hj
        have e2 : (headL n (ops.size - n))[j] = true := by simp [headL, hj]
        rw [e2]
        simpa [h1] using this
      · have := htail j (by omega)
        have e2 : (headL n (ops.size - n))[j] = false := by simp [headL, List.getElem_append, hj]
        rw [e2]
        simpa [h1] using this
    rw [Nat.zero_add]
    have hl : (ops.toList.drop n).length = ops.size - n := by simp
    rw [← hl]
    have hup : ∀ j, (Array.replicate n true).getD j false = true → listed.getD j false = true := by
      intro j hj
      by_cases hj' : j < n
      · exact hall j hj'
      · simp [hj'] at hj
    have hlistQ : (fun j => (Array.replicate n true).getD j false) = fun j => listed.getD j false := by
      funext j
      by_cases hj : j < n
      · rw [hall j hj]
        simp [hj]
      · rw [htail j (by omega)]
        simp [hj]
    refine wpAny_of_seq (ops.toList.drop n) n listed a w (fun j => by simp [List.getElem?_drop]) ?_ (fin a w ⟨by rw [hlistQ]; exact h.s, h.size, h.defers, h.frame, fun j hj => h.facts j (hup j hj), fun j hj => h.own j (hup j hj), fun j k hjk hj hk => h.dist j k hjk (hup j hj) (hup k hk)⟩)
    rw [hl, hlist]
    exact hsq
  | succ fuel ih =>
    intro listed a w hs hcl hfl htail hc h
    obtain ⟨j0, hj0, hun0⟩ : ∃ j, j < n ∧ listed.getD j false = false := by
      have : false ∈ listed.toList.take n := by
        rw [← List.count_pos_iff, hc]
        omega
      obtain ⟨j, hj⟩ := List.mem_iff_getElem?.1 this
      rw [List.getElem?_take] at hj
      split at hj
      · rename_i hjn
        refine ⟨j, hjn, ?_⟩
        rw [Array.getElem?_toList] at hj
        simp [hj]
      · cases hj
    rw [show fuel + 1 + (ops.size - n) = (fuel + (ops.size - n)) + 1 by omega]
    refine ⟨fun hr => ?_, fun i hi => ?_⟩
    · have := ready_nil ht hs hr j0 (by omega)
      rw [this] at hun0
      cases hun0
    have hin : i < n := by
      rcases Nat.lt_or_ge i n with hlt | hge
      · exact hlt
      · have hj0f : fl j0 = false := by
          cases hb : fl j0 with
          | false => rfl
          | true =>
            rw [hfl j0 hb] at hun0
            cases hun0
        have := tailQ_spec htl hcl hi hge hj0 hj0f
        rw [this] at hun0
        cases hun0
    obtain ⟨hun, o, ho, hdep⟩ := mem_ready.1 hi
    have hio : i < ops.size := (Array.getElem?_eq_some_iff.1 ho).1
    have hil : i < listed.size := by omega
    obtain ⟨d, hDi, hdst⟩ := dstOf i o hin ho
    have hdD : D.getD i 0 = d := by simp [hDi]
    obtain ⟨hg, hob⟩ := ob.get i o (by simp [hin, ho])
    rw [Nat.zero_add] at hob
    have hdeps : ∀ e ∈ o.after.toList, Region.binds .any e = true → F e.on (a.eval (.tmp (D.getD e.on 0))) w := fun e he hb => h.facts e.on (hdep e (Array.mem_toList_iff.1 he) hb)
    have hDep : ∀ l : List Edge, (∀ e ∈ l, Region.binds .any e = true → F e.on (a.eval (.tmp (D.getD e.on 0))) w) → DepF F D a.eval w l := by
      intro l
      induction l with
      | nil => intro _; trivial
      | cons e l ihl => intro hl; exact ⟨hl e (by simp), ihl fun e' he' => hl e' (by simp [he'])⟩
    have hunl : listed.getD i false = false := by
      have hb : listed[i] = false := by simpa [hil] using hun
      simp [hil, hb]
    have hDq : ∀ l : List Edge, (∀ e ∈ l, Region.binds .any e = true → listed.getD e.on false = true) → DepQ (fun j => listed.getD j false) l := by
      intro l
      induction l with
      | nil => intro _; trivial
      | cons e l ihl => intro hl; exact ⟨hl e (by simp), ihl fun e' he' => hl e' (by simp [he'])⟩
    have hgood := hob a.eval w (fun j => listed.getD j false) (valV D a) hunl (hDq _ fun e he hb => hdep e (Array.mem_toList_iff.1 he) hb) ⟨fun _ => rfl, fun _ => rfl, fun _ => rfl, fun k hk => h.frame k (by simpa using hk)⟩ (hDep _ hdeps) (fun j hj => by
      have hjn : j < n := by
        rcases Nat.lt_or_ge j n with hlt | hge
        · exact hlt
        · exact absurd ((htail j hge).symm.trans hj) (by decide)
      exact (if_pos (show j < D.length by rw [hlen]; exact hjn)).symm) h.s
    have hw : Region.wanted o (yielded ops a.tmps) = true := by
      unfold GuardOk at hg
      unfold Region.wanted
      split
      · rfl
      · rename_i j b hgd
        rw [hgd] at hg
        obtain ⟨hany, hval⟩ := hg
        rw [List.any_eq_true] at hany
        obtain ⟨e, he, hb⟩ := hany
        simp only [Bool.and_eq_true, beq_iff_eq] at hb
        obtain ⟨hb1, rfl⟩ := hb
        have hv := hval _ _ (hdeps e he hb1)
        have hj : e.on < ops.size := Nat.lt_trans (topo_spec ht i o ho e (Array.mem_toList_iff.1 he) hb1) hio
        obtain ⟨d', hD', hd2⟩ := dstOf e.on ops[e.on] (Nat.lt_trans (topo_spec ht i o ho e (Array.mem_toList_iff.1 he) hb1) hin) (by simp [hj])
        obtain ⟨hd', hlt'⟩ : ops[e.on].dst = some d' ∧ d' < a.tmps.size := by
          rcases hd2 with ⟨h1, h2⟩ | ⟨_, h2⟩
          · exact ⟨h1, by rw [h.size]; exact h2⟩
          · have : a.tmps.getD d' undef = .bool b := by simpa [Act.eval, hD'] using hv
            rw [Array.getD_eq_getD_getElem?, Array.getElem?_eq_none (by rw [h.size]; exact h2)] at this
            cases this
        have hval2 : a.tmps[d']? = some (.bool b) := by
          have : a.tmps.getD d' undef = .bool b := by simpa [Act.eval, hD'] using hv
          simpa [hlt'] using this
        simp [yielded, hj, hd', hval2]
    have hcl' : Closed ops (listed.setIfInBounds i true) := by
      intro j oj hj hl e he hb
      by_cases hij : i = j
      · subst hij
        rw [ho] at hj
        injection hj with hj
        subst hj
        exact getD_set_true (hdep e he hb)
      · rw [getD_set_ne false hij] at hl
        exact getD_set_true (hcl j oj hj hl e he hb)
    have hs2 : also (fun j => listed.getD j false) i = fun j => (listed.setIfInBounds i true).getD j false := by
      funext j
      unfold also
      by_cases h : i = j
      · subst h
        simp [hil]
      · rw [getD_set_ne false h, decide_eq_false (fun e => h e.symm), Bool.or_false]
    have step : ∀ v w', (o.dst.isNone = true → v = undef) → F i v w' → R i w w' → (al i = true → Frsh v w w') → S (also (fun j => listed.getD j false) i) (updV (valV D a) i v) w' → wpAny P .any ops Q (fuel + (ops.size - n)) (listed.setIfInBounds i true) (a.put o.dst v) w' := by
      intro v w' hvn hFv hRw hfresh hSw
      rw [hs2] at hSw
      have hsz := hR _ _ _ hRw
      obtain ⟨pa, pb, pc, pd⟩ := put_seen a o.dst d v (by rw [h.size]; exact hdst) hvn
      have hval : valV D (a.put o.dst v) = updV (valV D a) i v := by
        funext j
        show (if j < D.length then (a.put o.dst v).tmps.getD (D.getD j 0) undef else undef) = if j = i then v else if j < D.length then a.tmps.getD (D.getD j 0) undef else undef
        by_cases hji : j = i
        · subst hji
          rw [if_pos (by omega), if_pos rfl, hdD]
          exact pc
        · rw [if_neg hji]
          by_cases hjn : j < D.length
          · rw [if_pos hjn, if_pos hjn]
            have hDj : D[j]? = some (D.getD j 0) := by simp [hjn]
            refine pd _ fun he => hji ?_
            have h1 : D[i]? = D[j]? := by rw [hDi, hDj, he]
            exact ((List.getElem?_inj (by omega) hn).1 h1).symm
          · rw [if_neg hjn, if_neg hjn]
      rw [← hval] at hSw
      clear hval
      generalize a.put o.dst v = a2 at *
      have vi : a2.tmps.getD (D.getD i 0) undef = v := by
        rw [hdD]
        exact pc
      have vj : ∀ j, j ≠ i → (listed.setIfInBounds i true).getD j false = true → listed.getD j false = true ∧ a2.tmps.getD (D.getD j 0) undef = a.tmps.getD (D.getD j 0) undef := by
        intro j hji hj
        rw [getD_set_ne false (Ne.symm hji)] at hj
        have hjn : j < n := by
          rcases Nat.lt_or_ge j n with hlt | hge
          · exact hlt
          · rw [htail j hge] at hj
            cases hj
        have hDj : D[j]? = some (D.getD j 0) := by simp [hlen, hjn]
        have hne : d ≠ D.getD j 0 := by
          intro he
          have h1 : D[i]? = D[j]? := by rw [hDi, hDj, he]
          exact hji ((List.getElem?_inj (by omega) hn).1 h1).symm
        exact ⟨hj, pd _ hne⟩
      refine ih _ _ _ (by simpa using hs) hcl' (fun j hj => getD_set_true (hfl j hj)) (fun j hj => by rw [getD_set_ne false (by omega)]; exact htail j hj) ?_ ⟨hSw, pa.trans h.size, pb.trans h.defers, ?_, ?_, ?_, ?_⟩
      · have hb : listed[i] = false := by simpa [hil] using hun
        rw [Array.toList_setIfInBounds, List.take_set, List.count_set (by simp; omega)]
        simp [hb, hc]
      · intro k hk
        have hkd : d ≠ k := by
          rintro rfl
          exact hk (List.mem_of_getElem? hDi)
        exact (pd k hkd).trans (h.frame k hk)
      · intro j hj
        by_cases hji : j = i
        · subst hji
          rw [vi]
          exact hFv
        · obtain ⟨h1, h2⟩ := vj j hji hj
          rw [h2]
          exact hF i j _ _ _ hji (h.facts j h1) hRw
      · intro j hj ha
        by_cases hji : j = i
        · subst hji
          rw [vi]
          exact fun g hg => (hfresh ha g hg).2
        · obtain ⟨h1, h2⟩ := vj j hji hj
          rw [h2]
          exact fun g hg => Nat.lt_of_lt_of_le (h.own j h1 ha g hg) hsz
      · intro j k hjk hj hk haj hak
        by_cases hji : j = i
        · subst hji
          obtain ⟨h1, h2⟩ := vj k (Ne.symm hjk) hk
          rw [vi, h2]
          intro g h3 h4
          have q1 := h.own k h1 hak g h4
          have q2 := (hfresh haj g h3).1
          omega
        · obtain ⟨h1, h2⟩ := vj j hji hj
          rw [h2]
          by_cases hki : k = i
          · subst hki
            rw [vi]
            intro g h3 h4
            have q1 := h.own j h1 haj g h3
            have q2 := (hfresh hak g h4).1
            omega
          · obtain ⟨h5, h6⟩ := vj k hki hk
            rw [h6]
            exact h.dist j k hjk h1 h5 haj hak
    unfold wpOp
    rw [ho]
    simp only [hw, if_true]
    refine .inl ?_
    unfold Oper.wp
    generalize hr : (execOp a.eval o).run P w = r at *
    unfold GoodV at hgood
    split at hgood
    · exact step _ _ hgood.1 hgood.2.1 hgood.2.2.1 hgood.2.2.2.1 hgood.2.2.2.2
    · exact step _ _ (fun _ => rfl) hgood.1 hgood.2.1 hgood.2.2.1 hgood.2.2.2
    · refine Calls.mono hgood ?_
      rintro e w'' ⟨v, rfl, h0, h1, h2, h3, h4⟩
      exact step _ _ h0 h1 h2 h3 h4
    · exact hgood.elim
theorem region_facts_val {id : Nat} {w : World} (n : Nat) (al : Nat → Bool) (F : Nat → Value → World → Prop) (S : (Nat → Bool) → (Nat → Value) → World → Prop) (R : Nat → World → World → Prop) (D : List Nat) (hm : P.follows .mixedOrders = true) (hnn : decide (n ≤ ops.size) = true)
    (hD : dstB ops n D fr.size = true) (hn : D.Nodup) (ht : (topoB ops && tailQ ops n (fun _ => false) && Region.seqB .any ops (ops.size - n) n (headL n (ops.size - n))) = true)
    (hF : ∀ i j v w w', j ≠ i → F j v w → R i w w' → F j v w') (hR : ∀ i w w', R i w w' → w.heap.size ≤ w'.heap.size) (h0 : ∀ vs, S (fun _ => false) vs w.drew) (ob : ∀ f, f = fr → AllObV P F S R al D f 0 (ops.toList.take n))
    (fin : ∀ (vs : Nat → Value) w, S (fun j => decide (j < n)) (fun j => if j < D.length then vs j else undef) w → (∀ j, j < n → F j (vs j) w) → (∀ j k, j ≠ k → j < n → k < n → al j = true → al k = true → ∀ g, blkOf (vs j) = some g → blkOf (vs k) = some g → False) → wpList P ops Q (ops.toList.drop n) ⟨setAll fr 0 D vs, df⟩ w) : (Code.region id ops true).wp P Q ⟨fr, df⟩ w := by
  have hnn' : n ≤ ops.size := of_decide_eq_true hnn
  simp only [Bool.and_eq_true] at ht
  obtain ⟨⟨ht, htl⟩, hsq⟩ := ht
  have hgo := facts_anyV (P := P) (Q := Q) (fr := fr) (df := df) hnn' hD hn ht htl hsq hF hR (ob fr rfl) ?_ n (Array.replicate ops.size false) ⟨fr, df⟩ w.drew (by simp) (fun j o hj hl => by by_cases hj' : j < ops.size <;> simp [hj'] at hl) (fun j hj => by cases hj) (fun j _ => by by_cases hj : j < ops.size <;> simp [hj]) (by simp [List.take_replicate]; omega) ⟨by rw [show (fun j => (Array.replicate ops.size false).getD j false) = fun _ => false from funext fun j => (by by_cases hj : j < ops.size <;> simp [hj])]; exact h0 _, rfl, rfl, fun _ _ => rfl, ?_, ?_, ?_⟩
  · rw [show n + (ops.size - n) = ops.size by omega] at hgo
    exact wp_region_any hm hgo
  · intro a w' h
    have hlen : D.length = n := (dstB_spec hD).1
    have := fin (fun j => a.tmps.getD (D.getD j 0) undef) w' (by have := h.s; rwa [show (fun j => (Array.replicate n true).getD j false) = fun j => decide (j < n) from funext fun j => (by by_cases hj : j < n <;> simp [hj])] at this) (fun j hj => h.facts j (by simp [hj])) (fun j k hjk hj hk => h.dist j k hjk (by simp [hj]) (by simp [hk]))
    have e : a = ⟨setAll fr 0 D (fun j => a.tmps.getD (D.getD j 0) undef), df⟩ := by
      obtain ⟨tm, dd⟩ := a
      have h1 := h.size
      have h2 := h.defers
      have h3 := h.frame
      simp only at h1 h2 h3
      subst h2
      congr 1
      refine Array.ext (by rw [setAll_size, h1]) ?_
      intro k hk1 hk2
      have g : tm.getD k undef = (setAll fr 0 D (fun j => tm.getD (D.getD j 0) undef)).getD k undef := by
        by_cases hkD : k ∈ D
        · obtain ⟨j, hj, rfl⟩ := List.mem_iff_getElem.1 hkD
          rw [setAll_in D fr 0 _ j D[j] hn (by simp [hj]) (by omega)]
          simp [hj]
        · rw [setAll_out D fr 0 _ k hkD, h3 k hkD]
      rw [Array.getD_eq_getD_getElem?, Array.getD_eq_getD_getElem?, Array.getElem?_eq_getElem hk1, Array.getElem?_eq_getElem hk2] at g
      exact g
    rw [e]
    exact this
  · intro j hj
    by_cases hj' : j < ops.size <;> simp [hj'] at hj
  · intro j hj
    by_cases hj' : j < ops.size <;> simp [hj'] at hj
  · intro j k _ hj
    by_cases hj' : j < ops.size <;> simp [hj'] at hj
end
end Go.Proofs.YtckkfbepclogcaaGreatDoor
