/- Part 23: the texts FactsD, laid end to end by a program. -/
import Derived.OrdersIn
import Derived.Test.YtckkfbepclogcaaGreatDoorPk1
namespace Go.Proofs.YtckkfbepclogcaaGreatDoor
open Go.RowKit
section
variable {P : Program} {ops : Array Oper} {Q : Exit → Act → World → Prop} {F : Nat → Value → World → Prop} {S : (Nat → Bool) → World → Prop} {R : Nat → World → World → Prop} {al : Nat → Bool} {D : List Nat} {fr : Array Value} {df : List Deferred}
def tailD (ops : Array Oper) (n : Nat) (fl : Nat → Bool) : Bool := (List.range ops.size).all fun t => decide (t < n) || (List.range n).all fun i => fl i || reachB ops ops.size 12 t i
theorem tailD_spec {n : Nat} {fl : Nat → Bool} (h : tailD ops n fl = true) {listed : Array Bool} (hc : Closed ops listed) {t i : Nat} (ht : t ∈ Region.ready .any ops listed) (hn : n ≤ t) (hi : i < n) (hfl : fl i = false) : listed.getD i false = true := by
  obtain ⟨_, o, ho, hdep⟩ := mem_ready.1 ht
  have hts : t < ops.size := (Array.getElem?_eq_some_iff.1 ho).1
  have one : ∀ k, Region.waitsFor .any ops t k = true → listed.getD k false = true := by
    intro k hk
    obtain ⟨oj, hoj, e, he, hb, rfl⟩ := Region.waitsFor_spec hk
    rw [ho] at hoj
    injection hoj with hoj
    subst hoj
    exact hdep e he hb
  unfold tailD at h
  rw [List.all_eq_true] at h
  have h1 := h t (List.mem_range.2 hts)
  rw [Bool.or_eq_true, decide_eq_true_iff] at h1
  rcases h1 with h1 | h1
  · omega
  · rw [List.all_eq_true] at h1
    have h2 := h1 i (List.mem_range.2 hi)
    rw [hfl, Bool.false_or] at h2
    unfold reachB at h2
    rw [Bool.or_eq_true] at h2
    rcases h2 with h2 | h2
    · exact one i h2
    · rw [List.any_eq_true] at h2
      obtain ⟨k, _, hk⟩ := h2
      rw [Bool.and_eq_true] at hk
      exact hc.reach _ k i (one k hk.1) hk.2
theorem facts_anyD {n : Nat} {fl : Nat → Bool} (hnn : n ≤ ops.size) (hD : (ops.toList.take n).map (·.dst) = D.map some) (hn : D.Nodup) (hlt : ∀ d ∈ D, d < fr.size) (ht : topoB ops = true) (htl : tailD ops n fl = true) (hsq : Region.seqB .any ops (ops.size - n) n (headL n (ops.size - n)) = true)
    (hF : ∀ i j v w w', j ≠ i → F j v w → R i w w' → F j v w') (hR : ∀ i w w', R i w w' → w.heap.size ≤ w'.heap.size) (ob : AllObQ P F S R al D fr 0 (ops.toList.take n))
    (fin : ∀ a w, HeldQ F S al D fr df (Array.replicate n true) a w → wpList P ops Q (ops.toList.drop n) a w) :
    ∀ (fuel : Nat) (listed : Array Bool) (a : Act) (w : World), listed.size = ops.size → Closed ops listed → (∀ j, fl j = true → listed.getD j false = true) → (∀ j, n ≤ j → listed.getD j false = false) → (listed.toList.take n).count false = fuel → HeldQ F S al D fr df listed a w → wpAny P .any ops Q (fuel + (ops.size - n)) listed a w := by
  have hlen : D.length = n := by
    have := congrArg List.length hD
    rw [List.length_map, List.length_map, List.length_take] at this
    simp at this
    omega
  have dstOf : ∀ (i : Nat) (o : Oper), i < n → ops[i]? = some o → ∃ d, o.dst = some d ∧ D[i]? = some d := by
    intro i o hi ho
    have h1 : ((ops.toList.take n).map (·.dst))[i]? = some o.dst := by simp [ho, hi]
    rw [hD] at h1
    simp only [List.getElem?_map, Option.map_eq_some_iff] at h1
    obtain ⟨d, h2, h3⟩ := h1
    exact ⟨d, h3.symm, h2⟩
  intro fuel
  induction fuel with
  | zero =>
    intro listed a w hs hcl hfl htail hc h
    have hall : ∀ j, j < n → listed.getD j false = true := by
      intro j hj
      have hj' : j < listed.size := by omega
      have hm : listed[j] ∈ listed.toList.take n := by
        rw [List.mem_iff_getElem?]
        exact ⟨j, by rw [List.getElem?_take, if_pos hj]; simp [hj']⟩
      cases hb : listed[j] with
      | true => simp [hj', hb]
      | false =>
        rw [hb] at hm
        exact absurd hm (List.count_eq_zero.1 hc)
    have hlist : listed = headL n (ops.size - n) := by
      refine Array.ext (by simp [headL]; omega) ?_
      intro j h1 h2
      by_cases hj : j < n
      · have := hall j hj
        have e2 : (headL n (ops.size - n))[j] = true := by simp [headL, hj]
        rw [e2]
        simpa [h1] using this
      · have := htail j (by omega)
        have e2 : (headL n (ops.size - n))[j] = false := by simp [headL, List.getElem_append, hj]
        rw [e2]
        simpa [h1] using this
    rw [Nat.zero_add]
    have hl : (ops.toList.drop n).length = ops.size - n := by simp
    rw [← hl]
    have hup : ∀ j, (Array.replicate n true).getD j false = true → listed.getD j false = true := by
      intro j hj
      by_cases hj' : j < n
      · exact hall j hj'
      · simp [hj'] at hj
    have hlistQ : (fun j => (Array.replicate n true).getD j false) = fun j => listed.getD j false := by
      funext j
      by_cases hj : j < n
      · rw [hall j hj]
        simp [hj]
      · rw [htail j (by omega)]
        simp [hj]
    refine wpAny_of_seq (ops.toList.drop n) n listed a w (fun j => by simp [List.getElem?_drop]) ?_ (fin a w ⟨by rw [hlistQ]; exact h.s, h.size, h.defers, h.frame, fun j hj => h.facts j (hup j hj), fun j hj => h.own j (hup j hj), fun j k hjk hj hk => h.dist j k hjk (hup j hj) (hup k hk)⟩)
    rw [hl, hlist]
    exact hsq
  | succ fuel ih =>
    intro listed a w hs hcl hfl htail hc h
    obtain ⟨j0, hj0, hun0⟩ : ∃ j, j < n ∧ listed.getD j false = false := by
      have : false ∈ listed.toList.take n := by
        rw [← List.count_pos_iff, hc]
        omega
      obtain ⟨j, hj⟩ := List.mem_iff_getElem?.1 this
      rw [List.getElem?_take] at hj
      split at hj
      · rename_i hjn
        refine ⟨j, hjn, ?_⟩
        rw [Array.getElem?_toList] at hj
        simp [hj]
      · cases hj
    rw [show fuel + 1 + (ops.size - n) = (fuel + (ops.size - n)) + 1 by omega]
    refine ⟨fun hr => ?_, fun i hi => ?_⟩
    · have := ready_nil ht hs hr j0 (by omega)
      rw [this] at hun0
      cases hun0
    have hin : i < n := by
      rcases Nat.lt_or_ge i n with hlt | hge
      · exact hlt
      · have hj0f : fl j0 = false := by
          cases hb : fl j0 with
          | false => rfl
          | true =>
            rw [hfl j0 hb] at hun0
            cases hun0
        have := tailD_spec htl hcl hi hge hj0 hj0f
        rw [this] at hun0
        cases hun0
    obtain ⟨hun, o, ho, hdep⟩ := mem_ready.1 hi
    have hio : i < ops.size := (Array.getElem?_eq_some_iff.1 ho).1
    have hil : i < listed.size := by omega
    obtain ⟨d, hd, hDi⟩ := dstOf i o hin ho
    have hdD : D.getD i 0 = d := by simp [hDi]
    have hdlt : d < fr.size := hlt d (List.mem_of_getElem? hDi)
    obtain ⟨hg, hob⟩ := ob.get i o (by simp [hin, ho])
    rw [Nat.zero_add] at hob
    have hdeps : ∀ e ∈ o.after.toList, Region.binds .any e = true → F e.on (a.eval (.tmp (D.getD e.on 0))) w := fun e he hb => h.facts e.on (hdep e (Array.mem_toList_iff.1 he) hb)
    have hDep : ∀ l : List Edge, (∀ e ∈ l, Region.binds .any e = true → F e.on (a.eval (.tmp (D.getD e.on 0))) w) → DepF F D a.eval w l := by
      intro l
      induction l with
      | nil => intro _; trivial
      | cons e l ihl => intro hl; exact ⟨hl e (by simp), ihl fun e' he' => hl e' (by simp [he'])⟩
    have hunl : listed.getD i false = false := by
      have hb : listed[i] = false := by simpa [hil] using hun
      simp [hil, hb]
    have hDq : ∀ l : List Edge, (∀ e ∈ l, Region.binds .any e = true → listed.getD e.on false = true) → DepQ (fun j => listed.getD j false) l := by
      intro l
      induction l with
      | nil => intro _; trivial
      | cons e l ihl => intro hl; exact ⟨hl e (by simp), ihl fun e' he' => hl e' (by simp [he'])⟩
    have hgood := hob a.eval w (fun j => listed.getD j false) hunl (hDq _ fun e he hb => hdep e (Array.mem_toList_iff.1 he) hb) ⟨fun _ => rfl, fun _ => rfl, fun _ => rfl, fun k hk => h.frame k (by simpa using hk)⟩ (hDep _ hdeps) h.s
    have hw : Region.wanted o (yielded ops a.tmps) = true := by
      unfold GuardOk at hg
      unfold Region.wanted
      split
      · rfl
      · rename_i j b hgd
        rw [hgd] at hg
        obtain ⟨hany, hval⟩ := hg
        rw [List.any_eq_true] at hany
        obtain ⟨e, he, hb⟩ := hany
        simp only [Bool.and_eq_true, beq_iff_eq] at hb
        obtain ⟨hb1, rfl⟩ := hb
        have hv := hval _ _ (hdeps e he hb1)
        have hj : e.on < ops.size := Nat.lt_trans (topo_spec ht i o ho e (Array.mem_toList_iff.1 he) hb1) hio
        obtain ⟨d', hd', hD'⟩ := dstOf e.on ops[e.on] (Nat.lt_trans (topo_spec ht i o ho e (Array.mem_toList_iff.1 he) hb1) hin) (by simp [hj])
        have hlt' : d' < a.tmps.size := by rw [h.size]; exact hlt d' (List.mem_of_getElem? hD')
        have hval2 : a.tmps[d']? = some (.bool b) := by
          have : a.tmps.getD d' undef = .bool b := by simpa [Act.eval, hD'] using hv
          simpa [hlt'] using this
        simp [yielded, hj, hd', hval2]
    have hcl' : Closed ops (listed.setIfInBounds i true) := by
      intro j oj hj hl e he hb
      by_cases hij : i = j
      · subst hij
        rw [ho] at hj
        injection hj with hj
        subst hj
        exact getD_set_true (hdep e he hb)
      · rw [getD_set_ne false hij] at hl
        exact getD_set_true (hcl j oj hj hl e he hb)
    have hs2 : also (fun j => listed.getD j false) i = fun j => (listed.setIfInBounds i true).getD j false := by
      funext j
      unfold also
      by_cases h : i = j
      · subst h
        simp [hil]
      · rw [getD_set_ne false h, decide_eq_false (fun e => h e.symm), Bool.or_false]
    have step : ∀ v w', F i v w' → R i w w' → (al i = true → Frsh v w w') → S (also (fun j => listed.getD j false) i) w' → wpAny P .any ops Q (fuel + (ops.size - n)) (listed.setIfInBounds i true) (a.put o.dst v) w' := by
      intro v w' hFv hRw hfresh hSw
      rw [hs2] at hSw
      rw [hd]
      have hsz := hR _ _ _ hRw
      have vi : (a.put (some d) v).tmps.getD (D.getD i 0) undef = v := by
        rw [hdD]
        simp [Act.put, h.size, hdlt]
      have vj : ∀ j, j ≠ i → (listed.setIfInBounds i true).getD j false = true → listed.getD j false = true ∧ (a.put (some d) v).tmps.getD (D.getD j 0) undef = a.tmps.getD (D.getD j 0) undef := by
        intro j hji hj
        rw [getD_set_ne false (Ne.symm hji)] at hj
        have hjn : j < n := by
          rcases Nat.lt_or_ge j n with hlt | hge
          · exact hlt
          · rw [htail j hge] at hj
            cases hj
        have hDj : D[j]? = some (D.getD j 0) := by simp [hlen, hjn]
        have hne : d ≠ D.getD j 0 := by
          intro he
          have h1 : D[i]? = D[j]? := by rw [hDi, hDj, he]
          exact hji ((List.getElem?_inj (by omega) hn).1 h1).symm
        refine ⟨hj, ?_⟩
        rw [Array.getD_eq_getD_getElem?, Array.getD_eq_getD_getElem?, Act.put, Array.getElem?_setIfInBounds_ne hne]
      refine ih _ _ _ (by simpa using hs) hcl' (fun j hj => getD_set_true (hfl j hj)) (fun j hj => by rw [getD_set_ne false (by omega)]; exact htail j hj) ?_ ⟨hSw, by simpa [Act.put] using h.size, h.defers, ?_, ?_, ?_, ?_⟩
      · have hb : listed[i] = false := by simpa [hil] using hun
        rw [Array.toList_setIfInBounds, List.take_set, List.count_set (by simp; omega)]
        simp [hb, hc]
      · intro k hk
        have hkd : d ≠ k := by
          rintro rfl
          exact hk (List.mem_of_getElem? hDi)
        simpa [Act.put, Array.getElem?_setIfInBounds_ne hkd] using h.frame k hk
      · intro j hj
        by_cases hji : j = i
        · subst hji
          rw [vi]
          exact hFv
        · obtain ⟨h1, h2⟩ := vj j hji hj
          rw [h2]
          exact hF i j _ _ _ hji (h.facts j h1) hRw
      · intro j hj ha
        by_cases hji : j = i
        · subst hji
          rw [vi]
          exact fun g hg => (hfresh ha g hg).2
        · obtain ⟨h1, h2⟩ := vj j hji hj
          rw [h2]
          exact fun g hg => Nat.lt_of_lt_of_le (h.own j h1 ha g hg) hsz
      · intro j k hjk hj hk haj hak
        by_cases hji : j = i
        · subst hji
          obtain ⟨h1, h2⟩ := vj k (Ne.symm hjk) hk
          rw [vi, h2]
          intro g h3 h4
          have q1 := h.own k h1 hak g h4
          have q2 := (hfresh haj g h3).1
          omega
        · obtain ⟨h1, h2⟩ := vj j hji hj
          rw [h2]
          by_cases hki : k = i
          · subst hki
            rw [vi]
            intro g h3 h4
            have q1 := h.own j h1 haj g h3
            have q2 := (hfresh hak g h4).1
            omega
          · obtain ⟨h5, h6⟩ := vj k hki hk
            rw [h6]
            exact h.dist j k hjk h1 h5 haj hak
    unfold wpOp
    rw [ho]
    simp only [hw, if_true]
    refine .inl ?_
    unfold Oper.wp
    generalize hr : (execOp a.eval o).run P w = r at *
    unfold GoodQ at hgood
    split at hgood
    · exact step _ _ hgood.1 hgood.2.1 hgood.2.2.1 hgood.2.2.2
    · exact step _ _ hgood.1 hgood.2.1 hgood.2.2.1 hgood.2.2.2
    · refine Calls.mono hgood ?_
      rintro e w'' ⟨v, rfl, h1, h2, h3, h4⟩
      exact step _ _ h1 h2 h3 h4
    · exact hgood.elim
theorem facts_deep_any {w : World} (n : Nat) (al : Nat → Bool) (F : Nat → Value → World → Prop) (S : (Nat → Bool) → World → Prop) (R : Nat → World → World → Prop) (D : List Nat) (hnn : decide (n ≤ ops.size) = true)
    (hD : (ops.toList.take n).map (·.dst) = D.map some) (hn : D.Nodup) (hlt' : (D.all fun d => decide (d < fr.size)) = true) (ht : (topoB ops && tailD ops n (fun _ => false) && Region.seqB .any ops (ops.size - n) n (headL n (ops.size - n))) = true)
    (hF : ∀ i j v w w', j ≠ i → F j v w → R i w w' → F j v w') (hR : ∀ i w w', R i w w' → w.heap.size ≤ w'.heap.size) (h0 : S (fun _ => false) w.drew) (ob : ∀ f, f = fr → AllObQ P F S R al D f 0 (ops.toList.take n))
    (fin : ∀ (vs : Nat → Value) w, S (fun j => decide (j < n)) w → (∀ j, j < n → F j (vs j) w) → (∀ j k, j ≠ k → j < n → k < n → al j = true → al k = true → ∀ g, blkOf (vs j) = some g → blkOf (vs k) = some g → False) → wpList P ops Q (ops.toList.drop n) ⟨setAll fr 0 D vs, df⟩ w) : wpAny P .any ops Q ops.size (Array.replicate ops.size false) ⟨fr, df⟩ w.drew := by
  have hlt : ∀ d ∈ D, d < fr.size := fun d hd => by simpa using List.all_eq_true.1 hlt' d hd
  have hnn' : n ≤ ops.size := of_decide_eq_true hnn
  simp only [Bool.and_eq_true] at ht
  obtain ⟨⟨ht, htl⟩, hsq⟩ := ht
  have hgo := facts_anyD (P := P) (Q := Q) (fr := fr) (df := df) hnn' hD hn hlt ht htl hsq hF hR (ob fr rfl) ?_ n (Array.replicate ops.size false) ⟨fr, df⟩ w.drew (by simp) (fun j o hj hl => by by_cases hj' : j < ops.size <;> simp [hj'] at hl) (fun j hj => by cases hj) (fun j _ => by by_cases hj : j < ops.size <;> simp [hj]) (by simp [List.take_replicate]; omega) ⟨by rw [show (fun j => (Array.replicate ops.size false).getD j false) = fun _ => false from funext fun j => (by by_cases hj : j < ops.size <;> simp [hj])]; exact h0, rfl, rfl, fun _ _ => rfl, ?_, ?_, ?_⟩
  · rw [show n + (ops.size - n) = ops.size by omega] at hgo
    exact hgo
  · intro a w' h
    have hlen : D.length = n := by
      have := congrArg List.length hD
      rw [List.length_map, List.length_map, List.length_take] at this
      simp at this
      omega
    have := fin (fun j => a.tmps.getD (D.getD j 0) undef) w' (by have := h.s; rwa [show (fun j => (Array.replicate n true).getD j false) = fun j => decide (j < n) from funext fun j => (by by_cases hj : j < n <;> simp [hj])] at this) (fun j hj => h.facts j (by simp [hj])) (fun j k hjk hj hk => h.dist j k hjk (by simp [hj]) (by simp [hk]))
    have e : a = ⟨setAll fr 0 D (fun j => a.tmps.getD (D.getD j 0) undef), df⟩ := by
      obtain ⟨tm, dd⟩ := a
      have h1 := h.size
      have h2 := h.defers
      have h3 := h.frame
      simp only at h1 h2 h3
      subst h2
      congr 1
      refine Array.ext (by rw [setAll_size, h1]) ?_
      intro k hk1 hk2
      have g : tm.getD k undef = (setAll fr 0 D (fun j => tm.getD (D.getD j 0) undef)).getD k undef := by
        by_cases hkD : k ∈ D
        · obtain ⟨j, hj, rfl⟩ := List.mem_iff_getElem.1 hkD
          rw [setAll_in D fr 0 _ j D[j] hn (by simp [hj]) (by omega)]
          simp [hj]
        · rw [setAll_out D fr 0 _ k hkD, h3 k hkD]
      rw [Array.getD_eq_getD_getElem?, Array.getD_eq_getD_getElem?, Array.getElem?_eq_getElem hk1, Array.getElem?_eq_getElem hk2] at g
      exact g
    rw [e]
    exact this
  · intro j hj
    by_cases hj' : j < ops.size <;> simp [hj'] at hj
  · intro j hj
    by_cases hj' : j < ops.size <;> simp [hj'] at hj
  · intro j k _ hj
    by_cases hj' : j < ops.size <;> simp [hj'] at hj
theorem region_facts_deep {id : Nat} {w : World} (n : Nat) (al : Nat → Bool) (F : Nat → Value → World → Prop) (S : (Nat → Bool) → World → Prop) (R : Nat → World → World → Prop) (D : List Nat) (hm : P.follows .mixedOrders = true) (hnn : decide (n ≤ ops.size) = true)
    (hD : (ops.toList.take n).map (·.dst) = D.map some) (hn : D.Nodup) (hlt' : (D.all fun d => decide (d < fr.size)) = true) (ht : (topoB ops && tailD ops n (fun _ => false) && Region.seqB .any ops (ops.size - n) n (headL n (ops.size - n))) = true)
    (hF : ∀ i j v w w', j ≠ i → F j v w → R i w w' → F j v w') (hR : ∀ i w w', R i w w' → w.heap.size ≤ w'.heap.size) (h0 : S (fun _ => false) w.drew) (ob : ∀ f, f = fr → AllObQ P F S R al D f 0 (ops.toList.take n))
    (fin : ∀ (vs : Nat → Value) w, S (fun j => decide (j < n)) w → (∀ j, j < n → F j (vs j) w) → (∀ j k, j ≠ k → j < n → k < n → al j = true → al k = true → ∀ g, blkOf (vs j) = some g → blkOf (vs k) = some g → False) → wpList P ops Q (ops.toList.drop n) ⟨setAll fr 0 D vs, df⟩ w) : (Code.region id ops true).wp P Q ⟨fr, df⟩ w :=
  wp_region_any hm (facts_deep_any n al F S R D hnn hD hn hlt' ht hF hR h0 ob fin)
/-- The same within a round of a loop over a function; no operation puts off. -/
theorem uponIn_of {l n : Nat} {o : Oper} {a : Go.Act} {K : Go.Act → World → Prop} {r : Result Next} (h : o.upon P a K Q r) : o.uponIn (Fence.wide.inRound l) n P a K Q r := by
  have hr : ∀ r args w', Oper.upon P o a K Q (.ok (.row r args) w') → o.uponIn (Fence.wide.inRound l) n P a K Q (.ok (.row r args) w') := by
    intro r args w' h
    refine ⟨fun e => (by cases e), ?_⟩
    intro c cs _
    obtain ⟨v, w2, h1, h2⟩ := (show Rows P r args w' _ from h) c cs
    exact ⟨v, w2, h1, stepsIn_wide.2 h2⟩
  have he : ∀ f args w', Oper.upon P o a K Q (.ok (.enter f args) w') → o.uponIn (Fence.wide.inRound l) n P a K Q (.ok (.enter f args) w') := by
    intro f args w' h
    exact ⟨fun e => (by cases e), callsIn_wide.2 h⟩
  cases r with
  | ok x w' => cases x <;> first | exact h | exact h.elim | exact hr _ _ _ h | exact he _ _ _ h
  | halt x w' => cases x <;> exact h
theorem wpOpIn_of {l n i : Nat} {K : Go.Act → World → Prop} {K' : Go.Act → World → Prop} {a : Go.Act} {w : World} (hnd : ∀ o ∈ ops.toList, ∀ c, o.op ≠ .defer c) (hq : ¬ LetsOut Q) (hk : ∀ a w, K a w → K' a w) (h : wpOp P ops Q i K a w) : wpOpIn (Fence.wide.inRound l) n P ops Q i K' a w := by
  unfold wpOp at h
  unfold wpOpIn
  split at h
  · rename_i ho
    rw [ho]
    exact hk _ _ h
  · rename_i o ho
    rw [ho]
    have hm : o ∈ ops.toList := by
      have := Array.mem_of_getElem? ho
      simpa using this
    simp only
    split at h
    · rename_i hw
      rw [if_pos hw]
      rcases h with h | h
      · refine Oper.wpIn_mono hk ⟨fun f _ => trivial, ?_⟩
        rw [show (Fence.wide.inRound l).round = some l from rfl, Oper.semAt_some l _ o (hnd o hm)]
        exact uponIn_of h
      · exact absurd h.2 hq
    · rename_i hw
      rw [if_neg hw]
      exact ⟨fun _ _ => trivial, hk _ _ h⟩
theorem wpAnyIn_of {l n : Nat} {md : Region.Mode} (hnd : ∀ o ∈ ops.toList, ∀ c, o.op ≠ .defer c) (hq : ¬ LetsOut Q) : ∀ (fuel : Nat) (listed : Array Bool) (a : Go.Act) (w : World), wpAny P md ops Q fuel listed a w → wpAnyIn (Fence.wide.inRound l) n P md ops Q fuel listed a w
  | 0, _, _, _, h => h
  | fuel + 1, _, _, _, h => ⟨h.1, fun i hi => wpOpIn_of hnd hq (fun a w => wpAnyIn_of hnd hq fuel _ a w) (h.2 i hi)⟩
theorem round_facts_deep {K : Go.Act → World → Prop} {l m : Nat} {id : Nat} {w : World} (n : Nat) (al : Nat → Bool) (F : Nat → Value → World → Prop) (S : (Nat → Bool) → World → Prop) (R : Nat → World → World → Prop) (D : List Nat) (hnd : ops.toList.all (fun o => match o.op with | .defer _ => false | _ => true) = true) (hm : P.follows .mixedOrders = true) (hnn : decide (n ≤ ops.size) = true)
    (hD : (ops.toList.take n).map (·.dst) = D.map some) (hn : D.Nodup) (hlt' : (D.all fun d => decide (d < fr.size)) = true) (ht : (topoB ops && tailD ops n (fun _ => false) && Region.seqB .any ops (ops.size - n) n (headL n (ops.size - n))) = true)
    (hF : ∀ i j v w w', j ≠ i → F j v w → R i w w' → F j v w') (hR : ∀ i w w', R i w w' → w.heap.size ≤ w'.heap.size) (h0 : S (fun _ => false) w.drew) (ob : ∀ f, f = fr → AllObQ P F S R al D f 0 (ops.toList.take n))
    (fin : ∀ (vs : Nat → Value) w, S (fun j => decide (j < n)) w → (∀ j, j < n → F j (vs j) w) → (∀ j k, j ≠ k → j < n → k < n → al j = true → al k = true → ∀ g, blkOf (vs j) = some g → blkOf (vs k) = some g → False) → wpList P ops (Exit.then K (fun _ _ _ => False)) (ops.toList.drop n) ⟨setAll fr 0 D vs, df⟩ w) : (Code.region id ops true).wpIn (Fence.wide.inRound l) m P (Exit.then K (fun _ _ _ => False)) ⟨fr, df⟩ w :=
  wpIn_region_any hm (wpAnyIn_of (fun o ho c e => by
    have := List.all_eq_true.1 hnd o ho
    rw [e] at this
    cases this) (fun h => by
    obtain ⟨_, _, h⟩ := h
    exact h) _ _ _ _ (facts_deep_any n al F S R D hnn hD hn hlt' ht hF hR h0 ob fin))
end
end Go.Proofs.YtckkfbepclogcaaGreatDoor
