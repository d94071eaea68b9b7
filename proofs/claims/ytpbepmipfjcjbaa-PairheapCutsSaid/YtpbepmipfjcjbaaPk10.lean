/- Part 10: the texts PhA, laid end to end by a program. -/
import Derived.Laws.AppendOwnNone
import Derived.Test.YtpbepmipfjcjbaaPk9
import Derived.Test.YtpbepmipfjcjbaaPk1
namespace Go.Proofs.Ytpbepmipfjcjbaa
open Go.RowKit
/-- A list of ways to nodes lies at v, in a block from lo on and ahead of hi. -/
def PL (nd : Nat → Nat) (w : World) (lo hi : Nat) (v : Value) (l : List Nat) : Prop :=
  ∃ A c, v = .slice A l.length c ∧ l.length ≤ c ∧ c ≤ maxLen ∧ (A = none → c = 0) ∧ (∀ g, A.map (·.block) = some g → lo ≤ g ∧ g < hi) ∧ ∀ k (h : k < l.length), ∃ b o, A = some ⟨b, o, none⟩ ∧ w.cell? ⟨b, o + k, none⟩ = some (.pointer (some ⟨nd l[k], 0, none⟩))
theorem PL.keep {nd : Nat → Nat} {w w' : World} {lo hi : Nat} {v : Value} {l : List Nat} (h : PL nd w lo hi v l) (hk : ∀ g, lo ≤ g → g < hi → w'.heap[g]? = w.heap[g]?) : PL nd w' lo hi v l := by
  obtain ⟨A, c, rfl, h1, h2, h3, h4, h5⟩ := h
  refine ⟨A, c, rfl, h1, h2, h3, h4, fun k hlt => ?_⟩
  obtain ⟨b, o, rfl, hc⟩ := h5 k hlt
  obtain ⟨g1, g2⟩ := h4 b rfl
  exact ⟨b, o, rfl, (World.cell?_of_block (hk b g1 g2)).trans hc⟩
theorem PL.chg {nd : Nat → Nat} {w w' : World} {lo hi : Nat} {v : Value} {l : List Nat} (h : PL nd w lo hi v l) {T : Nat → Prop} (k : Chg T w w') (hT : ∀ g, lo ≤ g → g < hi → ¬ T g) (hhi : hi ≤ w.heap.size) : PL nd w' lo hi v l :=
  h.keep fun g h1 h2 => k.block g (by omega) (hT g h1 h2)
theorem OwnP.pl {nd : Nat → Nat} {w : World} {base hi : Nat} {v : Value} {l : List Nat} (h : OwnP nd w base v l) (hhi : w.heap.size ≤ hi) : PL nd w base hi v l := by
  have hz : ∀ A c, v = .slice A l.length c → A = none → c = 0 := by
    rintro A c e rfl
    rcases h.2 with ⟨rfl, _⟩ | ⟨g, cap, cur, rfl, _⟩
    · injection e with _ _ e
      exact e.symm
    · injection e with e
      cases e
  obtain ⟨A, cap, e, h1, h2, h3, h4⟩ := h.at
  refine ⟨A, cap, e, h2, h3, hz A cap e, fun g hg => ⟨(h4 g hg).1, Nat.lt_of_lt_of_le (h4 g hg).2 hhi⟩, fun k hk => ?_⟩
  obtain ⟨b, o, rfl, _, hc⟩ := h1 k hk
  exact ⟨b, o, rfl, hc⟩
theorem PL.cells {nd : Nat → Nat} {w : World} {lo hi : Nat} {a : Addr} {n c : Nat} {l : List Nat} (h : PL nd w lo hi (.slice (some a) n c) l) : ∀ j u, (l.map fun i => Value.pointer (some ⟨nd i, 0, none⟩))[j]? = some u → w.cell? (a.add j) = some u := by
  obtain ⟨A, c', e, h1, h2, h3, h4, h5⟩ := h
  injection e with e1 e2 e3
  intro j u hj
  have hlt : j < l.length := by
    have := (List.getElem?_eq_some_iff.1 hj).1
    simpa using this
  subst e1
  obtain ⟨b, o, e, hc⟩ := h5 j hlt
  injection e with e
  subst e
  rw [show (Addr.add ⟨b, o, none⟩ j : Addr) = ⟨b, o + j, none⟩ from by simp [Addr.add], hc]
  rw [← hj]
  simp [hlt]
theorem run_app_P {nd : Nat → Nat} {w : World} {base lo hi : Nat} {ty : TypeId} {v vx : Value} {m l : List Nat} (hown : OwnP nd w base v m) (hl : PL nd w lo hi vx l) (hlen : m.length + l.length ≤ 1000000) (hbase : base ≤ w.heap.size) :
    ∃ v' w', (Builtin.append_ #[68, 68] ty #[v, vx]).run Try.prog w = .ok v' w' ∧ OwnP nd w' base v' (m ++ l) ∧ w.grownBy w' v.ownBlock := by
  obtain ⟨i0, hi, hz0, hz1, hz2⟩ := info_parts info_pn
  have hl' := hl
  obtain ⟨A, c, rfl, h1, h2, h3, h4, h5⟩ := hl
  cases A with
  | none =>
    have hc0 := h3 rfl
    have hl0 : l = [] := List.eq_nil_of_length_eq_zero (by omega)
    subst hl0 hc0
    exact ⟨v, w, run_append_owned_none (P := Try.prog) (w := w) base 68 ty 69 i0 1 Try.underlying68 hi v m.length _ hown, by simpa using hown, ⟨rfl, rfl, rfl, Nat.le_refl _, fun _ _ _ => rfl⟩⟩
  | some ad =>
    obtain ⟨v', w', g1, g2, g3, _⟩ := run_append_own (P := Try.prog) w base 68 ty 69 i0 (.pointer none) 1 8 Try.underlying68 hi hz0 hz1 hz2 rfl (by decide) v m.length _ hown ad l.length c (l.map fun i => Value.pointer (some ⟨nd i, 0, none⟩)) (by simp) hl'.cells (by simp [Value.oneCell']) (by unfold maxLen; omega) (by omega) hbase
    refine ⟨v', w', g1, ?_, g3⟩
    unfold OwnP
    simpa using g2
theorem wp_app_P {nd : Nat → Nat} {o : Oper} {a : Go.Act} {w : World} {K : Go.Act → World → Prop} {Q : Exit → Go.Act → World → Prop} (s x : Operand)
    (ho : o.op = .call { callee := .builtin .append, args := #[s, x], argTypes := #[68, 68] }) (base lo hi : Nat) (v : Value) (m : List Nat) (hs : a.eval s = v) (hown : OwnP nd w base v m)
    (vx : Value) (l : List Nat) (hx : a.eval x = vx) (hl : PL nd w lo hi vx l) (hlen : m.length + l.length ≤ 1000000) (hbase : base ≤ w.heap.size)
    (h : ∀ v' w', OwnP nd w' base v' (m ++ l) → w.grownBy w' v.ownBlock → K (a.put o.dst v') w') : o.wp Try.prog a w K Q := by
  obtain ⟨v', w', hr, h2, h3⟩ := run_app_P (ty := o.type) hown hl hlen hbase
  unfold Oper.wp execOp
  simp only [ho, resolve, invoke, builtin, Sem.run_bind, Sem.run_pure, Result.andThen_ok, List.map_toArray, List.map_cons, List.map_nil, hs, hx, hr]
  exact h v' w' h2 h3
theorem wpList_app_P {nd : Nat → Nat} {ops : Array Oper} {rest : List Oper} {o : Oper} {a : Go.Act} {w : World} {Q : Exit → Go.Act → World → Prop} (hgd : o.guard = none) (s x : Operand)
    (ho : o.op = .call { callee := .builtin .append, args := #[s, x], argTypes := #[68, 68] }) (base lo hi : Nat) (v : Value) (m : List Nat) (hs : a.eval s = v) (hown : OwnP nd w base v m)
    (vx : Value) (l : List Nat) (hx : a.eval x = vx) (hl : PL nd w lo hi vx l) (hlen : m.length + l.length ≤ 1000000) (hbase : base ≤ w.heap.size)
    (h : ∀ v' w', OwnP nd w' base v' (m ++ l) → w.grownBy w' v.ownBlock → wpList Try.prog ops Q rest (a.put o.dst v') w') : wpList Try.prog ops Q (o :: rest) a w :=
  wpList_plain hgd fun _ hK => wp_app_P s x ho base lo hi v m hs hown vx l hx hl hlen hbase fun v' w' h2 h3 => hK _ _ (h v' w' h2 h3)
theorem good_app_P {nd : Nat → Nat} {F : Nat → Value → World → Prop} {S : (Nat → Bool) → World → Prop} {R : Nat → World → World → Prop} {al : Nat → Bool} {p : Nat → Bool} {dn : Bool} {i : Nat} {ρ : Operand → Value} {o : Oper} {w : World} (s x : Operand)
    (ho : o.op = .call { callee := .builtin .append, args := #[s, x], argTypes := #[68, 68] }) (base lo hi : Nat) (v : Value) (m : List Nat) (hs : ρ s = v) (hown : OwnP nd w base v m)
    (vx : Value) (l : List Nat) (hx : ρ x = vx) (hl : PL nd w lo hi vx l) (hlen : m.length + l.length ≤ 1000000) (hbase : base ≤ w.heap.size)
    (h : ∀ v' w', OwnP nd w' base v' (m ++ l) → w.grownBy w' v.ownBlock → GoodR Try.prog F S R al p dn i w (.ok (.value v') w')) : GoodR Try.prog F S R al p dn i w ((execOp ρ o).run Try.prog w) := by
  obtain ⟨v', w', hr, h2, h3⟩ := run_app_P (ty := o.type) hown hl hlen hbase
  unfold execOp
  simp only [ho, resolve, invoke, builtin, Sem.run_bind, Sem.run_pure, Result.andThen_ok, List.map_toArray, List.map_cons, List.map_nil, hs, hx, hr]
  exact h v' w' h2 h3
theorem rootL_in {L : List (Nat × BT)} {i : Nat} (h : rootL L = some i) : ∃ p ∈ L, p.1 = i := by
  cases L with
  | nil => cases h
  | cons p L =>
    have e : p.1 = i := by simpa [rootL] using h
    exact ⟨p, by simp, e⟩
/-- meld, of two that stand first in the trees. -/
theorem ph_meld_roots {V : Nat → Prop} {nd : Nat → Nat} {tm : Nat → Timer} {f : Lk} {w : World} (h : NM w V nd tm f) {A B R : List (Nat × BT)} (hF : Forest f tm (A ++ B ++ R)) (hV : ∀ i ∈ fids (A ++ B ++ R), V i) :
    Calls Try.prog 36 #[ptrN nd (rootL A), ptrN nd (rootL B)] w fun e w' => e = .returned (ptrN nd (meldO tm f (rootL A) (rootL B)).2) ∧ MO V nd tm (meldO tm f (rootL A) (rootL B)).1 w w' := by
  have inn : ∀ i, (rootL A = some i ∨ rootL B = some i) → ∃ p ∈ A ++ B ++ R, p.1 = i := fun i e => by
    rcases e with e | e <;> obtain ⟨p, hp, rfl⟩ := rootL_in e <;> exact ⟨p, by simp [hp], rfl⟩
  have top : ∀ p ∈ A ++ B ++ R, p.1 ∈ fids (A ++ B ++ R) := fun p hp => List.mem_flatMap.2 ⟨p, hp, by simp⟩
  refine ph_meld V nd tm f w h (rootL A) (rootL B) (fun i e => ?_) (fun i e => ?_) (fun i e c hc => ?_) (fun i e e2 => ?_) (fun i e c hc => ?_)
  · obtain ⟨p, hp, rfl⟩ := inn i (.inl e)
    exact hV _ (top p hp)
  · obtain ⟨p, hp, rfl⟩ := inn i (.inr e)
    exact hV _ (top p hp)
  · obtain ⟨p, hp, rfl⟩ := inn i e
    exact hV _ (hF.kid hp hc).1
  · obtain ⟨p, hp, rfl⟩ := rootL_in e
    obtain ⟨q, hq, e3⟩ := rootL_in e2
    have hn := hF.nd
    rw [fids_append, fids_append, List.nodup_append] at hn
    have h2 := (List.nodup_append.1 hn.1).2.2 p.1 (List.mem_flatMap.2 ⟨p, hp, by simp⟩) p.1 (List.mem_flatMap.2 ⟨q, hq, by simp [e3]⟩)
    exact h2 rfl
  · obtain ⟨p, hp, rfl⟩ := inn i e
    obtain ⟨_, h2, h3⟩ := hF.kid hp hc
    refine ⟨h2, fun j hj => ?_⟩
    obtain ⟨q, hq, rfl⟩ := inn j hj
    exact h3 q hq
end Go.Proofs.Ytpbepmipfjcjbaa
