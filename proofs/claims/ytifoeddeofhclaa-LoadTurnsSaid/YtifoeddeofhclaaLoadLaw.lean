/- Layer 14 (load), the plain law: after whatever notes, a load's state is what the document says of the good ones among them. -/
import Derived.Test.YtifoeddeofhclaaLoadNote
import Derived.Test.YtifoeddeofhclaaLoadCut
namespace Go.Proofs.Ytifoeddeofhclaa
open Go.RowKit
theorem snoc_ind {α : Type} {P : List α → Prop} (h0 : P []) (h1 : ∀ l x, P l → P (l ++ [x])) : ∀ l, P l := by
  have H : ∀ n (l : List α), l.length = n → P l := by
    intro n
    induction n with
    | zero => intro l hl; rw [List.eq_nil_of_length_eq_zero hl]; exact h0
    | succ n ih =>
      intro l hl
      have hne : l ≠ [] := by intro e; subst e; cases hl
      rw [← List.dropLast_concat_getLast hne]
      exact h1 _ _ (ih _ (by simp [hl]))
  exact fun l => H _ l rfl
def LS.after (l : List Note) : LS := l.foldl LS.step .zero
theorem after_snoc (l : List Note) (x : Note) : LS.after (l ++ [x]) = (LS.after l).step x := by
  unfold LS.after; rw [List.foldl_append]; rfl
theorem after_ok (l : List Note) : (LS.after l).Ok (1024 * l.length) := by
  induction l using snoc_ind with
  | h0 => constructor <;> simp [LS.after, LS.zero]
  | h1 l x ih =>
    rw [after_snoc]
    have := ih.step x
    simp only [List.length_append, List.length_singleton]
    exact this.mono (by omega)
/-- The state S is what the document says of the good notes g. -/
structure Inv (S : LS) (g : List Note) : Prop where
  o0 : S.o0 = total (g.drop (g.length / 32 * 32)) 0
  o1 : S.o1 = total (g.drop (g.length / 32 * 32)) 1
  o2 : S.o2 = total (g.drop (g.length / 32 * 32)) 2
  o3 : S.o3 = total (g.drop (g.length / 32 * 32)) 3
  t0 : S.t0 = total g 0
  t1 : S.t1 = total g 1
  t2 : S.t2 = total g 2
  t3 : S.t3 = total g 3
  most : S.most = mostOf (g.drop (g.length / 32 * 32))
  notes : S.notes = (g.length % 32 : Nat)
  windows : S.windows = (g.length / 32 : Nat)
  l0 : S.l0 = ltot g 0
  l1 : S.l1 = ltot g 1
  l2 : S.l2 = ltot g 2
  l3 : S.l3 = ltot g 3
  l4 : S.l4 = lmost g
theorem inv_step {S : LS} {g : List Note} (h : Inv S g) (x : Note) (hx : x.wrong = 0) : Inv (S.step x) (g ++ [x]) := by
  obtain ⟨a0, a1, a2, a3, b0, b1, b2, b3, m, n, wd, l0, l1, l2, l3, l4⟩ := h
  have hl : (g ++ [x]).length = g.length + 1 := by simp
  have hm : ∀ (l : List Note) (k : Int), (if x.what = k then total l k + x.n else total l k) = total (l ++ [x]) k := by
    intro l k; rw [total_snoc]; split <;> omega
  unfold LS.step
  rw [if_pos hx]
  by_cases hc : g.length % 32 = 31
  · have hd : (g ++ [x]).drop ((g ++ [x]).length / 32 * 32) = [] := List.drop_eq_nil_of_le (by omega)
    have hn : (g ++ [x]).length / 32 = g.length / 32 + 1 := by omega
    have hlo : lastOf (g ++ [x]) = g.drop (g.length / 32 * 32) ++ [x] := by
      unfold lastOf
      have e : (g ++ [x]).length / 32 * 32 - 32 = g.length / 32 * 32 := by omega
      rw [e, List.drop_append_of_le_length (by omega), List.take_of_length_le]
      simp
      omega
    rw [if_pos (by omega)]
    constructor
    · rw [hd]; rfl
    · rw [hd]; rfl
    · rw [hd]; rfl
    · rw [hd]; rfl
    · rw [← hm]; simp only [LS.close, LS.add, b0]
    · rw [← hm]; simp only [LS.close, LS.add, b1]
    · rw [← hm]; simp only [LS.close, LS.add, b2]
    · rw [← hm]; simp only [LS.close, LS.add, b3]
    · rw [hd]; rfl
    · rw [hl]; simp only [LS.close]; omega
    · simp only [LS.close, LS.add, wd]; omega
    · unfold ltot; rw [if_neg (by omega), hlo, ← hm]; simp only [LS.close, LS.add, a0]
    · unfold ltot; rw [if_neg (by omega), hlo, ← hm]; simp only [LS.close, LS.add, a1]
    · unfold ltot; rw [if_neg (by omega), hlo, ← hm]; simp only [LS.close, LS.add, a2]
    · unfold ltot; rw [if_neg (by omega), hlo, ← hm]; simp only [LS.close, LS.add, a3]
    · unfold lmost; rw [if_neg (by omega), hlo, mostOf_snoc]; simp only [LS.close, LS.add, m]
  · have hn : (g ++ [x]).length / 32 = g.length / 32 := by omega
    have hd : (g ++ [x]).drop ((g ++ [x]).length / 32 * 32) = g.drop (g.length / 32 * 32) ++ [x] := by
      rw [hn, List.drop_append_of_le_length (by omega)]
    have hlo : 32 ≤ g.length → lastOf (g ++ [x]) = lastOf g := by
      intro hg
      unfold lastOf
      rw [hn, List.drop_append_of_le_length (by omega), List.take_append_of_le_length]
      simp
      omega
    have hk : ∀ k, ltot (g ++ [x]) k = ltot g k := by
      intro k; unfold ltot
      by_cases hg : g.length < 32
      · rw [if_pos hg, if_pos (by omega)]
      · rw [if_neg hg, if_neg (by omega), hlo (by omega)]
    have hk' : lmost (g ++ [x]) = lmost g := by
      unfold lmost
      by_cases hg : g.length < 32
      · rw [if_pos hg, if_pos (by omega)]
      · rw [if_neg hg, if_neg (by omega), hlo (by omega)]
    rw [if_neg (by omega)]
    constructor
    · rw [hd, ← hm]; simp only [LS.add, a0]
    · rw [hd, ← hm]; simp only [LS.add, a1]
    · rw [hd, ← hm]; simp only [LS.add, a2]
    · rw [hd, ← hm]; simp only [LS.add, a3]
    · rw [← hm]; simp only [LS.add, b0]
    · rw [← hm]; simp only [LS.add, b1]
    · rw [← hm]; simp only [LS.add, b2]
    · rw [← hm]; simp only [LS.add, b3]
    · rw [hd, mostOf_snoc]; simp only [LS.add, m]
    · rw [hl]; simp only [LS.add, n]; omega
    · simp only [LS.add, wd]; omega
    · rw [hk]; exact l0
    · rw [hk]; exact l1
    · rw [hk]; exact l2
    · rw [hk]; exact l3
    · rw [hk']; exact l4
theorem inv_after (l : List Note) : Inv (LS.after l) (goods l) := by
  induction l using snoc_ind with
  | h0 => constructor <;> rfl
  | h1 l x ih =>
    have hg : goods (l ++ [x]) = if x.wrong = 0 then goods l ++ [x] else goods l := by
      unfold goods
      rw [List.filter_append]
      by_cases h : x.wrong = 0
      · rw [if_pos h]
        have := x.wrong_good.1 h
        simp [this]
      · rw [if_neg h]
        have : ¬ x.good := fun hg => h (x.wrong_good.2 hg)
        simp [this]
    rw [after_snoc, hg]
    by_cases hx : x.wrong = 0
    · rw [if_pos hx]; exact inv_step ih x hx
    · rw [if_neg hx]; unfold LS.step; rw [if_neg hx]; exact ih
end Go.Proofs.Ytifoeddeofhclaa
