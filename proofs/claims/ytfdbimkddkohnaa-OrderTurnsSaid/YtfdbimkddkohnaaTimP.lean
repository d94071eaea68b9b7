/- The reference's Put: a list with one more. -/
import Derived.Test.YtfdbimkddkohnaaTimR
import Derived.Deep.Upon
import Derived.Deep.DeepCutAuto
namespace Go.Proofs.Ytfdbimkddkohnaa
open Go.RowKit

theorem wpList_append_zero {P : Program} {w : World} {ops : Array Oper} {rest : List Oper} {o : Oper} {a : Act} {Q : Exit → Act → World → Prop} (hgd : o.guard = none) (s x : Operand) (t tx : TypeId)
    (ho : o.op = .call { callee := .builtin .append, args := #[s, x], argTypes := #[t, tx] }) (e : TypeId) (i : TypeInfo) (ht : P.underlying t = some (.slice e)) (hi : P.info? e = some i)
    (base : Option Addr) (n c : Nat) (hle : n ≤ c) (hv : a.eval s = .slice base n c) (xv : Value) (hx : a.eval x = xv) (hs : Src P i.size tx xv 0 [] w)
    (h : wpList P ops Q rest (a.put o.dst (.slice base n c)) w) : wpList P ops Q (o :: rest) a w := by
  refine wpList_plain hgd fun K hK' => ?_
  have hrun := run_append_nothing (P := P) w t tx o.type e i ht hi base n c hle xv hs
  unfold Oper.wp
  simp [execOp, ho, resolve, invoke, builtin, hv, hx, hrun, Result.andThen]
  exact hK' _ _ h
theorem src_zero {w : World} (i0 : TypeInfo) (A : Option Addr) (c : Nat) : Src Try.prog i0.size 33 (.slice A 0 c) 0 [] w := by
  cases A with
  | none => exact Src.ofNil w Try.underlying33 c
  | some a => exact Src.ofSlice w Try.underlying33 a 0 c [] (by simp) (by simp) (by simp)
theorem one_own (x : Timer) (w : World) : ∀ j u, x.cells[j]? = some u → (w.alloc (.cells x.cells.toArray 25)).cell? ((⟨w.heap.size, 0, none⟩ : Addr).add j) = some u := cells_new w _ x.cells
set_option maxRecDepth 100000 in
set_option maxHeartbeats 4000000 in
theorem put_any (A : Option Addr) (l : List Timer) (c : Nat) (t : Timer) (w : World) (h : TmAt w w.heap.size A l) (hl : l.length ≤ 100000) (hc : l.length ≤ c ∧ c ≤ 9223372036854775807) (hA : A = none → c = 0) :
    Calls Try.prog 40 #[.slice A l.length c, t.val] w fun e w' => ∃ v, e = .returned v ∧ OwnT w' w.heap.size v (putL l t) ∧ Below w.heap.size w w' := by
  obtain ⟨i0, hi, hz0, hz1, hz2⟩ := info_parts info_timer
  have hfin := find_any A l c t (w.alloc (.cells #[.int .u64 t.at_, .int .u64 t.seq, .int .i64 t.place] 25)) (h.on ((Below.refl _ _).alloc (Nat.le_refl _) _)) (by omega)
  have hn := nBefore_le l t
  have HP := Lib.hid (show putL l t = l.take (nBefore l t) ++ [t] ++ l.drop (nBefore l t) from rfl)
  unfold Timer.val at hfin ⊢
  go_enter Try.func40, Try.ntmps40
  go_wp2_with fail
  refine hfin.mono ?_
  rintro e w2 ⟨rfl, hx⟩
  have hb2 : Below w.heap.size w w2 := ((Below.refl _ _).alloc (Nat.le_refl _) _).trans (Below.mono hx (by simp))
  have hT2 : Blk w2 w.heap.size 25 #[.int .u64 t.at_, .int .u64 t.seq, .int .i64 t.place] := (Blk.new _ _ _).below hx (by simp)
  have h2 := (h.on ((Below.refl _ _).alloc (Nat.le_refl _) _)).on hx
  have hown0 : OwnT (w2.alloc (.cells #[] 25)) w2.heap.size (.slice (some ⟨w2.heap.size, 0, none⟩) 0 0) [] := ⟨rfl, .inr ⟨w2.heap.size, 0, #[], rfl, Nat.le_refl _, heap_alloc_new _ _, Nat.le_refl _, by simp [maxLen], rfl, rfl⟩⟩
  clear hx hfin
  generalize nBefore l t = n at *
  have hwl := hb2.size
  have hT3 := (hT2.alloc (.cells #[] 25)).cell
  have hT3' : w.heap.size < w2.heap.size := hT2.lt
  by_cases hl0 : l = []
  · subst hl0
    obtain rfl : n = 0 := by simpa using hn
    have HP2 := Lib.hid (show putL [] t = [t] by rw [HP.out]; rfl)
    clear HP hn h h2
    cases A with
    | none =>
      obtain rfl := hA rfl
      go_upto_region 3 with (first | (at_builtin; refine wpList_append_zero rfl _ _ 33 33 rfl 25 i0 Try.underlying33 hi _ _ _ (by first | exact Nat.le_refl _ | omega) rfl _ rfl (src_zero i0 none 0) ?_))
      have hown1 : OwnT (w2.alloc (.cells #[] 25)) w.heap.size (.slice (some ⟨w2.heap.size, 0, none⟩) 0 0) [] := hown0.mono hwl
      have hb3 := hb2.alloc hwl (.cells #[] 25)
      have hwl3 := hb3.size
      clear hown0 hT2 hb2
      generalize w2.alloc (.cells #[] 25) = w3 at *
      generalize w2.heap.size = g at *
      go_wp2_with (first | (at_builtin; refine wpList_append_own _ rfl _ _ 33 rfl w.heap.size 25 i0 (.agg #[.int .u64 0, .int .u64 0, .int .i64 0]) 3 24 Try.underlying33 hi hz0 hz1 hz2 rfl (by decide) _ _ _ rfl (hown1.alloc _) ⟨w3.heap.size, 0, none⟩ 1 1 t.cells rfl ?c0 ?c1 ?c2 ?c3 ?c4 ?c5 ?_))
      case c0 => rfl
      case c1 => first | exact cells_new _ _ t.cells | exact fun _ _ h => h
      case c2 => intro v hv; exact one_cell [t] v (by rw [cells_one]; exact hv)
      case c3 => (first | (unfold maxLen; omega) | simp [maxLen])
      case c4 => omega
      case c5 => first | omega | (simp; omega)
      intro v4 w4 hown4 hgr4 _
      have hb4 := below_app hb3 hown1 hgr4 hwl3 (Nat.le_refl _)
      obtain ⟨A4, c4, rfl, _, hn4, _, _⟩ := OwnT.at (l := [t]) hown4
      have hwl4 := hb4.size
      clear hgr4 hown1 hb3 hT3
      go_wp2_with (first | (at_builtin; refine wpList_append_zero rfl _ _ 33 33 rfl 25 i0 Try.underlying33 hi _ _ _ (by first | exact Nat.le_refl _ | omega) rfl _ rfl (src_zero i0 none 0) ?_))
      go_ret
      exact ⟨_, rfl, by rw [HP2.out]; exact hown4, hb4⟩
    | some a =>
      go_upto_region 3 with (first | (at_builtin; refine wpList_append_zero rfl _ _ 33 33 rfl 25 i0 Try.underlying33 hi _ _ _ (by first | exact Nat.le_refl _ | omega) rfl _ rfl (src_zero i0 (some a) c) ?_))
      have hown1 : OwnT (w2.alloc (.cells #[] 25)) w.heap.size (.slice (some ⟨w2.heap.size, 0, none⟩) 0 0) [] := hown0.mono hwl
      have hb3 := hb2.alloc hwl (.cells #[] 25)
      have hwl3 := hb3.size
      clear hown0 hT2 hb2
      generalize w2.alloc (.cells #[] 25) = w3 at *
      generalize w2.heap.size = g at *
      go_wp2_with (first | (at_builtin; refine wpList_append_own _ rfl _ _ 33 rfl w.heap.size 25 i0 (.agg #[.int .u64 0, .int .u64 0, .int .i64 0]) 3 24 Try.underlying33 hi hz0 hz1 hz2 rfl (by decide) _ _ _ rfl (hown1.alloc _) ⟨w3.heap.size, 0, none⟩ 1 1 t.cells rfl ?c0 ?c1 ?c2 ?c3 ?c4 ?c5 ?_))
      case c0 => rfl
      case c1 => first | exact cells_new _ _ t.cells | exact fun _ _ h => h
      case c2 => intro v hv; exact one_cell [t] v (by rw [cells_one]; exact hv)
      case c3 => (first | (unfold maxLen; omega) | simp [maxLen])
      case c4 => omega
      case c5 => first | omega | (simp; omega)
      intro v4 w4 hown4 hgr4 _
      have hb4 := below_app hb3 hown1 hgr4 hwl3 (Nat.le_refl _)
      obtain ⟨A4, c4, rfl, _, hn4, _, _⟩ := OwnT.at (l := [t]) hown4
      have hwl4 := hb4.size
      clear hgr4 hown1 hb3 hT3
      go_wp2_with (first | (at_builtin; refine wpList_append_zero rfl _ _ 33 33 rfl 25 i0 Try.underlying33 hi _ _ _ (by first | exact Nat.le_refl _ | omega) rfl _ rfl (src_zero i0 (some a) c) ?_))
      go_ret
      exact ⟨_, rfl, by rw [HP2.out]; exact hown4, hb4⟩
  · have hpos : 0 < l.length := List.length_pos_iff.2 hl0
    obtain ⟨b, o, rfl, hbb⟩ := h2.form hpos
    have hh2 := (h2.on (Below.refl _ _)).alloc (Nat.le_refl _) (.cells #[] 25)
    have htl : (l.take n).length = n := by simp; omega
    have hdl : (l.drop n).length = l.length - n := by simp
    have HTL := Lib.hid htl
    have HDL := Lib.hid hdl
    clear htl hdl hA h hl0
    go_wp2_with (first | (at_builtin; refine wpList_append_own _ rfl _ _ 33 rfl w2.heap.size 25 i0 (.agg #[.int .u64 0, .int .u64 0, .int .i64 0]) 3 24 Try.underlying33 hi hz0 hz1 hz2 rfl (by decide) _ _ _ rfl hown0 ⟨b, o, none⟩ n c ((l.take n).flatMap Timer.cells) rfl ?c0 ?c1 ?c2 ?c3 ?c4 ?c5 ?_))
    case c0 => rw [flat_len, HTL.out]
    case c1 => exact tm_src (hh2.take n) rfl
    case c2 => exact one_cell _
    case c3 => simp only [List.length_nil]; unfold maxLen; omega
    case c4 => simp only [List.length_nil]; omega
    case c5 => simp
    intro v3 w3 hown3 hgr3 _
    have hown3' : OwnT w3 w2.heap.size v3 (l.take n) := by
      unfold OwnT
      rw [HTL.out]
      simpa using hown3
    have hb3 : Below w.heap.size w w3 := (hb2.alloc hwl (.cells #[] 25)).grown hgr3 (by simp; omega) (fun k hk => by have := own_base hown0 k hk; omega)
    have hX : Below w2.heap.size w2 w3 := ((Below.refl _ _).alloc (Nat.le_refl _) (.cells #[] 25)).grown hgr3 (by simp) (fun k hk => by have := own_base hown0 k hk; omega)
    have h3 := (h2.on (Below.refl _ _)).below hX (Nat.le_refl _)
    have hT3 := (hT2.below hX hT2.lt).cell
    have hwl3 := hb3.size
    have hw23 := hX.size
    clear hgr3 hown0 hown3 hb2 hT2 hX hh2 h2
    have hlen3 : (l.take n).length ≤ 100000 := by simp; omega
    go_wp2_with (first | (at_builtin; refine wpList_append_own _ rfl _ _ 33 rfl w2.heap.size 25 i0 (.agg #[.int .u64 0, .int .u64 0, .int .i64 0]) 3 24 Try.underlying33 hi hz0 hz1 hz2 rfl (by decide) _ _ _ rfl (hown3'.alloc _) ⟨w3.heap.size, 0, none⟩ 1 1 t.cells rfl ?c0 ?c1 ?c2 ?c3 ?c4 ?c5 ?_))
    case c0 => rfl
    case c1 => first | exact cells_new _ _ t.cells | exact fun _ _ h => h
    case c2 => intro v hv; exact one_cell [t] v (by rw [cells_one]; exact hv)
    case c3 => unfold maxLen; omega
    case c4 => omega
    case c5 => first | omega | (simp; omega)
    intro v4 w4 hown4 hgr4 _
    have e4 : (l.take n ++ [t]).length = n + 1 := by rw [List.length_append, HTL.out]; rfl
    have hown4' : OwnT w4 w2.heap.size v4 (l.take n ++ [t]) := by
      unfold OwnT
      rw [e4, List.flatMap_append, cells_one]
      exact hown4
    have hb4 := below_app hb3 hown3' hgr4 hwl3 hwl
    have h4 : TmAt w4 w2.heap.size (some ⟨b, o, none⟩) l := h3.keep fun k hk hk2 => by
      simp only [Option.map_some, Option.some.injEq] at hk2
      subst hk2
      refine (hgr4.block b (by simp; omega) ?_).trans (Below.heap_alloc _ _ _ (by omega))
      intro e
      have := own_base hown3' b e.symm
      omega
    have hwl4 := hb4.size
    have hs34 : w3.heap.size < w4.heap.size := by
      have := hgr4.size
      simp at this
      omega
    obtain ⟨A4, c4, hv4, _, hn4, hm4, _⟩ := OwnT.at hown4'
    rw [e4] at hv4 hn4
    subst hv4
    have hgo : ∀ v w', w'.ownsRow w2.heap.size 25 3 v (n + 1 + (l.length - n)) ((l.take n ++ [t]).flatMap Timer.cells ++ (l.drop n).flatMap Timer.cells) → OwnT w' w.heap.size v (putL l t) := by
      intro v w' h
      rw [HP.out]
      unfold OwnT
      rw [List.length_append, e4, HDL.out, List.flatMap_append]
      exact World.ownsRow.mono h hwl
    have hown5 : w4.ownsRow w2.heap.size 25 3 (.slice A4 (n + 1) c4) (n + 1) ((l.take n ++ [t]).flatMap Timer.cells) := by
      have := hown4'
      unfold OwnT at this
      rwa [e4] at this
    have hb45 := hb4
    clear hgr4 hown3' hown4 h3 hT3 e4 hb3 hown4'
    by_cases hcn : c - n = 0
    · have hln : l.length - n = 0 := by omega
      have hd0 : l.drop n = [] := List.drop_eq_nil_of_le (by omega)
      go_wp2_with (first | (at_builtin; refine wpList_append_zero rfl _ _ 33 33 rfl 25 i0 Try.underlying33 hi _ _ _ (by first | exact Nat.le_refl _ | omega) rfl _ rfl (src_zero i0 _ _) ?_))
      go_ret
      refine ⟨_, rfl, hgo _ _ ?_, hb4⟩
      rw [hd0, hln]
      simpa using hown5
    · go_wp2_with (first | (at_builtin; refine wpList_append_own _ rfl _ _ 33 rfl w2.heap.size 25 i0 (.agg #[.int .u64 0, .int .u64 0, .int .i64 0]) 3 24 Try.underlying33 hi hz0 hz1 hz2 rfl (by decide) _ _ _ rfl hown5 ⟨b, o + n * 3, none⟩ (l.length - n) (c - n) ((l.drop n).flatMap Timer.cells) rfl ?c0 ?c1 ?c2 ?c3 ?c4 ?c5 ?_))
      case c0 => rw [flat_len, HDL.out]
      case c1 => exact tm_src (h4.drop n) rfl
      case c2 => exact one_cell _
      case c3 => unfold maxLen; omega
      case c4 => omega
      case c5 => omega
      intro v5 w5 hown6 hgr5 _
      have hb5 : Below w.heap.size w w5 := hb4.grown hgr5 (by omega) (fun k hk => by have := own_base hown5 k hk; omega)
      go_wp2
      go_ret
      exact ⟨v5, rfl, hgo v5 w5 (by rw [List.flatMap_append, cells_one, List.append_assoc]; exact hown6), hb5⟩
end Go.Proofs.Ytfdbimkddkohnaa
