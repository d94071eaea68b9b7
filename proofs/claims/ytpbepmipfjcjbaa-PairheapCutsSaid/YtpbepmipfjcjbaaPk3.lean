/- Part 3: the texts TimP RefQ Ord Clone IsSo Srtd Srt RefI RefJ, laid end to end by a program. -/
import Derived.Deep.Upon
import Derived.Deep.DeepCutAuto
import Derived.Test.YtpbepmipfjcjbaaPk1
namespace Go.Proofs.Ytpbepmipfjcjbaa
open Go.RowKit

theorem wpList_append_zero {P : Program} {w : World} {ops : Array Oper} {rest : List Oper} {o : Oper} {a : Act} {Q : Exit → Act → World → Prop} (hgd : o.guard = none) (s x : Operand) (t tx : TypeId)
    (ho : o.op = .call { callee := .builtin .append, args := #[s, x], argTypes := #[t, tx] }) (e : TypeId) (i : TypeInfo) (ht : P.underlying t = some (.slice e)) (hi : P.info? e = some i)
    (base : Option Addr) (n c : Nat) (hle : n ≤ c) (hv : a.eval s = .slice base n c) (xv : Value) (hx : a.eval x = xv) (hs : Src P i.size tx xv 0 [] w)
    (h : wpList P ops Q rest (a.put o.dst (.slice base n c)) w) : wpList P ops Q (o :: rest) a w := by
  refine wpList_plain hgd fun K hK' => ?_
  have hrun := run_append_nothing (P := P) w t tx o.type e i ht hi base n c hle xv hs
  unfold Oper.wp
  simp [execOp, ho, resolve, invoke, builtin, hv, hx, hrun, Result.andThen]
  exact hK' _ _ h
theorem src_zero {w : World} (i0 : TypeInfo) (A : Option Addr) (c : Nat) : Src Try.prog i0.size 28 (.slice A 0 c) 0 [] w := by
  cases A with
  | none => exact Src.ofNil w Try.underlying28 c
  | some a => exact Src.ofSlice w Try.underlying28 a 0 c [] (by simp) (by simp) (by simp)
theorem one_own (x : Timer) (w : World) : ∀ j u, x.cells[j]? = some u → (w.alloc (.cells x.cells.toArray 35)).cell? ((⟨w.heap.size, 0, none⟩ : Addr).add j) = some u := cells_new w _ x.cells
set_option maxRecDepth 100000 in
set_option maxHeartbeats 4000000 in
theorem put_any (A : Option Addr) (l : List Timer) (c : Nat) (t : Timer) (w : World) (h : TmAt w w.heap.size A l) (hl : l.length ≤ 100000) (hc : l.length ≤ c ∧ c ≤ 9223372036854775807) (hA : A = none → c = 0) :
    Calls Try.prog 37 #[.slice A l.length c, t.val] w fun e w' => ∃ v, e = .returned v ∧ OwnT w' w.heap.size v (putL l t) ∧ Below w.heap.size w w' := by
  obtain ⟨i0, hi, hz0, hz1, hz2⟩ := info_parts info_timer
  have hfin := find_any A l c t (w.alloc (.cells #[.int .u64 t.at_, .int .u64 t.seq, .int .i64 t.place] 35)) (h.on ((Below.refl _ _).alloc (Nat.le_refl _) _)) (by omega)
  have hn := nBefore_le l t
  have HP := Lib.hid (show putL l t = l.take (nBefore l t) ++ [t] ++ l.drop (nBefore l t) from rfl)
  unfold Timer.val at hfin ⊢
  go_enter Try.func37, Try.ntmps37
  go_wp2_with fail
  refine hfin.mono ?_
  rintro e w2 ⟨rfl, hx⟩
  have hb2 : Below w.heap.size w w2 := ((Below.refl _ _).alloc (Nat.le_refl _) _).trans (Below.mono hx (by simp))
  have hT2 : Blk w2 w.heap.size 35 #[.int .u64 t.at_, .int .u64 t.seq, .int .i64 t.place] := (Blk.new _ _ _).below hx (by simp)
  have h2 := (h.on ((Below.refl _ _).alloc (Nat.le_refl _) _)).on hx
  have hown0 : OwnT (w2.alloc (.cells #[] 35)) w2.heap.size (.slice (some ⟨w2.heap.size, 0, none⟩) 0 0) [] := ⟨rfl, .inr ⟨w2.heap.size, 0, #[], rfl, Nat.le_refl _, heap_alloc_new _ _, Nat.le_refl _, by simp [maxLen], rfl, rfl⟩⟩
  clear hx hfin
  generalize nBefore l t = n at *
  have hwl := hb2.size
  have hT3 := (hT2.alloc (.cells #[] 35)).cell
  have hT3' : w.heap.size < w2.heap.size := hT2.lt
  by_cases hl0 : l = []
  · subst hl0
    obtain rfl : n = 0 := by simpa using hn
    have HP2 := Lib.hid (show putL [] t = [t] by rw [HP.out]; rfl)
    clear HP hn h h2
    cases A with
    | none =>
      obtain rfl := hA rfl
      go_upto_region 3 with (first | (at_builtin; refine wpList_append_zero rfl _ _ 28 28 rfl 35 i0 Try.underlying28 hi _ _ _ (by first | exact Nat.le_refl _ | omega) rfl _ rfl (src_zero i0 none 0) ?_))
      have hown1 : OwnT (w2.alloc (.cells #[] 35)) w.heap.size (.slice (some ⟨w2.heap.size, 0, none⟩) 0 0) [] := hown0.mono hwl
      have hb3 := hb2.alloc hwl (.cells #[] 35)
      have hwl3 := hb3.size
      clear hown0 hT2 hb2
      generalize w2.alloc (.cells #[] 35) = w3 at *
      generalize w2.heap.size = g at *
      go_wp2_with (first | (at_builtin; refine wpList_append_own _ rfl _ _ 28 rfl w.heap.size 35 i0 (.agg #[.int .u64 0, .int .u64 0, .int .i64 0]) 3 24 Try.underlying28 hi hz0 hz1 hz2 rfl (by decide) _ _ _ rfl (hown1.alloc _) ⟨w3.heap.size, 0, none⟩ 1 1 t.cells rfl ?c0 ?c1 ?c2 ?c3 ?c4 ?c5 ?_))
      case c0 => rfl
      case c1 => first | exact cells_new _ _ t.cells | exact fun _ _ h => h
      case c2 => intro v hv; exact one_cell [t] v (by rw [cells_one]; exact hv)
      case c3 => (first | (unfold maxLen; omega) | simp [maxLen])
      case c4 => omega
      case c5 => first | omega | (simp; omega)
      intro v4 w4 hown4 hgr4 _
      have hb4 := below_app hb3 hown1 hgr4 hwl3 (Nat.le_refl _)
      obtain ⟨A4, c4, rfl, _, hn4, _, _⟩ := OwnT.at (l := [t]) hown4
      have hwl4 := hb4.size
      clear hgr4 hown1 hb3 hT3
      go_wp2_with (first | (at_builtin; refine wpList_append_zero rfl _ _ 28 28 rfl 35 i0 Try.underlying28 hi _ _ _ (by first | exact Nat.le_refl _ | omega) rfl _ rfl (src_zero i0 none 0) ?_))
      go_ret
      exact ⟨_, rfl, by rw [HP2.out]; exact hown4, hb4⟩
    | some a =>
      go_upto_region 3 with (first | (at_builtin; refine wpList_append_zero rfl _ _ 28 28 rfl 35 i0 Try.underlying28 hi _ _ _ (by first | exact Nat.le_refl _ | omega) rfl _ rfl (src_zero i0 (some a) c) ?_))
      have hown1 : OwnT (w2.alloc (.cells #[] 35)) w.heap.size (.slice (some ⟨w2.heap.size, 0, none⟩) 0 0) [] := hown0.mono hwl
      have hb3 := hb2.alloc hwl (.cells #[] 35)
      have hwl3 := hb3.size
      clear hown0 hT2 hb2
      generalize w2.alloc (.cells #[] 35) = w3 at *
      generalize w2.heap.size = g at *
      go_wp2_with (first | (at_builtin; refine wpList_append_own _ rfl _ _ 28 rfl w.heap.size 35 i0 (.agg #[.int .u64 0, .int .u64 0, .int .i64 0]) 3 24 Try.underlying28 hi hz0 hz1 hz2 rfl (by decide) _ _ _ rfl (hown1.alloc _) ⟨w3.heap.size, 0, none⟩ 1 1 t.cells rfl ?c0 ?c1 ?c2 ?c3 ?c4 ?c5 ?_))
      case c0 => rfl
      case c1 => first | exact cells_new _ _ t.cells | exact fun _ _ h => h
      case c2 => intro v hv; exact one_cell [t] v (by rw [cells_one]; exact hv)
      case c3 => (first | (unfold maxLen; omega) | simp [maxLen])
      case c4 => omega
      case c5 => first | omega | (simp; omega)
      intro v4 w4 hown4 hgr4 _
      have hb4 := below_app hb3 hown1 hgr4 hwl3 (Nat.le_refl _)
      obtain ⟨A4, c4, rfl, _, hn4, _, _⟩ := OwnT.at (l := [t]) hown4
      have hwl4 := hb4.size
      clear hgr4 hown1 hb3 hT3
      go_wp2_with (first | (at_builtin; refine wpList_append_zero rfl _ _ 28 28 rfl 35 i0 Try.underlying28 hi _ _ _ (by first | exact Nat.le_refl _ | omega) rfl _ rfl (src_zero i0 (some a) c) ?_))
      go_ret
      exact ⟨_, rfl, by rw [HP2.out]; exact hown4, hb4⟩
  · have hpos : 0 < l.length := List.length_pos_iff.2 hl0
    obtain ⟨b, o, rfl, hbb⟩ := h2.form hpos
    have hh2 := (h2.on (Below.refl _ _)).alloc (Nat.le_refl _) (.cells #[] 35)
    have htl : (l.take n).length = n := by simp; omega
    have hdl : (l.drop n).length = l.length - n := by simp
    have HTL := Lib.hid htl
    have HDL := Lib.hid hdl
    clear htl hdl hA h hl0
    go_wp2_with (first | (at_builtin; refine wpList_append_own _ rfl _ _ 28 rfl w2.heap.size 35 i0 (.agg #[.int .u64 0, .int .u64 0, .int .i64 0]) 3 24 Try.underlying28 hi hz0 hz1 hz2 rfl (by decide) _ _ _ rfl hown0 ⟨b, o, none⟩ n c ((l.take n).flatMap Timer.cells) rfl ?c0 ?c1 ?c2 ?c3 ?c4 ?c5 ?_))
    case c0 => rw [flat_len, HTL.out]
    case c1 => exact tm_src (hh2.take n) rfl
    case c2 => exact one_cell _
    case c3 => simp only [List.length_nil]; unfold maxLen; omega
    case c4 => simp only [List.length_nil]; omega
    case c5 => simp
    intro v3 w3 hown3 hgr3 _
    have hown3' : OwnT w3 w2.heap.size v3 (l.take n) := by
      unfold OwnT
      rw [HTL.out]
      simpa using hown3
    have hb3 : Below w.heap.size w w3 := (hb2.alloc hwl (.cells #[] 35)).grown hgr3 (by simp; omega) (fun k hk => by have := own_base hown0 k hk; omega)
    have hX : Below w2.heap.size w2 w3 := ((Below.refl _ _).alloc (Nat.le_refl _) (.cells #[] 35)).grown hgr3 (by simp) (fun k hk => by have := own_base hown0 k hk; omega)
    have h3 := (h2.on (Below.refl _ _)).below hX (Nat.le_refl _)
    have hT3 := (hT2.below hX hT2.lt).cell
    have hwl3 := hb3.size
    have hw23 := hX.size
    clear hgr3 hown0 hown3 hb2 hT2 hX hh2 h2
    have hlen3 : (l.take n).length ≤ 100000 := by simp; omega
    go_wp2_with (first | (at_builtin; refine wpList_append_own _ rfl _ _ 28 rfl w2.heap.size 35 i0 (.agg #[.int .u64 0, .int .u64 0, .int .i64 0]) 3 24 Try.underlying28 hi hz0 hz1 hz2 rfl (by decide) _ _ _ rfl (hown3'.alloc _) ⟨w3.heap.size, 0, none⟩ 1 1 t.cells rfl ?c0 ?c1 ?c2 ?c3 ?c4 ?c5 ?_))
    case c0 => rfl
    case c1 => first | exact cells_new _ _ t.cells | exact fun _ _ h => h
    case c2 => intro v hv; exact one_cell [t] v (by rw [cells_one]; exact hv)
    case c3 => unfold maxLen; omega
    case c4 => omega
    case c5 => first | omega | (simp; omega)
    intro v4 w4 hown4 hgr4 _
    have e4 : (l.take n ++ [t]).length = n + 1 := by rw [List.length_append, HTL.out]; rfl
    have hown4' : OwnT w4 w2.heap.size v4 (l.take n ++ [t]) := by
      unfold OwnT
      rw [e4, List.flatMap_append, cells_one]
      exact hown4
    have hb4 := below_app hb3 hown3' hgr4 hwl3 hwl
    have h4 : TmAt w4 w2.heap.size (some ⟨b, o, none⟩) l := h3.keep fun k hk hk2 => by
      simp only [Option.map_some, Option.some.injEq] at hk2
      subst hk2
      refine (hgr4.block b (by simp; omega) ?_).trans (Below.heap_alloc _ _ _ (by omega))
      intro e
      have := own_base hown3' b e.symm
      omega
    have hwl4 := hb4.size
    have hs34 : w3.heap.size < w4.heap.size := by
      have := hgr4.size
      simp at this
      omega
    obtain ⟨A4, c4, hv4, _, hn4, hm4, _⟩ := OwnT.at hown4'
    rw [e4] at hv4 hn4
    subst hv4
    have hgo : ∀ v w', w'.ownsRow w2.heap.size 35 3 v (n + 1 + (l.length - n)) ((l.take n ++ [t]).flatMap Timer.cells ++ (l.drop n).flatMap Timer.cells) → OwnT w' w.heap.size v (putL l t) := by
      intro v w' h
      rw [HP.out]
      unfold OwnT
      rw [List.length_append, e4, HDL.out, List.flatMap_append]
      exact World.ownsRow.mono h hwl
    have hown5 : w4.ownsRow w2.heap.size 35 3 (.slice A4 (n + 1) c4) (n + 1) ((l.take n ++ [t]).flatMap Timer.cells) := by
      have := hown4'
      unfold OwnT at this
      rwa [e4] at this
    have hb45 := hb4
    clear hgr4 hown3' hown4 h3 hT3 e4 hb3 hown4'
    by_cases hcn : c - n = 0
    · have hln : l.length - n = 0 := by omega
      have hd0 : l.drop n = [] := List.drop_eq_nil_of_le (by omega)
      go_wp2_with (first | (at_builtin; refine wpList_append_zero rfl _ _ 28 28 rfl 35 i0 Try.underlying28 hi _ _ _ (by first | exact Nat.le_refl _ | omega) rfl _ rfl (src_zero i0 _ _) ?_))
      go_ret
      refine ⟨_, rfl, hgo _ _ ?_, hb4⟩
      rw [hd0, hln]
      simpa using hown5
    · go_wp2_with (first | (at_builtin; refine wpList_append_own _ rfl _ _ 28 rfl w2.heap.size 35 i0 (.agg #[.int .u64 0, .int .u64 0, .int .i64 0]) 3 24 Try.underlying28 hi hz0 hz1 hz2 rfl (by decide) _ _ _ rfl hown5 ⟨b, o + n * 3, none⟩ (l.length - n) (c - n) ((l.drop n).flatMap Timer.cells) rfl ?c0 ?c1 ?c2 ?c3 ?c4 ?c5 ?_))
      case c0 => rw [flat_len, HDL.out]
      case c1 => exact tm_src (h4.drop n) rfl
      case c2 => exact one_cell _
      case c3 => unfold maxLen; omega
      case c4 => omega
      case c5 => omega
      intro v5 w5 hown6 hgr5 _
      have hb5 : Below w.heap.size w w5 := hb4.grown hgr5 (by omega) (fun k hk => by have := own_base hown5 k hk; omega)
      go_wp2
      go_ret
      exact ⟨v5, rfl, hgo v5 w5 (by rw [List.flatMap_append, cells_one, List.append_assoc]; exact hown6), hb5⟩
end Go.Proofs.Ytpbepmipfjcjbaa
namespace Go.Proofs.Ytpbepmipfjcjbaa
open Go.RowKit

/-- What is asked of a list's block g. -/
def Lies (w : World) (g : Nat) : Prop := ∃ cs, Blk w g 35 cs
theorem Lies.lt {w : World} {g : Nat} (h : Lies w g) : g < w.heap.size := h.elim fun _ k => k.lt
theorem Lies.keep {w w' : World} {g : Nat} (h : Lies w g) (_ : w.heap.size ≤ w'.heap.size) (k : w'.heap[g]? = w.heap[g]?) : Lies w' g := h.elim fun cs e => ⟨cs, k.trans e⟩
theorem Lies.of {w : World} {g : Nat} {cs : Array Value} (h : Blk w g 35 cs) : Lies w g := ⟨cs, h⟩
/-- The slice v holds the timers l. -/
def LAt (w : World) (v : Value) (l : List Timer) : Prop := ∃ A c, v = .slice A l.length c ∧ TmAt w w.heap.size A l ∧ l.length ≤ c ∧ c ≤ maxLen ∧ (A = none → c = 0) ∧ (∀ g, A.map (·.block) = some g → Lies w g)
theorem OwnT.lat {w : World} {base : Nat} {v : Value} {l : List Timer} (h : OwnT w base v l) : LAt w v l := by
  have h' := h
  obtain ⟨A, c, rfl, h1, h2, h3, h4⟩ := h.at
  rcases h'.2 with ⟨hv, _⟩ | ⟨g, cap, cur, hv, _, hh, _⟩
  · injection hv with e1 e2 e3
    subst e1
    exact ⟨none, c, rfl, h1, h2, h3, fun _ => e3, by simp⟩
  · injection hv with e1
    subst e1
    refine ⟨_, c, rfl, h1, h2, h3, by simp, fun k hk => ?_⟩
    simp only [Option.map_some, Option.some.injEq] at hk
    subst hk
    exact Lies.of hh
theorem LAt.on {w w' : World} {v : Value} {l : List Timer} (h : LAt w v l) (k : Below w.heap.size w w') : LAt w' v l := by
  obtain ⟨A, c, rfl, h1, h2, h3, h4, h5⟩ := h
  exact ⟨A, c, rfl, h1.on k, h2, h3, h4, fun g hg => (h5 g hg).keep k.size (k.block g (h5 g hg).lt)⟩
theorem LAt.nil (w : World) : LAt w (.slice none 0 0) [] := ⟨none, 0, rfl, TmAt.nil, Nat.le_refl _, by simp [maxLen], fun _ => rfl, by simp⟩
def qV (P : Int) (v : Value) : Value := .agg #[.int .i64 P, v]
def getL (l : List Timer) (p : Int) : Option Timer := l.find? fun x => decide (x.place = p)
def withoutL (l : List Timer) (p : Int) : List Timer := l.filter fun x => decide (x.place ≠ p)
def pairT (o : Option Timer) : Value := .tuple #[(o.getD Timer.zero).val, .bool o.isSome]
set_option maxRecDepth 100000 in
set_option maxHeartbeats 1000000 in
theorem rget_any (P : Int) (v : Value) (l : List Timer) (p : Int) (w : World) (h : LAt w v l) (_hl : l.length ≤ 100000) :
    Calls Try.prog 34 #[qV P v, .int .i64 p] w fun e w' => e = .returned (pairT (getL l p)) ∧ Below w.heap.size w w' := by
  obtain ⟨A, c, rfl, hT, hc, hm, _⟩ := h
  unfold maxLen at hm
  have hb0 : Below w.heap.size w ((w.alloc (.cells #[.int .i64 P, .slice A l.length c] 30)).alloc (.cells #[.int .u64 0, .int .u64 0, .int .i64 0] 35)) := ((Below.refl _ _).alloc (Nat.le_refl _) _).alloc (by simp) _
  have HB := Lib.hid (show ∀ cs, Below w.heap.size w ((w.alloc (.cells #[.int .i64 P, .slice A l.length c] 30)).alloc (.cells cs 35)) from fun cs => ((Below.refl _ _).alloc (Nat.le_refl _) _).alloc (by simp) _)
  have hT2 := hT.below hb0 (Nat.le_refl _)
  clear hb0
  unfold qV
  go_enter Try.func34, Try.ntmps34
  go_wp2
  go_loop [6] (fun i => ∃ k : Nat, k ≤ l.length ∧ i = .int .i64 k ∧ getL (l.take k) p = none) (fun i => l.length - (intOf i).toNat)
  case atStart => exact ⟨0, Nat.zero_le _, rfl, rfl⟩
  case round =>
    obtain ⟨k, hk, rfl, hn⟩ := hrel
    by_cases hlt : k < l.length
    · obtain ⟨b, o, rfl, hbb, c0, c1, c2⟩ := hT2 k hlt
      have hx : getL l p = (getL (l.take k) p).or (if l[k].place = p then some l[k] else getL (l.drop (k + 1)) p) := by
        conv => lhs; rw [← List.take_append_drop k l, List.drop_eq_getElem_cons hlt]
        unfold getL
        rw [List.find?_append]
        congr 1
        rw [List.find?_cons]
        by_cases hp : l[k].place = p <;> simp [hp]
      have hs : getL (l.take (k + 1)) p = (getL (l.take k) p).or (if l[k].place = p then some l[k] else none) := by
        rw [take_snoc l k hlt]
        unfold getL
        rw [List.find?_append]
        congr 1
        by_cases hp : l[k].place = p <;> simp [hp]
      rw [hn, Option.none_or] at hx hs
      generalize l[k] = x at *
      by_cases hp : x.place = p
      · have hp' : (x.place == p) = true := by simp [hp]
        rw [if_pos hp] at hx
        have HX := Lib.hid hx
        clear hp hx hs hn
        go_wp2
        refine bodyPost_ret (v := pairT (some x)) (by simp [results, Try.results34, go_sem, pairT, Timer.val]) rfl ⟨by rw [HX.out], ?_⟩
        first | exact HB.out _ | exact (((HB.out _).setCell (Nat.le_succ _) _).setCell (Nat.le_succ _) _).setCell (Nat.le_succ _) _
      · have hp' : (x.place == p) = false := by simp [hp]
        rw [if_neg hp] at hs
        have HS := Lib.hid hs
        clear hp hx hs hn
        go_wp2
        go_round
        case rel => exact ⟨k + 1, by omega, by go_num, HS.out⟩
        case measure => simp [intOf]; omega
    · have ht : l.take k = l := List.take_of_length_le (by omega)
      rw [ht] at hn
      have HN := Lib.hid hn
      clear hn ht
      go_wp2
      refine bodyPost_ret (v := pairT none) (by simp [results, Try.results34, go_sem, pairT, Timer.val, Timer.zero]) rfl ⟨by rw [HN.out], ?_⟩
      first | exact HB.out _ | exact (((HB.out _).setCell (Nat.le_succ _) _).setCell (Nat.le_succ _) _).setCell (Nat.le_succ _) _
set_option maxRecDepth 100000 in
set_option maxHeartbeats 1000000 in
theorem rmin_any (P : Int) (v : Value) (l : List Timer) (w : World) (h : LAt w v l) (hl : l.length ≤ 100000) :
    Calls Try.prog 35 #[qV P v] w fun e w' => e = .returned (pairT l.head?) ∧ Below w.heap.size w w' := by
  obtain ⟨A, c, rfl, hT, hc, hm, _⟩ := h
  unfold maxLen at hm
  have hb0 : Below w.heap.size w ((w.alloc (.cells #[.int .i64 P, .slice A l.length c] 30)).alloc (.cells #[.int .u64 0, .int .u64 0, .int .i64 0] 35)) := ((Below.refl _ _).alloc (Nat.le_refl _) _).alloc (by simp) _
  have HB := Lib.hid (show ∀ cs, Below w.heap.size w ((w.alloc (.cells #[.int .i64 P, .slice A l.length c] 30)).alloc (.cells cs 35)) from fun cs => ((Below.refl _ _).alloc (Nat.le_refl _) _).alloc (by simp) _)
  have hT2 := hT.below hb0 (Nat.le_refl _)
  clear hb0
  unfold qV
  cases l with
  | nil =>
    go_enter Try.func35, Try.ntmps35
    go_wp2
    refine bodyPost_ret (v := pairT none) (by simp [results, Try.results35, go_sem, pairT, Timer.val, Timer.zero]) rfl ⟨rfl, ?_⟩
    first | exact HB.out _ | exact (((HB.out _).setCell (Nat.le_succ _) _).setCell (Nat.le_succ _) _).setCell (Nat.le_succ _) _
  | cons x l =>
    obtain ⟨b, o, rfl, hbb, c0, c1, c2⟩ := hT2 0 (by simp)
    simp only [List.getElem_cons_zero, Nat.zero_mul, Nat.add_zero] at c0 c1 c2
    have hne : (((x :: l).length : Int) == 0) = false := by rw [beq_eq_false_iff_ne]; simp only [List.length_cons]; omega
    have hbx : b < w.heap.size := hbb
    have hpos : 0 < (x :: l).length := by simp
    have hp1 : (0 : Int) < ((x :: l).length : Int) := by simp only [List.length_cons]; omega
    generalize hL : (x :: l).length = n at *
    clear hL
    go_enter Try.func35, Try.ntmps35
    go_wp2
    refine bodyPost_ret (v := pairT (some x)) (by simp [results, Try.results35, go_sem, pairT, Timer.val]) rfl ⟨rfl, ?_⟩
    first | exact HB.out _ | exact (((HB.out _).setCell (Nat.le_succ _) _).setCell (Nat.le_succ _) _).setCell (Nat.le_succ _) _
end Go.Proofs.Ytpbepmipfjcjbaa
namespace Go.Proofs.Ytpbepmipfjcjbaa
open Go.RowKit
/-- Is none before the one ahead of it? -/
def srtB : List Timer → Bool
  | [] => true
  | [_] => true
  | x :: y :: l => !(y.lt x) && srtB (y :: l)
def sortL (l : List Timer) : List Timer := l.foldl putL []
theorem sortL_snoc (l : List Timer) (x : Timer) : sortL (l ++ [x]) = putL (sortL l) x := by simp [sortL]
theorem putL_length (l : List Timer) (t : Timer) : (putL l t).length = l.length + 1 := by
  have := nBefore_le l t
  simp [putL]
  omega
theorem sortL_length (l : List Timer) : (sortL l).length = l.length := by
  have key : ∀ (l m : List Timer), (l.foldl putL m).length = m.length + l.length := by
    intro l
    induction l with
    | nil => simp
    | cons x l ih => intro m; rw [List.foldl_cons, ih, putL_length]; simp; omega
  simpa [sortL] using key l []
theorem srtB_snoc (l : List Timer) (x y : Timer) : srtB (l ++ [x] ++ [y]) = (srtB (l ++ [x]) && !(y.lt x)) := by
  induction l with
  | nil => simp [srtB]
  | cons z l ih =>
    cases l with
    | nil => simp [srtB]
    | cons u l =>
      simp only [List.cons_append, srtB] at ih ⊢
      rw [ih, Bool.and_assoc]
theorem srtB_take {l : List Timer} {k : Nat} (h : srtB (l.take k) = false) : srtB l = false := by
  have key : ∀ (a b : List Timer), srtB a = false → srtB (a ++ b) = false := by
    intro a
    induction a with
    | nil => intro b h; simp [srtB] at h
    | cons x a ih =>
      intro b h
      cases a with
      | nil => simp [srtB] at h
      | cons y a =>
        simp only [List.cons_append, srtB] at h ⊢ ih
        cases e : y.lt x
        · rw [e] at h
          simp only [Bool.not_false, Bool.true_and] at h ⊢
          exact ih b h
        · rfl
  rw [← List.take_append_drop k l]
  exact key _ _ h
end Go.Proofs.Ytpbepmipfjcjbaa
namespace Go.Proofs.Ytpbepmipfjcjbaa
open Go.RowKit

theorem tm_src' {w : World} {a : Addr} {l : List Timer} (h : TmAt w w.heap.size (some a) l) (o : Obj) : ∀ j u, (l.flatMap Timer.cells)[j]? = some u → (w.alloc o).cell? (a.add j) = some u := by
  cases l with
  | nil => intro j u hj; simp at hj
  | cons x l =>
    obtain ⟨b, off, e, _⟩ := h 0 (by simp)
    injection e with e
    subst e
    exact tm_src (h.on ((Below.refl _ _).alloc (Nat.le_refl _) o)) rfl
theorem eql_nil (w : World) (a : Option Addr) (n c n' c' : Nat) : (binOp .eql 28 (.slice a n c) (.slice none n' c')).run Try.prog w = .ok (.bool a.isNone) w := Lib.run_eql_slice_nil w _ _ a n c n' c' Try.underlying28
/-- A list of timers lies at v; of where an empty one points nothing is asked. -/
def LW (w : World) (v : Value) (l : List Timer) : Prop := ∃ A c, v = .slice A l.length c ∧ TmAt w w.heap.size A l ∧ l.length ≤ c ∧ c ≤ maxLen ∧ (A = none → c = 0)
theorem LAt.lw {w : World} {v : Value} {l : List Timer} (h : LAt w v l) : LW w v l := by
  obtain ⟨A, c, h1, h2, h3, h4, h5, _⟩ := h
  exact ⟨A, c, h1, h2, h3, h4, h5⟩
theorem LW.on {x y : World} {v : Value} {l : List Timer} (h : LW x v l) (k : Below x.heap.size x y) : LW y v l := by
  obtain ⟨A, c, h1, h2, h3, h4, h5⟩ := h
  exact ⟨A, c, h1, h2.on k, h3, h4, h5⟩
set_option maxRecDepth 100000 in
set_option maxHeartbeats 2000000 in
theorem clone_any (v : Value) (l : List Timer) (w : World) (h : LW w v l) (hl : l.length ≤ 1000000) :
    Calls Try.prog 44 #[v] w fun e w' => ∃ v', e = .returned v' ∧ OwnT w' w.heap.size v' l ∧ Below w.heap.size w w' := by
  obtain ⟨i0, hi, hz0, hz1, hz2⟩ := info_parts info_timer
  obtain ⟨A, c, rfl, hT, hc, hm, hA⟩ := h
  cases A with
  | none =>
    have hl0 : l = [] := by
      have := hA rfl
      cases l with
      | nil => rfl
      | cons x l => simp at hc; omega
    subst hl0
    have hq := eql_nil
    go_enter Try.func44, Try.ntmps44
    go_wp2
    go_ret
    exact ⟨_, rfl, OwnT.nil _ _, Below.refl _ _⟩
  | some a =>
    have hsrc := tm_src' hT (.cells #[] 35)
    have hq := eql_nil
    have hmade : (w.alloc (.cells #[] 35)).ownsRow w.heap.size 35 3 (.slice (some ⟨w.heap.size, 0, none⟩) 0 0) 0 [] := World.ownsRow_made w #[] 0 (Nat.le_refl _) (Nat.zero_le _) rfl
    clear hT
    go_enter Try.func44, Try.ntmps44
    go_wp2_with (at_builtin; refine wpList_append_own _ rfl _ _ 28 rfl w.heap.size 35 i0 (.agg #[.int .u64 0, .int .u64 0, .int .i64 0]) 3 24 Try.underlying28 hi hz0 hz1 hz2 rfl (by decide) _ _ _ rfl hmade a l.length c (l.flatMap Timer.cells) rfl ?c0 ?c1 ?c2 ?c3 ?c4 ?c5 ?_)
    case c0 => exact flat_len l
    case c1 => exact hsrc
    case c2 => exact one_cell l
    case c3 => unfold maxLen; omega
    case c4 => omega
    case c5 => simp
    intro v2 w2 hown2 hgr2 _
    have hb2 : Below w.heap.size w w2 := ⟨hgr2.os, hgr2.tape, hgr2.output, Nat.le_trans (by simp) hgr2.size, fun k hk => (hgr2.block k (by simp; omega) (by simp [Value.ownBlock]; omega)).trans (Below.heap_alloc _ _ _ hk)⟩
    have hown3 : OwnT w2 w.heap.size v2 l := by
      unfold OwnT
      simpa using hown2
    clear hgr2 hown2 hmade hsrc hi hz0 hz1 hz2 hq
    go_wp2
    go_ret
    exact ⟨_, rfl, hown3, hb2⟩
end Go.Proofs.Ytpbepmipfjcjbaa
namespace Go.Proofs.Ytpbepmipfjcjbaa
open Go.RowKit
theorem srtB_drop (l : List Timer) (k : Nat) (h : k + 1 < l.length) : srtB (l.drop k) = (!(l[k + 1].lt l[k]) && srtB (l.drop (k + 1))) := by
  rw [List.drop_eq_getElem_cons (show k < l.length by omega), List.drop_eq_getElem_cons h]
  rfl
theorem srtB_drop_false {l : List Timer} {k : Nat} (h : srtB (l.drop k) = false) : srtB l = false := by
  induction l generalizing k with
  | nil => simp [srtB] at h
  | cons x l ih =>
    cases k with
    | zero => exact h
    | succ k =>
      have := ih (by simpa using h)
      cases l with
      | nil => simp [srtB] at this
      | cons y l => simp [srtB, this]
set_option maxRecDepth 100000 in
set_option maxHeartbeats 2000000 in
theorem issorted_any (A : Option Addr) (l : List Timer) (c : Nat) (w : World) (h : TmAt w w.heap.size A l) (hl : l.length ≤ 1000000) :
    Calls Try.prog 55 #[.slice A l.length c, .func (.func 48) #[] #[]] w fun e w' => e = .returned (.bool (srtB l)) ∧ Below w.heap.size w w' := by
  go_enter Try.func55, Try.ntmps55
  go_wp2_with fail
  go_loopw [5] (fun i wr => ∃ (z : Int) (k : Nat), i = .int .i64 z ∧ (k < l.length ∧ z = k ∨ l = [] ∧ z = -1) ∧ srtB (l.drop k) = true ∧ Below w.heap.size w wr) (fun i _ => (intOf i).toNat)
  case atStart =>
    cases l with
    | nil => exact ⟨-1, 0, rfl, .inr ⟨rfl, rfl⟩, rfl, Below.refl _ _⟩
    | cons x l =>
      refine ⟨l.length, l.length, by simp, .inl ⟨by simp, rfl⟩, ?_, Below.refl _ _⟩
      have e1 : ((x :: l).drop l.length).length = 1 := by simp
      match (x :: l).drop l.length, e1 with
      | [y], _ => rfl
  case round =>
    obtain ⟨z, k, rfl, hc, hs, hb⟩ := hrel
    by_cases h0 : 0 < k ∧ k < l.length
    · obtain ⟨k0, hlt⟩ := h0
      have hi : z = k := by
        rcases hc with hc | hc
        · exact hc.2
        · rw [hc.1] at hlt
          simp at hlt
      subst hi
      clear hc
      have h' := h.below hb (Nat.le_refl _)
      obtain ⟨b, o, rfl, hbb, c0, c1, c2⟩ := h' k hlt
      obtain ⟨b', o', e, _, d0, d1, d2⟩ := h' (k - 1) (by omega)
      simp only [Option.some.injEq, Addr.mk.injEq, and_true] at e
      obtain ⟨rfl, rfl⟩ := e
      have hbw : b < wr.heap.size := Nat.lt_of_lt_of_le hbb hb.size
      have hst := srtB_drop l (k - 1) (by omega)
      have hk1 : k - 1 + 1 = k := by omega
      simp only [hk1] at hst
      rw [hs] at hst
      have hcl := cmpT_lt l[k] l[k - 1]
      have HST := Lib.hid (show ¬ cmpT l[k] l[k - 1] < 0 → srtB (l.drop (k - 1)) = true from fun e => by rw [hst, ← hcl]; simp [e])
      have HSP := Lib.hid (show cmpT l[k] l[k - 1] < 0 → srtB l = false from fun e => srtB_drop_false (k := k - 1) (by rw [hst, ← hcl]; simp [e]))
      have hbd := cmp_any l[k] l[k - 1] wr.drew
      clear hst hcl hs
      have hwr : IntKind.i64.wrap ((k : Int) - 1) = ((k - 1 : Nat) : Int) := (IntWalk.i64_in _ (by omega)).trans (by omega)
      have hpl : k - 1 < l.length := by omega
      have HK := Lib.hid (show k - 1 + 1 = k by omega)
      generalize l[k] = x at *
      generalize l[k - 1] = y at *
      generalize k - 1 = p at *
      unfold Timer.val at hbd
      clear h'
      go_wp2_with fail
      refine still_tail 10 (by kernel_rfl) (by kernel_rfl) ?_
      simp only [List.take_succ_cons, List.take_zero, List.drop_succ_cons, List.drop_zero]
      repeat still_step
      refine wpStill_nil ?_
      go_wp2_with fail
      refine hbd.mono ?_
      rintro e w1 ⟨rfl, hx⟩
      have hb1 := hb.drew.trans (Below.mono hx hb.size)
      have hstep := HST.out
      have hstop := HSP.out
      have hk := HK.out
      clear hbd hx c0 c1 c2 d0 d1 d2 HST HSP hb HK
      generalize cmpT x y = cm at *
      by_cases hcm : cm < 0
      · have hs1 := hstop hcm
        clear hstep hstop
        go_wp2_with fail
        go_ret
        exact ⟨by rw [hs1]; rfl, hb1⟩
      · have hs1 := hstep (by omega)
        clear hstep hstop
        go_wp2_with fail
        go_roundw
        case rel => exact ⟨p, p, by first | rfl | rw [hwr], .inl ⟨hpl, rfl⟩, hs1, hb1⟩
        case measure => simp [intOf]; omega
    · have hi : srtB l = true ∧ (z = 0 ∨ z = -1) := by
        rcases hc with ⟨h1, h2⟩ | ⟨h1, h2⟩
        · have : k = 0 := by omega
          subst this
          exact ⟨by simpa using hs, .inl (by omega)⟩
        · subst h1
          exact ⟨rfl, .inr h2⟩
      obtain ⟨hs1, rfl | rfl⟩ := hi
      · clear hc
        go_wp2
        go_ret
        exact ⟨by first | (rw [hs1]; rfl) | rfl, hb⟩
      · clear hc
        go_wp2
        go_ret
        exact ⟨by first | (rw [hs1]; rfl) | rfl, hb⟩
end Go.Proofs.Ytpbepmipfjcjbaa
namespace Go.Proofs.Ytpbepmipfjcjbaa
open Go.RowKit
set_option maxRecDepth 100000 in
set_option maxHeartbeats 2000000 in
theorem sorted_any (A : Option Addr) (l : List Timer) (c : Nat) (w : World) (h : TmAt w w.heap.size A l) (hl : l.length ≤ 1000000) :
    Calls Try.prog 46 #[.slice A l.length c] w fun e w' => e = .returned (.bool (srtB l)) ∧ Below w.heap.size w w' := by
  have hs := issorted_any A l c w h hl
  go_enter Try.func46, Try.ntmps46
  go_wp2_with fail
  refine hs.mono ?_
  rintro e w1 ⟨rfl, hx⟩
  go_wp2_with fail
  go_ret
  exact ⟨rfl, hx⟩
end Go.Proofs.Ytpbepmipfjcjbaa
namespace Go.Proofs.Ytpbepmipfjcjbaa
open Go.RowKit
theorem Timer.le_trans {x y z : Timer} (h : y.lt x = false) (k : z.lt y = false) : z.lt x = false := by
  have h' : ¬ y.lt x = true := by rw [h]; simp
  have k' : ¬ z.lt y = true := by rw [k]; simp
  rw [Timer.lt_iff] at h' k'
  have : ¬ z.lt x = true := by rw [Timer.lt_iff]; omega
  simpa using this
theorem Timer.lt_asymm {x y : Timer} (h : x.lt y = true) : y.lt x = false := by
  rw [Timer.lt_iff] at h
  have : ¬ y.lt x = true := by rw [Timer.lt_iff]; omega
  simpa using this
def Srt (l : List Timer) : Prop := l.Pairwise fun x y => y.lt x = false
theorem Srt.nil : Srt [] := List.Pairwise.nil
theorem srtB_iff (l : List Timer) : srtB l = true ↔ Srt l := by
  induction l with
  | nil => simp [srtB, Srt]
  | cons x l ih =>
    cases l with
    | nil => simp [srtB, Srt]
    | cons y l =>
      unfold Srt at ih ⊢
      rw [List.pairwise_cons, ← ih]
      simp only [srtB, Bool.and_eq_true, Bool.not_eq_true']
      constructor
      · intro h
        refine ⟨?_, h.2⟩
        intro z hz
        rcases List.mem_cons.1 hz with rfl | hz
        · exact h.1
        · have h2 := ih.1 h.2
          exact Timer.le_trans h.1 ((List.pairwise_cons.1 h2).1 z hz)
      · exact fun h => ⟨h.1 y (by simp), h.2⟩
theorem srtB_false (l : List Timer) : srtB l = false ↔ ¬ Srt l := by
  rw [← srtB_iff]
  simp
theorem nBefore_cons (x : Timer) (l : List Timer) (t : Timer) : nBefore (x :: l) t = nBefore l t + if x.lt t then 1 else 0 := by simp [nBefore, List.countP_cons]
theorem Srt.split {l : List Timer} (h : Srt l) (t : Timer) : (∀ x ∈ l.take (nBefore l t), x.lt t = true) ∧ (∀ x ∈ l.drop (nBefore l t), x.lt t = false) := by
  induction l with
  | nil => simp
  | cons x l ih =>
    have hx := (List.pairwise_cons.1 h).1
    have ih' := ih (List.pairwise_cons.1 h).2
    rw [nBefore_cons]
    cases e : x.lt t
    · have hall : ∀ y ∈ l, y.lt t = false := fun y hy => Timer.le_trans e (hx y hy)
      have h0 : nBefore l t = 0 := List.countP_eq_zero.2 fun y hy => by rw [hall y hy]; simp
      rw [h0]
      refine ⟨by simp, ?_⟩
      simp only [Bool.false_eq_true, if_false, Nat.add_zero, List.drop_zero]
      intro y hy
      rcases List.mem_cons.1 hy with rfl | hy
      · exact e
      · exact hall y hy
    · simp only [if_true, List.take_succ_cons, List.drop_succ_cons]
      refine ⟨?_, ih'.2⟩
      intro y hy
      rcases List.mem_cons.1 hy with rfl | hy
      · exact e
      · exact ih'.1 y hy
theorem putL_perm (l : List Timer) (t : Timer) : (putL l t).Perm (t :: l) := by
  unfold putL
  rw [List.append_assoc, List.singleton_append]
  refine List.perm_middle.trans ?_
  rw [List.take_append_drop]
theorem Srt.sub {l m : List Timer} (h : Srt l) (k : m.Sublist l) : Srt m := List.Pairwise.sublist k h
theorem Srt.put {l : List Timer} (h : Srt l) (t : Timer) : Srt (putL l t) := by
  obtain ⟨h1, h2⟩ := h.split t
  have hp := h
  rw [← List.take_append_drop (nBefore l t) l] at hp
  have hp' := List.pairwise_append.1 hp
  unfold putL Srt
  rw [List.append_assoc, List.pairwise_append]
  refine ⟨hp'.1, ?_, ?_⟩
  · rw [List.singleton_append, List.pairwise_cons]
    exact ⟨h2, hp'.2.1⟩
  · intro a ha b hb
    rcases List.mem_cons.1 hb with rfl | hb
    · exact Timer.lt_asymm (h1 a ha)
    · exact hp'.2.2 a ha b hb
theorem sortL_keep (l : List Timer) : Srt (sortL l) ∧ (sortL l).Perm l := by
  have key : ∀ (l m : List Timer), Srt m → Srt (l.foldl putL m) ∧ (l.foldl putL m).Perm (m ++ l) := by
    intro l
    induction l with
    | nil => intro m h; exact ⟨h, by simp⟩
    | cons x l ih =>
      intro m h
      obtain ⟨i1, i2⟩ := ih _ (h.put x)
      refine ⟨i1, i2.trans ?_⟩
      exact ((putL_perm m x).append_right l).trans List.perm_middle.symm
  simpa [sortL] using key l [] Srt.nil
theorem sortL_srt (l : List Timer) : Srt (sortL l) := (sortL_keep l).1
theorem sortL_perm (l : List Timer) : (sortL l).Perm l := (sortL_keep l).2
theorem Srt.unique {l m : List Timer} (h : Srt l) (k : Srt m) (p : l.Perm m) : l = m :=
  List.Perm.eq_of_pairwise (le := fun x y : Timer => y.lt x = false) (fun _ _ _ _ h1 h2 => Timer.lt_total h2 h1) h k p
theorem Srt.sort_of {l m : List Timer} (h : Srt m) (p : m.Perm l) : m = sortL l := h.unique (sortL_srt l) (p.trans (sortL_perm l).symm)
theorem Srt.sort_self {l : List Timer} (h : Srt l) : sortL l = l := (h.sort_of (List.Perm.refl _)).symm
theorem sortL_congr {l m : List Timer} (p : l.Perm m) : sortL l = sortL m := (sortL_srt l).unique (sortL_srt m) ((sortL_perm l).trans (p.trans (sortL_perm m).symm))
theorem Srt.put_sort {l : List Timer} (h : Srt l) (t : Timer) : putL l t = sortL (t :: l) := (h.put t).sort_of (putL_perm l t)
theorem merge_sortL (l : List Timer) : (l.mergeSort fun x y => !(y.lt x)) = sortL l := by
  refine Srt.sort_of ?_ (List.mergeSort_perm _ _)
  have hp := List.pairwise_mergeSort (le := fun x y : Timer => !(y.lt x)) ?_ ?_ l
  · unfold Srt
    refine hp.imp ?_
    intro a b h
    simpa using h
  · intro a b c h k
    simp only [Bool.not_eq_true'] at h k ⊢
    exact Timer.le_trans h k
  · intro a b
    cases h : b.lt a
    · rfl
    · simp [Timer.lt_asymm h]
end Go.Proofs.Ytpbepmipfjcjbaa
namespace Go.Proofs.Ytpbepmipfjcjbaa
open Go.RowKit

set_option maxRecDepth 100000 in
set_option maxHeartbeats 2000000 in
theorem rwithout_any (P : Int) (v : Value) (l : List Timer) (p : Int) (w : World) (h : LAt w v l) (hl : l.length ≤ 100000) :
    Calls Try.prog 50 #[qV P v, .int .i64 p] w fun e w' => ∃ v', e = .returned (qV P v') ∧ OwnT w' w.heap.size v' (withoutL l p) ∧ Below w.heap.size w w' := by
  obtain ⟨i0, hi, hz0, hz1, hz2⟩ := info_parts info_timer
  obtain ⟨A, c, rfl, hT, hc, hm, _⟩ := h
  unfold maxLen at hm
  have hb0 : Below w.heap.size w ((w.alloc (.cells #[.int .i64 P, .slice A l.length c] 30)).alloc (.cells #[.int .i64 0, .slice none 0 0] 30)) := ((Below.refl _ _).alloc (Nat.le_refl _) _).alloc (by simp) _
  have hq1 : Blk ((w.alloc (.cells #[.int .i64 P, .slice A l.length c] 30)).alloc (.cells #[.int .i64 0, .slice none 0 0] 30)) w.heap.size 30 #[.int .i64 P, .slice A l.length c] := (Blk.new _ _ _).alloc _
  have hq2 : Blk ((w.alloc (.cells #[.int .i64 P, .slice A l.length c] 30)).alloc (.cells #[.int .i64 0, .slice none 0 0] 30)) (w.heap.size + 1) 30 #[.int .i64 0, .slice none 0 0] := by simpa using Blk.new (w.alloc (.cells #[.int .i64 P, .slice A l.length c] 30)) 30 #[.int .i64 0, .slice none 0 0]
  unfold qV
  go_enter Try.func50, Try.ntmps50
  go_wp2
  go_loopw [5, 6] (fun v i wr => ∃ k : Nat, k ≤ l.length ∧ i = .int .i64 k ∧ OwnT wr (w.heap.size + 2) v (withoutL (l.take k) p) ∧ Blk wr w.heap.size 30 #[.int .i64 P, .slice A l.length c] ∧ Blk wr (w.heap.size + 1) 30 #[.int .i64 0, .slice none 0 0] ∧ Below w.heap.size w wr) (fun _ i _ => l.length - (intOf i).toNat)
  case atStart => exact ⟨0, Nat.zero_le _, rfl, OwnT.nil _ _, hq1, hq2, hb0⟩
  case round =>
    obtain ⟨k, hk, rfl, hown, hr1, hr2, hb⟩ := hrel
    clear hq1 hq2 hb0
    have hc1 := hr1.cell
    have hl1 := hr1.lt
    have hl2 := hr2.lt
    by_cases hlt : k < l.length
    · obtain ⟨b, o, rfl, hbb, c0, c1, c2⟩ := (hT.below hb (Nat.le_refl _)) k hlt
      have hbw : b < wr.heap.size := Nat.lt_of_lt_of_le hbb hb.size
      have hdl : (withoutL (l.take k) p).length ≤ 100000 := Nat.le_trans (List.length_filter_le _ _) (by simp; omega)
      have HS := Lib.hid (show withoutL (l.take (k + 1)) p = withoutL (l.take k) p ++ if l[k].place = p then [] else [l[k]] from by
        rw [take_snoc l k hlt]
        unfold withoutL
        rw [List.filter_append]
        congr 1
        by_cases hp : l[k].place = p <;> simp [hp])
      generalize withoutL (l.take k) p = d at *
      generalize l[k] = x at *
      by_cases hp : x.place = p
      · have hp' : (x.place != p) = false := by simp [hp]
        rw [if_pos hp] at HS
        clear hp
        go_wp2
        go_roundw
        case rel => exact ⟨k + 1, by omega, by go_num, by have := HS.out; rw [List.append_nil] at this; rw [this]; exact hown, hr1, hr2, hb⟩
        case measure => simp [intOf]; omega
      · have hp' : (x.place != p) = true := by simp [hp]
        rw [if_neg hp] at HS
        clear hp
        go_wp2_with (at_builtin; refine wpList_append_own _ rfl _ _ 28 rfl (w.heap.size + 2) 35 i0 (.agg #[.int .u64 0, .int .u64 0, .int .i64 0]) 3 24 Try.underlying28 hi hz0 hz1 hz2 rfl (by decide) _ _ _ rfl (hown.alloc _) ⟨wr.heap.size, 0, none⟩ 1 1 x.cells rfl ?c0 ?c1 ?c2 ?c3 ?c4 ?c5 ?_)
        case c0 => rfl
        case c1 => first | exact cells_new _ _ x.cells | exact fun _ _ h => h
        case c2 => intro v hv; exact one_cell [x] v (by rw [cells_one]; exact hv)
        case c3 => unfold maxLen; omega
        case c4 => omega
        case c5 => first | omega | (simp; omega)
        intro v2 w2 hown2 hgr2 _
        have hwl := hb.size
        have hb2 := below_app hb hown hgr2 hwl (by omega)
        have hX := below_app (Below.refl (w.heap.size + 2) wr) hown hgr2 (by omega) (Nat.le_refl _)
        have hr3 := Blk.below hr1 hX (by omega)
        have hr4 := Blk.below hr2 hX (by omega)
        have hown3 : OwnT w2 (w.heap.size + 2) v2 (withoutL (l.take (k + 1)) p) := by
          unfold OwnT
          rw [HS.out, List.length_append, List.flatMap_append, cells_one]
          exact hown2
        clear hgr2 hown hown2 hb c0 c1 c2 hX hr1 hr2 hc1
        go_wp2
        go_roundw
        case rel => exact ⟨k + 1, by omega, by go_num, hown3, hr3, hr4, hb2⟩
        case measure => simp [intOf]; omega
    · have ht : l.take k = l := List.take_of_length_le (by omega)
      rw [ht] at hown
      have hc2 := hr2.cell
      have hf2 := hr2.frozen
      clear ht
      obtain ⟨A5, c5, rfl, _⟩ := hown.at
      generalize hn5 : (withoutL l p).length = n5 at *
      clear hn5
      go_wp2
      refine bodyPost_ret (v := qV P (.slice A5 n5 c5)) ?_ rfl ⟨_, rfl, ?_, ?_⟩
      · simp [results, Try.results50, go_sem, qV, hc2]
      · refine OwnT.mono (ownsRow_keep hown ?_) (by omega)
        intro g hg hgo
        have hge := own_base hown g hgo
        rw [Below.heap_setCell _ _ _ _ (by simp; omega), Below.heap_setCell _ _ _ _ (by simp; omega)]
      · exact (hb.setCell (Nat.le_succ _) _).setCell (Nat.le_succ _) _
end Go.Proofs.Ytpbepmipfjcjbaa
namespace Go.Proofs.Ytpbepmipfjcjbaa
open Go.RowKit





def FI (P : Int) (A : Option Addr) (l : List Timer) (c : Nat) (t : Timer) (g1 m : Nat) : Nat → Value → World → Prop := fun k v w => match k with
  | 0 => v = .pointer (some ⟨g1, 0, none⟩)
  | 1 => v = .int .i64 P
  | 2 => v = .pointer (some ⟨g1, 1, none⟩)
  | 3 => v = .slice A l.length c
  | 4 => v = t.val
  | 5 => OwnT w m v (putL l t)
  | _ => ∃ A' n' c', v = .agg #[.int .i64 P, .slice A' n' c'] ∧ OwnT w m (.slice A' n' c') (putL l t)
theorem FI.keep (P : Int) (A : Option Addr) (l : List Timer) (c : Nat) (t : Timer) (g1 m k : Nat) (v : Value) (w w' : World) (h : FI P A l c t g1 m k v w) (r : Below w.heap.size w w') : FI P A l c t g1 m k v w' := by
  unfold FI at h ⊢
  split at h
  · exact h
  · exact h
  · exact h
  · exact h
  · exact h
  · exact h.below r (Nat.le_refl _)
  · obtain ⟨A', n', c', h1, h2⟩ := h
    exact ⟨A', n', c', h1, h2.below r (Nat.le_refl _)⟩
structure SI (P : Int) (A : Option Addr) (l : List Timer) (c : Nat) (t : Timer) (w : World) (m : Nat) (w' : World) : Prop where
  p1 : Blk w' w.heap.size 30 #[.int .i64 P, .slice A l.length c]
  p2 : Blk w' (w.heap.size + 1) 35 #[.int .u64 t.at_, .int .u64 t.seq, .int .i64 t.place]
  p3 : Blk w' (w.heap.size + 1 + 1) 30 #[.int .i64 0, .slice none 0 0]
  at_ : TmAt w' w.heap.size A l
  size : m ≤ w'.heap.size
  below : Below w.heap.size w w'
theorem SI.kept {P : Int} {A : Option Addr} {l : List Timer} {c : Nat} {t : Timer} {w : World} {m : Nat} {x y : World} (h : SI P A l c t w m x) (k : Below x.heap.size x y) : SI P A l c t w m y :=
  ⟨h.p1.below k h.p1.lt, h.p2.below k h.p2.lt, h.p3.below k h.p3.lt, h.at_.below k (by have := h.p1.lt; omega), Nat.le_trans h.size k.size, h.below.trans (Below.mono k h.below.size)⟩
/-- v' is v, or lies in a block that is new since w. -/
def FreshV (w : World) (v v' : Value) : Prop := ∀ g, blkOf v' = some g → blkOf v = some g ∨ w.heap.size ≤ g
theorem FreshV.same (w : World) (v : Value) : FreshV w v v := fun _ h => .inl h
theorem blk_own (A : Option Addr) (n c : Nat) : blkOf (.slice A n c) = (Value.slice A n c).ownBlock := by cases A <;> rfl
theorem FreshV.own {w w' : World} {m : Nat} {A : Option Addr} {n c : Nat} {l : List Timer} (h : OwnT w' m (.slice A n c) l) (hm : w.heap.size ≤ m) (v : Value) : FreshV w v (.slice A n c) := fun g hg => .inr (by
  rw [blk_own] at hg
  have := own_base h g hg
  omega)
def insC (P : Int) (l : List Timer) (t : Timer) : Int := if t.place < 0 ∨ P ≤ t.place then 1 else if (getL l t.place).isSome then 4 else 0
def insL (P : Int) (l : List Timer) (t : Timer) : List Timer := if insC P l t = 0 then putL l t else l
def qE (P : Int) (v : Value) (c : Int) : Value := .tuple #[qV P v, .int .i64 c]
theorem three_new (w : World) (a b c : Obj) : Below w.heap.size w (((w.alloc a).alloc b).alloc c) := (((Below.refl _ _).alloc (Nat.le_refl _) _).alloc (by simp) _).alloc (by simp; omega) _
theorem alloc2_at (w : World) (a : Obj) (t : TypeId) (cs : Array Value) : Blk ((w.alloc a).alloc (.cells cs t)) (w.heap.size + 1) t cs := by simpa using Blk.new (w.alloc a) t cs
theorem alloc3_at (w : World) (a b : Obj) (t : TypeId) (cs : Array Value) : Blk (((w.alloc a).alloc b).alloc (.cells cs t)) (w.heap.size + 1 + 1) t cs := by simpa using Blk.new ((w.alloc a).alloc b) t cs
set_option maxRecDepth 100000 in
set_option maxHeartbeats 2000000 in
theorem rins_bad (P : Int) (v : Value) (l : List Timer) (t : Timer) (w : World) (h : LAt w v l) (hp : t.place < 0 ∨ (¬ t.place < 0 ∧ P ≤ t.place)) :
    Calls Try.prog 30 #[qV P v, t.val] w fun e w' => e = .returned (qE P v 1) ∧ Below w.heap.size w w' := by
  obtain ⟨A, c, rfl, hT, hc, hm, _⟩ := h
  have HB := Lib.hid (three_new w)
  unfold qV Timer.val
  rcases hp with hp | ⟨hp1, hp2⟩
  · go_enter Try.func30, Try.ntmps30
    go_wp2
    refine bodyPost_ret (v := qE P (.slice A l.length c) 1) (by simp [results, Try.results30, go_sem, qE, qV]) rfl ⟨rfl, ?_⟩
    exact HB.out _ _ _
  · go_enter Try.func30, Try.ntmps30
    go_wp2
    refine bodyPost_ret (v := qE P (.slice A l.length c) 1) (by simp [results, Try.results30, go_sem, qE, qV]) rfl ⟨rfl, ?_⟩
    exact HB.out _ _ _
set_option linter.unusedSimpArgs false in
set_option maxRecDepth 100000 in
set_option maxHeartbeats 4000000 in
theorem rins_go (P : Int) (v : Value) (l : List Timer) (t : Timer) (w : World) (h : LAt w v l) (hl : l.length ≤ 100000) (hp : ¬ t.place < 0 ∧ ¬ P ≤ t.place) :
    Calls Try.prog 30 #[qV P v, t.val] w fun e w' => ∃ v', e = .returned (qE P v' (insC P l t)) ∧ LAt w' v' (insL P l t) ∧ Below w.heap.size w w' ∧ FreshV w v v' := by
  obtain ⟨hp1, hp2⟩ := hp
  have hC := Lib.hid (show insC P l t = if (getL l t.place).isSome then 4 else 0 by simp [insC, hp1, hp2])
  have hL := Lib.hid (show insL P l t = if (getL l t.place).isSome then l else putL l t by
    unfold insL
    rw [hC.out]
    cases (getL l t.place).isSome <;> simp)
  have hb0 := three_new w (.cells #[.int .i64 P, v] 30) (.cells #[.int .u64 t.at_, .int .u64 t.seq, .int .i64 t.place] 35) (.cells #[.int .i64 0, .slice none 0 0] 30)
  have q1 : Blk (((w.alloc (.cells #[.int .i64 P, v] 30)).alloc (.cells #[.int .u64 t.at_, .int .u64 t.seq, .int .i64 t.place] 35)).alloc (.cells #[.int .i64 0, .slice none 0 0] 30)) w.heap.size 30 #[.int .i64 P, v] := ((Blk.new _ _ _).alloc _).alloc _
  have q2 : Blk (((w.alloc (.cells #[.int .i64 P, v] 30)).alloc (.cells #[.int .u64 t.at_, .int .u64 t.seq, .int .i64 t.place] 35)).alloc (.cells #[.int .i64 0, .slice none 0 0] 30)) (w.heap.size + 1) 35 #[.int .u64 t.at_, .int .u64 t.seq, .int .i64 t.place] := (alloc2_at _ _ _ _).alloc _
  have q3 : Blk (((w.alloc (.cells #[.int .i64 P, v] 30)).alloc (.cells #[.int .u64 t.at_, .int .u64 t.seq, .int .i64 t.place] 35)).alloc (.cells #[.int .i64 0, .slice none 0 0] 30)) (w.heap.size + 1 + 1) 30 #[.int .i64 0, .slice none 0 0] := alloc3_at _ _ _ _ _
  have h3 := h.on hb0
  have h0 := h
  obtain ⟨A, c, rfl, hT, hc, hm, hA, _⟩ := h
  unfold maxLen at hm
  unfold qV Timer.val
  go_enter Try.func30, Try.ntmps30
  go_wp2_with fail
  have hget := rget_any P _ l t.place _ h3 hl
  unfold qV at hget
  refine hget.mono ?_
  rintro e w1 ⟨rfl, hx⟩
  have hb1 := hb0.trans (Below.mono hx hb0.size)
  have hs1 := hx.size
  have q1 := q1.below hx q1.lt
  have q2 := q2.below hx q2.lt
  have q3 := q3.below hx q3.lt
  have h1 := h3.on hx
  clear hx hget h3 hb0
  have d1 := q1.cell
  have d2 := q2.cell
  have d3 := q3.cell
  have f3 := q3.frozen
  have l1 := q1.lt
  have l2 := q2.lt
  have l3 := q3.lt
  unfold pairT Timer.val
  cases hg : getL l t.place with
  | some x =>
    rw [hg] at hC hL
    simp only [Option.isSome_some, if_true] at hC hL
    clear hg
    simp only [Option.getD_some, Option.isSome_some]
    go_wp2_with fail
    have hcR := fun o => (((q3.put 0 (.int .i64 P)).put 1 (.slice A l.length c)).alloc o).cell
    have hW : w.heap.size ≤ w.heap.size + 1 + 1 := by omega
    refine bodyPost_ret (v := qE P (.slice A l.length c) 4) ?_ rfl ⟨.slice A l.length c, by rw [hC.out], ?_, ?_, FreshV.same _ _⟩
    · simp [results, Try.results30, go_sem, qE, qV, hcR]
    · rw [hL.out]
      refine h0.on ?_
      exact ((hb1.setCell hW _).setCell hW _).alloc (by simpa using hb1.size) _
    · exact ((hb1.setCell hW _).setCell hW _).alloc (by simpa using hb1.size) _
  | none =>
    rw [hg] at hC hL
    simp only [Option.isSome_none, Bool.false_eq_true, if_false] at hC hL
    clear hg
    simp only [Option.getD_none, Option.isSome_none, Timer.zero]
    go_wp2_with fail
    have hb2 := hb1.alloc hb1.size (.cells #[.int .u64 0, .int .u64 0, .int .i64 0] 35)
    have p1 := q1.alloc (.cells #[.int .u64 0, .int .u64 0, .int .i64 0] 35)
    have p2 := q2.alloc (.cells #[.int .u64 0, .int .u64 0, .int .i64 0] 35)
    have p3 := q3.alloc (.cells #[.int .u64 0, .int .u64 0, .int .i64 0] 35)
    have hd : TmAt (w1.alloc (.cells #[.int .u64 0, .int .u64 0, .int .i64 0] 35)) w.heap.size A l := hT.below hb2 (Nat.le_refl _)
    have l4 := p3.lt
    have k0 : SI P A l c t w (w1.heap.size + 1) (w1.alloc (.cells #[.int .u64 0, .int .u64 0, .int .i64 0] 35)).drew := ⟨p1.drew, p2.drew, p3.drew, hd.drew, by simp, hb2.drew⟩
    clear q1 q2 q3 d1 d2 d3 f3 hb1 h1 hT p1 p2 p3 hd hb2
    have l5 : w.heap.size + 1 + 1 < w1.heap.size + 1 := by simpa using l4
    clear l4
    generalize w1.alloc (.cells #[.int .u64 0, .int .u64 0, .int .i64 0] 35) = w2 at *
    generalize w1.heap.size + 1 = m at *
    refine region_facts_tail 7 (fun _ => false) (FI P A l c t w.heap.size m) (SI P A l c t w m) (fun x y => Below x.heap.size x y) (List.range' 28 7 ++ []) (by kernel_rfl) (by kernel_rfl) (by kernel_rfl) (by decide) (by kernel_rfl) (by kernel_rfl) (FI.keep P A l c t w.heap.size m) (fun _ _ h k => h.kept k) (fun _ _ h => h.size) k0 ?_ ?_
    · intro fr hfr
      have f2 : fr.getD 2 undef = .pointer (some ⟨w.heap.size, 0, none⟩) := by rw [hfr]; rfl
      have f3 : fr.getD 3 undef = .pointer (some ⟨w.heap.size + 1, 0, none⟩) := by rw [hfr]; rfl
      clear hfr
      iterate 6
        refine ⟨⟨by first | exact trivial | exact ⟨rfl, fun _ _ h => h⟩, ?_⟩, ?_⟩
        · intro ρ w' hρ hd hS
          refine ⟨?_, fun h => absurd h (by decide)⟩
          simp only [DepF, Region.binds, dat, Nat.reduceLT, Nat.reduceAdd, FI, forall_const, and_true, true_and] at hd
          have hcon := hρ.con
          have e2 := (hρ.slot 2 (by kernel_rfl)).trans f2
          have e3 := (hρ.slot 3 (by kernel_rfl)).trans f3
          have hc1 := hS.p1.cell
          have hc2 := hS.p2.cell
          (try unfold Timer.val at *)
          (try rw [execOp_call_fn _ _ _ _ _ _ _ _ _ (hρ.fn _)])
          go_simp
          (try simp only [Nat.reduceAdd, Good, FI])
          first
            | exact ⟨trivial, Below.refl _ _⟩
            | exact ⟨rfl, Below.refl _ _⟩
              | (go_at_call 37; have hput := put_any A l c t w' (hS.at_.mono (by have := hS.below.size; omega)) hl ⟨hc, by omega⟩ hA; unfold Timer.val at hput; refine hput.mono ?_; rintro e w'' ⟨v', rfl, hown, hk⟩; exact ⟨v', rfl, hown.mono hS.size, hk⟩)
      refine ⟨⟨trivial, ?_⟩, ?_⟩
      · intro ρ w' hρ hd hS
        refine ⟨?_, fun h => absurd h (by decide)⟩
        simp only [DepF, Region.binds, dat, Nat.reduceLT, Nat.reduceAdd, FI, forall_const, and_true, true_and] at hd
        obtain ⟨hd1, hd2⟩ := hd
        obtain ⟨A5, c5, hv5, _⟩ := OwnT.at hd2
        rw [hv5] at hd2
        go_simp
        simp only [Nat.reduceAdd, Good, FI]
        exact ⟨⟨A5, _, c5, rfl, hd2⟩, Below.refl _ _⟩
      trivial
    · intro vs w3 hs hF _
      obtain ⟨A3, n3, c3, h6, hown⟩ : ∃ A' n' c', vs 6 = .agg #[.int .i64 P, .slice A' n' c'] ∧ OwnT w3 m (.slice A' n' c') (putL l t) := hF 6 (by decide)
      clear hF
      simp only [List.range'_succ, List.range'_zero, List.cons_append, List.nil_append, List.append_nil, setAll, List.setIfInBounds_toArray, List.set_cons_zero, List.set_cons_succ, Nat.reduceAdd]
      rw [h6]
      clear h6 k0
      have r3 := hs.p3
      have hb3 := hs.below
      have e3 := r3.cell
      have e4 := r3.frozen
      simp only [List.drop_succ_cons, List.drop_zero]
      go_wp2_with fail
      have hcR := ((r3.put 0 (.int .i64 P)).put 1 (.slice A3 n3 c3)).cell
      have hW : w.heap.size ≤ w.heap.size + 1 + 1 := by omega
      refine bodyPost_ret (v := qE P (.slice A3 n3 c3) 0) ?_ rfl ⟨.slice A3 n3 c3, by rw [hC.out], ?_, (hb3.setCell hW _).setCell hW _, FreshV.own hown (by omega) _⟩
      · simp [results, Try.results30, go_sem, qE, qV, hcR]
      · rw [hL.out]
        have hg : ∀ g, g < w3.heap.size → (Value.slice A3 n3 c3).ownBlock = some g → ((w3.setCell ⟨w.heap.size + 1 + 1, 0, none⟩ (.int .i64 P)).setCell ⟨w.heap.size + 1 + 1, 1, none⟩ (.slice A3 n3 c3)).heap[g]? = w3.heap[g]? := by
          intro g hg hgo
          have hge := own_base hown g hgo
          rw [Below.heap_setCell _ _ _ _ (by simp; omega), Below.heap_setCell _ _ _ _ (by simp; omega)]
        exact OwnT.lat (ownsRow_keep hown hg)
end Go.Proofs.Ytpbepmipfjcjbaa
