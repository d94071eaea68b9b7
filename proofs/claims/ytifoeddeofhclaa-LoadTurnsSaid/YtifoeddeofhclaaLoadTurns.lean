/- Layer 14 (load): the law LoadTurns: in whatever order notes come, a window of them has the same tally. -/
import Derived.Test.YtifoeddeofhclaaLoadPlays
import Derived.Deep.DeepCutAuto
namespace Go.Proofs.Ytifoeddeofhclaa
open Go.RowKit
theorem total_perm {l m : List Note} (h : l.Perm m) (k : Int) : total l k = total m k := by
  unfold total
  induction h with
  | nil => rfl
  | cons x _ ih => simp only [List.map_cons, List.sum_cons, ih]
  | swap x y l => simp only [List.map_cons, List.sum_cons]; omega
  | trans _ _ ih1 ih2 => rw [ih1, ih2]
theorem most_perm {l m : List Note} (h : l.Perm m) : mostOf l = mostOf m := by
  unfold mostOf
  suffices H : ∀ a : Int, l.foldl (fun m x => if m < x.len then x.len else m) a = m.foldl (fun m x => if m < x.len then x.len else m) a from H 0
  induction h with
  | nil => intro a; rfl
  | cons x _ ih => intro a; simp only [List.foldl_cons]; exact ih _
  | swap x y l =>
    intro a
    simp only [List.foldl_cons]
    congr 1
    (repeat' split) <;> omega
  | trans _ _ ih1 ih2 => intro a; rw [ih1, ih2]
theorem swap_perm {α : Type} (m : List α) (j k : Nat) (hj : j < m.length) (hk : k < m.length) : ((m.set j m[k]).set k m[j]).Perm m := by
  exact List.set_set_perm hj hk
theorem window_of (m : List Note) (hg : ∀ x ∈ m, x.good) (hl : m.length = 32) : (LS.after m).l0 = total m 0 ∧ (LS.after m).l1 = total m 1 ∧ (LS.after m).l2 = total m 2 ∧ (LS.after m).l3 = total m 3 ∧ (LS.after m).l4 = mostOf m ∧ (LS.after m).windows = 1 := by
  have I := inv_after m
  have hm : goods m = m := by
    unfold goods
    rw [List.filter_eq_self]
    intro x hx
    simpa using hg x hx
  rw [hm] at I
  have hlo : lastOf m = m := by
    unfold lastOf
    rw [hl]
    exact List.take_of_length_le (by simp; omega)
  have h32 : ¬ m.length < 32 := by omega
  refine ⟨?_, ?_, ?_, ?_, ?_, ?_⟩
  · rw [I.l0]; unfold ltot; rw [if_neg h32, hlo]
  · rw [I.l1]; unfold ltot; rw [if_neg h32, hlo]
  · rw [I.l2]; unfold ltot; rw [if_neg h32, hlo]
  · rw [I.l3]; unfold ltot; rw [if_neg h32, hlo]
  · rw [I.l4]; unfold lmost; rw [if_neg h32, hlo]
  · rw [I.windows, hl]; rfl
/-- The cells cur begin with the notes m. -/
def CurIs (cur : Array Value) (m : List Note) : Prop := ∀ i (_ : i < m.length), cur[i * 3]? = some (.int .i64 m[i].what) ∧ cur[i * 3 + 1]? = some (.int .i64 m[i].n) ∧ cur[i * 3 + 2]? = some (.int .i64 m[i].len)
def put3 (cur : Array Value) (j : Nat) (x : Note) : Array Value := ((cur.setIfInBounds (j * 3) (.int .i64 x.what)).setIfInBounds (j * 3 + 1) (.int .i64 x.n)).setIfInBounds (j * 3 + 2) (.int .i64 x.len)
theorem CurIs.set {cur : Array Value} {m : List Note} (h : CurIs cur m) (j : Nat) (x : Note) : CurIs (put3 cur j x) (m.set j x) := by
  intro i hi
  simp only [List.length_set] at hi
  obtain ⟨c0, c1, c2⟩ := h i hi
  have hs : i * 3 + 2 < cur.size := by
    rcases Nat.lt_or_ge (i * 3 + 2) cur.size with hlt | hge
    · exact hlt
    · rw [Array.getElem?_eq_none hge] at c2; cases c2
  unfold put3
  by_cases hij : j = i
  · subst hij
    have e : (m.set j x)[j]'(by simpa using hi) = x := List.getElem_set_self _
    rw [e]
    simp only [Array.getElem?_setIfInBounds, Array.size_setIfInBounds]
    refine ⟨?_, ?_, ?_⟩ <;> (repeat' split) <;> (first | rfl | omega | simp_all)
  · rw [List.getElem_set_ne hij]
    simp only [Array.getElem?_setIfInBounds, Array.size_setIfInBounds]
    refine ⟨?_, ?_, ?_⟩ <;> (repeat' split) <;> (first | assumption | omega)
theorem CurIs.notes {w : World} {g : Nat} {t : TypeId} {cur : Array Value} {m : List Note} (hb : Blk w g t cur) (h : CurIs cur m) : NotesAt w w.heap.size (some ⟨g, 0, none⟩) m := by
  intro i hi
  obtain ⟨c0, c1, c2⟩ := h i hi
  refine ⟨g, 0, rfl, hb.lt, ?_, ?_, ?_⟩
  · rw [Nat.zero_add, hb.cell]; exact c0
  · rw [Nat.zero_add, hb.cell]; exact c1
  · rw [Nat.zero_add, hb.cell]; exact c2
theorem put3_blk {w : World} {g : Nat} {t : TypeId} {cur : Array Value} (h : Blk w g t cur) (j : Nat) (x : Note) :
    Blk (((w.setCell ⟨g, j * 3, none⟩ (.int .i64 x.what)).setCell ⟨g, j * 3 + 1, none⟩ (.int .i64 x.n)).setCell ⟨g, j * 3 + 2, none⟩ (.int .i64 x.len)) g t (put3 cur j x) :=
  ((h.put _ _).put _ _).put _ _
theorem flat_idx : ∀ (m : List Note) (i : Nat) (hi : i < m.length) (j : Nat), j < 3 → (m.flatMap Note.cells)[i * 3 + j]? = m[i].cells[j]? := by
  intro m
  induction m with
  | nil => intro i hi; simp at hi
  | cons x m ih =>
    intro i hi j hj
    cases i with
    | zero =>
      have hx : x.cells.length = 3 := rfl
      simp only [List.flatMap_cons]
      rw [List.getElem?_append_left (by omega)]
      simp
    | succ i =>
      have hx : x.cells.length = 3 := rfl
      simp only [List.flatMap_cons, List.getElem_cons_succ]
      rw [List.getElem?_append_right (by omega), hx, ← ih i (by simpa using hi) j hj]
      congr 1
      omega
theorem flat_len (m : List Note) : (m.flatMap Note.cells).length = m.length * 3 := by
  induction m with
  | nil => rfl
  | cons x m ih => simp only [List.flatMap_cons, List.length_append, List.length_cons, ih]; have : x.cells.length = 3 := rfl; omega
theorem notes_cells {w : World} {B b o : Nat} {l : List Note} (h : NotesAt w B (some ⟨b, o, none⟩) l) : ∀ j u, (l.flatMap Note.cells)[j]? = some u → w.cell? ((⟨b, o, none⟩ : Addr).add j) = some u := by
  intro j u hj
  have hjl : j < l.length * 3 := by
    rw [← flat_len]
    exact (List.getElem?_eq_some_iff.1 hj).1
  have hi : j / 3 < l.length := by omega
  obtain ⟨b', o', e, _, c0, c1, c2⟩ := h (j / 3) hi
  simp only [Option.some.injEq, Addr.mk.injEq, and_true] at e
  obtain ⟨rfl, rfl⟩ := e
  have ea : (⟨b, o, none⟩ : Addr).add j = ⟨b, o + j, none⟩ := by unfold Addr.add; split <;> simp_all
  rw [ea]
  have hr : j % 3 = 0 ∨ j % 3 = 1 ∨ j % 3 = 2 := by omega
  have hjj := flat_idx l (j / 3) hi (j % 3) (by omega)
  rw [show j / 3 * 3 + j % 3 = j from by omega, hj] at hjj
  rcases hr with hr | hr | hr
  · rw [hr] at hjj
    rw [show o + j = o + j / 3 * 3 from by omega, c0, hjj]; rfl
  · rw [hr] at hjj
    rw [show o + j = o + j / 3 * 3 + 1 from by omega, c1, hjj]; rfl
  · rw [hr] at hjj
    rw [show o + j = o + j / 3 * 3 + 2 from by omega, c2, hjj]; rfl
theorem own_cur {w : World} {base n : Nat} {v : Value} {l : List Note} (h : w.ownsRow base 29 3 v n (l.flatMap Note.cells)) (hn : n = l.length) (h0 : 0 < n) :
    ∃ g cap cur, v = .slice (some ⟨g, 0, none⟩) n cap ∧ Blk w g 29 cur ∧ CurIs cur l ∧ base ≤ g ∧ n ≤ cap := by
  rcases h.2 with ⟨rfl, hl⟩ | ⟨g, cap, cur, rfl, hg, hh, hc, hm, hs, ht⟩
  · omega
  · refine ⟨g, cap, cur, rfl, hh, ?_, hg, hc⟩
    intro i hi
    have hcell : ∀ (j : Nat) (u : Value), (l.flatMap Note.cells)[j]? = some u → cur[j]? = some u := by
      intro j u hu
      rw [← ht, List.getElem?_take] at hu
      split at hu
      · simpa using hu
      · cases hu
    refine ⟨?_, ?_, ?_⟩
    · have := hcell (i * 3 + 0) _ (by rw [flat_idx l i hi 0 (by omega)]; rfl)
      simpa using this
    · exact hcell (i * 3 + 1) _ (by rw [flat_idx l i hi 1 (by omega)]; rfl)
    · exact hcell (i * 3 + 2) _ (by rw [flat_idx l i hi 2 (by omega)]; rfl)
/-- The bytes at A. -/
def BytesAt (w : World) (B : Nat) (A : Option Addr) (l : List Int) : Prop := ∀ i (h : i < l.length), ∃ b o, A = some ⟨b, o, none⟩ ∧ b < B ∧ w.cell? ⟨b, o + i, none⟩ = some (.int .u8 l[i]) ∧ 0 ≤ l[i] ∧ l[i] ≤ 255
theorem BytesAt.below {w w' : World} {B : Nat} {A : Option Addr} {l : List Int} (h : BytesAt w B A l) (hk : Below B w w') : BytesAt w' B A l := by
  intro i hi
  obtain ⟨b, o, rfl, hb, c0, c⟩ := h i hi
  exact ⟨b, o, rfl, hb, (hk.cell (p := ⟨b, o + i, none⟩) hb).trans c0, c⟩
theorem info_note' : (Try.prog.info? 29).map (fun i => (i.zero, i.size, i.bytes)) = some (some (.agg #[.int .i64 0, .int .i64 0, .int .i64 0]), 3, 24) := by kernel_rfl
set_option maxHeartbeats 4000000 in
set_option maxRecDepth 100000 in
theorem turns_walk (A : Option Addr) (l : List Note) (cap : Nat) (A2 : Option Addr) (u : List Int) (cap2 : Nat) (w : World) (h : NotesIn w A l cap) (hu : BytesAt w w.heap.size A2 u) (hu1 : u.length ≤ 9223372036854775807) :
    Calls Try.prog 5 #[.slice A l.length cap, .slice A2 u.length cap2] w fun e w' => e = .returned (.bool true) ∧ Below w.heap.size w w' := by
  obtain ⟨hN, hc, hc1, hr⟩ := h
  obtain ⟨i0, hi, hz0, hz1, hz2⟩ := info_parts info_note'
  go_enter Try.func5, Try.ntmps5
  go_wp2_with fail
  refine (works w).mono ?_
  rintro e w1 ⟨rfl, hb1⟩
  go_wp2_with fail
  refine (f11 A l cap w1 ((hN.below hb1).mono hb1.size) hr).mono ?_
  rintro e w2 ⟨v, rfl, hown, hb2⟩
  obtain ⟨A', cap', rfl, hN2, hc5, hc6, hn5⟩ := own_notes hown rfl
  have hb3 := hb1.trans (hb2.mono hb1.size)
  have hgl := goods_len l
  have hgg := goods_good l
  clear hown hb1 hb2
  by_cases q1 : 100 < l.length
  · go_wp2_with fail
    go_ret
    exact ⟨rfl, hb3⟩
  · by_cases q2 : (goods l).length < 32
    · go_wp2_with fail
      go_ret
      exact ⟨rfl, hb3⟩
    · by_cases q3 : 100 < u.length
      · go_wp2_with fail
        go_ret
        exact ⟨rfl, hb3⟩
      · generalize goods l = g at *
        have hg32 : (g.take 32).length = 32 := by simp; omega
        have hgood : Hid (∀ x ∈ g.take 32, x.good) := fun x hx => hgg.out x (List.mem_of_mem_take hx)
        have hN3 := hN2.take 32
        obtain ⟨b0, o0, rfl, hbb, _, _, _⟩ := hN2 0 (by omega)
        have hHg := Lib.hid hg32
        clear hg32 hgl hgg
        have hz2' := hb3.size
        have hown0 : (w2.alloc (.cells #[] 29)).ownsRow w2.heap.size 29 3 (.slice (some ⟨w2.heap.size, 0, none⟩) 0 0) 0 [] :=
          ⟨rfl, .inr ⟨w2.heap.size, 0, #[], rfl, Nat.le_refl _, heap_alloc_new _ _, Nat.le_refl _, by simp [maxLen], rfl, rfl⟩⟩
        go_wp2_with (at_builtin; refine wpList_append_own _ rfl _ _ 22 rfl w2.heap.size 29 i0 (.agg #[.int .i64 0, .int .i64 0, .int .i64 0]) 3 24 Try.underlying22 hi hz0 hz1 hz2 rfl (by decide) _ 0 [] rfl hown0 ⟨b0, o0, none⟩ 32 cap' ((g.take 32).flatMap Note.cells) rfl ?c0 ?c1 ?c2 ?c3 ?c4 ?c5 ?_)
        case c0 => rw [flat_len, hHg.out]
        case c1 => exact notes_cells (hN3.alloc (Nat.le_refl _) _)
        case c2 =>
          intro v hv
          obtain ⟨y, _, hy⟩ := List.mem_flatMap.1 hv
          simp only [Note.cells, List.mem_cons, List.not_mem_nil, or_false] at hy
          rcases hy with rfl | rfl | rfl <;> rfl
        case c3 => simp [maxLen]
        case c4 => omega
        case c5 => simp
        intro v' w3 hown3 hg3 _
        obtain ⟨g2, cap3, cur, rfl, hB3, hC3, hgb, hcp⟩ := own_cur hown3 (by rw [hHg.out]) (by omega)
        have hb4 : Below w.heap.size w w3 := (hb3.alloc hb3.size _).grown hg3 (by simp; omega) (fun k hk => by have := own_base hown0 k hk; omega)
        have hN4 : NotesAt w3 w2.heap.size (some ⟨b0, o0, none⟩) (g.take 32) := (hN3.alloc (Nat.le_refl _) _).keep (fun b o hb => World.cell?_of_block (hg3.block b (by simp; omega) (fun e => by have := own_base hown0 b e.symm; omega)))
        clear hown3 hg3 hown0 hN2 hN3
        have hgz : w.heap.size ≤ g2 := by omega
        have hbg : b0 < g2 := by omega
        generalize w2.heap.size = B2 at *
        clear hb3
        go_wp2_with fail
        go_loopw [8, 9, 10, 11] (fun i _ _ _ wr => ∃ (k : Nat) (m : List Note) (cur : Array Value), k ≤ u.length ∧ i = .int .i64 k ∧ m.Perm (g.take 32) ∧ Blk wr g2 29 cur ∧ CurIs cur m ∧ NotesAt wr B2 (some ⟨b0, o0, none⟩) (g.take 32) ∧ Below w.heap.size w wr) (fun i _ _ _ _ => u.length - (intOf i).toNat)
        case atStart => exact ⟨0, _, _, Nat.zero_le _, rfl, List.Perm.refl _, hB3, hC3, hN4, hb4⟩
        case round =>
          obtain ⟨k, m, cur, hk, rfl, hperm, hB, hC, hNr, hb⟩ := hrel
          clear hB3 hC3 hN4 hb4
          have hml : m.length = 32 := by rw [hperm.length_eq, hHg.out]
          have hML := Lib.hid hml
          have hPERM := Lib.hid hperm
          clear hml hperm
          by_cases hlt : k < u.length
          · obtain ⟨bb, oo, rfl, hbbb, hcu, hu0, hu9⟩ := (hu.below hb) k hlt
            generalize u[k] = z at *
            obtain ⟨c, rfl⟩ := Int.eq_ofNat_of_zero_le hu0
            obtain ⟨j0, j1, j2⟩ := hC (c % 32) (by rw [hML.out]; omega)
            obtain ⟨k0, k1, k2⟩ := hC (k % 32) (by rw [hML.out]; omega)
            have hjm : c % 32 < m.length := by rw [hML.out]; omega
            have hkm : k % 32 < m.length := by rw [hML.out]; omega
            have hsw := Lib.hid (swap_perm m (c % 32) (k % 32) hjm hkm)
            generalize m[c % 32]'hjm = X at *
            generalize m[k % 32]'hkm = Y at *
            have hz := hB.frozen
            have hgs := hB.lt
            rw [← hB.cell] at j0 j1 j2 k0 k1 k2
            go_upto_region 14 with (fail)
            have hB5 := put3_blk hB (c % 32) Y
            have hC5 := hC.set (c % 32) Y
            have hb5 : Below w.heap.size w (((wr.setCell ⟨g2, c % 32 * 3, none⟩ (.int .i64 Y.what)).setCell ⟨g2, c % 32 * 3 + 1, none⟩ (.int .i64 Y.n)).setCell ⟨g2, c % 32 * 3 + 2, none⟩ (.int .i64 Y.len)) := ((hb.setCell (by simp; omega) _).setCell (by simp; omega) _).setCell (by simp; omega) _
            have hN5 : NotesAt (((wr.setCell ⟨g2, c % 32 * 3, none⟩ (.int .i64 Y.what)).setCell ⟨g2, c % 32 * 3 + 1, none⟩ (.int .i64 Y.n)).setCell ⟨g2, c % 32 * 3 + 2, none⟩ (.int .i64 Y.len)) B2 (some ⟨b0, o0, none⟩) (g.take 32) := hNr.below ((((Below.refl B2 wr).setCell (by simp; omega) _).setCell (by simp; omega) _).setCell (by simp; omega) _)
            have hs5 : ((((wr.setCell ⟨g2, c % 32 * 3, none⟩ (.int .i64 Y.what)).setCell ⟨g2, c % 32 * 3 + 1, none⟩ (.int .i64 Y.n)).setCell ⟨g2, c % 32 * 3 + 2, none⟩ (.int .i64 Y.len))).heap.size = wr.heap.size := by simp [World.setCell]
            clear j0 j1 j2 k0 k1 k2 hz hcu hb hB hC hNr
            generalize (((wr.setCell ⟨g2, c % 32 * 3, none⟩ (.int .i64 Y.what)).setCell ⟨g2, c % 32 * 3 + 1, none⟩ (.int .i64 Y.n)).setCell ⟨g2, c % 32 * 3 + 2, none⟩ (.int .i64 Y.len)) = w5 at *
            have hK6 := Blk.new w5 29 #[.int .i64 X.what, .int .i64 X.n, .int .i64 X.len]
            have hB6 := hB5.alloc (.cells #[.int .i64 X.what, .int .i64 X.n, .int .i64 X.len] 29)
            have hN6 : NotesAt (w5.alloc (.cells #[.int .i64 X.what, .int .i64 X.n, .int .i64 X.len] 29)) B2 (some ⟨b0, o0, none⟩) (g.take 32) := hN5.below ((Below.refl B2 w5).alloc (by omega) _)
            have hb6 := hb5.alloc (by have := hB5.lt; omega) (.cells #[.int .i64 X.what, .int .i64 X.n, .int .i64 X.len] 29)
            rw [hs5] at hK6
            clear hs5 hB5 hN5 hb5
            generalize (w5.alloc (.cells #[.int .i64 X.what, .int .i64 X.n, .int .i64 X.len] 29)) = w6 at *
            generalize wr.heap.size = nb at *
            obtain ⟨k0, k1, k2⟩ := hC5 (k % 32) (by simp; rw [hML.out]; omega)
            rw [← hB6.cell] at k0 k1 k2
            have hKc := hK6.cell
            have hz := hB6.frozen
            go_wp2_with fail
            go_roundw
            case rel =>
              refine ⟨k + 1, _, _, by omega, by go_num, ?_, put3_blk hB6 (k % 32) X, hC5.set (k % 32) X, ?_, ?_⟩
              · exact hsw.out.trans hPERM.out
              · exact hN6.below ((((Below.refl B2 w6).setCell (by simp; omega) _).setCell (by simp; omega) _).setCell (by simp; omega) _)
              · exact ((hb6.setCell (by simp; omega) _).setCell (by simp; omega) _).setCell (by simp; omega) _
            case measure => simp [intOf]; omega
          · have hml : ∀ x ∈ m, x.good := fun x hx => hgood.out x ((hPERM.out.mem_iff).1 hx)
            have hMG := Lib.hid hml
            clear hml
            have hgl2 := hB.lt
            go_wp2_with fail
            refine (new_any wr).mono ?_
            rintro e w5 ⟨rfl, hL5, g5, z5⟩
            have hB5 := hB.chg g5 (fun h => h)
            have hb5 : Below w.heap.size w w5 := hb.trans (Chg.to_below (g5.mono (fun _ _ h => h.elim) (S' := fun k => w.heap.size ≤ k)) hb.size)
            have hN5 := hNr.below (Chg.to_below (g5.mono (fun _ _ h => h.elim) (S' := fun k => B2 ≤ k)) (by omega))
            clear hB hb hNr g5
            have hz5 := Lib.hid z5
            clear z5
            generalize hx1 : wr.heap.size = bx at *
            have hx1' := Lib.hid hx1
            clear hx1
            go_wp2_with fail
            refine (new_any w5).mono ?_
            rintro e w6 ⟨rfl, hL6, g6, z6⟩
            have hlx := hL5.lt
            have hL5' := Blk.chg hL5 g6 (fun h => h)
            have hB6 := hB5.chg g6 (fun h => h)
            have hb6 : Below w.heap.size w w6 := hb5.trans (Chg.to_below (g6.mono (fun _ _ h => h.elim) (S' := fun k => w.heap.size ≤ k)) hb5.size)
            have hN6 := hN5.below (Chg.to_below (g6.mono (fun _ _ h => h.elim) (S' := fun k => B2 ≤ k)) (by omega))
            clear hB5 hb5 hN5 g6 z6 hL5
            generalize hy1 : w5.heap.size = byy at *
            have hy1' := Lib.hid hy1
            clear hy1
            go_wp2_with fail
            go_loopw [14, 15, 16] (fun i _ _ wr => ∃ k : Nat, k ≤ 32 ∧ i = .int .i64 k ∧ LoadAt wr bx (LS.after ((g.take 32).take k)) ∧ LoadAt wr byy (LS.after (m.take k)) ∧ Blk wr g2 29 cur ∧ NotesAt wr B2 (some ⟨b0, o0, none⟩) (g.take 32) ∧ Below w.heap.size w wr) (fun i _ _ _ => 32 - (intOf i).toNat)
            case atStart => exact ⟨0, by omega, rfl, hL5', hL6, hB6, hN6, hb6⟩
            case round =>
              obtain ⟨q, hq, rfl, hX, hY, hB, hNr, hb⟩ := hrel
              clear hL5' hL6 hB6 hN6 hb6
              by_cases hlt2 : q < 32
              · obtain ⟨bb0, oo0, e0, _, x0, x1, x2⟩ := hNr q (by rw [hHg.out]; omega)
                simp only [Option.some.injEq, Addr.mk.injEq, and_true] at e0
                obtain ⟨rfl, rfl⟩ := e0
                obtain ⟨y0, y1, y2⟩ := hC q (by rw [hML.out]; omega)
                have hYc := Lib.hid (And.intro y0 (And.intro y1 y2))
                clear y0 y1 y2
                have hs1 := after_take (g.take 32) q (by rw [hHg.out]; omega)
                have hs2 := after_take m q (by rw [hML.out]; omega)
                have hw1 := ((g.take 32)[q]'(by rw [hHg.out]; omega)).wrong_good.2 (hgood.out _ (List.getElem_mem _))
                have hw2 := (m[q]'(by rw [hML.out]; omega)).wrong_good.2 (hMG.out _ (List.getElem_mem _))
                have ok1 : (LS.after ((g.take 32).take q)).Ok 1000000 := (after_ok _).mono (by simp; omega)
                have ok2 : (LS.after (m.take q)).Ok 1000000 := (after_ok _).mono (by simp; omega)
                generalize (g.take 32)[q]'(by rw [hHg.out]; omega) = X at *
                generalize m[q]'(by rw [hML.out]; omega) = Y at *
                generalize LS.after ((g.take 32).take q) = S at *
                generalize LS.after (m.take q) = T at *
                have HS1 := Lib.hid hs1
                have HS2 := Lib.hid hs2
                have HW1 := Lib.hid hw1
                have HW2 := Lib.hid hw2
                clear hs1 hs2 hw1 hw2
                have hbx2 := hB.lt
                have hqg : q < g.length := by omega
                go_wp2_with fail
                refine still_tail 16 (by kernel_rfl) (by kernel_rfl) ?_
                simp only [List.take_succ_cons, List.take_zero, List.drop_succ_cons, List.drop_zero]
                repeat still_step
                refine wpStill_nil ?_
                go_wp2_with fail
                refine (note_any bx S X wr.drew hX.drew ok1).mono ?_
                rw [HW1.out]
                rintro e w7 ⟨rfl, hX7, g7⟩
                have hne : bx ≠ byy := by omega
                have hY7 := Blk.chg hY.drew g7 (by omega)
                have hB7 := hB.drew.chg g7 (by omega)
                have hN7 := hNr.below (w' := w7) (((Below.refl B2 wr).drew).trans (Chg.to_below (g7.mono (fun _ _ h => by omega) (S' := fun k => B2 ≤ k)) (by simp; omega)))
                have hb7 : Below w.heap.size w w7 := hb.drew.trans (Chg.to_below (g7.mono (fun _ _ h => by omega) (S' := fun k => w.heap.size ≤ k)) (by simp; omega))
                clear hX hY hB hNr hb g7 x0 x1 x2
                obtain ⟨y0, y1, y2⟩ : w7.cell? ⟨g2, q * 3, none⟩ = some (.int .i64 Y.what) ∧ w7.cell? ⟨g2, q * 3 + 1, none⟩ = some (.int .i64 Y.n) ∧ w7.cell? ⟨g2, q * 3 + 2, none⟩ = some (.int .i64 Y.len) := by
                  rw [hB7.cell, hB7.cell, hB7.cell]; exact hYc.out
                go_wp2_with fail
                refine still_tail 16 (by kernel_rfl) (by kernel_rfl) ?_
                simp only [List.take_succ_cons, List.take_zero, List.drop_succ_cons, List.drop_zero]
                repeat still_step
                refine wpStill_nil ?_
                go_wp2_with fail
                refine (note_any byy T Y w7.drew hY7.drew ok2).mono ?_
                rw [HW2.out]
                rintro e w8 ⟨rfl, hY8, g8⟩
                have hX8 := Blk.chg hX7.drew g8 (by omega)
                have hB8 := hB7.drew.chg g8 (by omega)
                have hN8 := hN7.below (w' := w8) (((Below.refl B2 w7).drew).trans (Chg.to_below (g8.mono (fun _ _ h => by omega) (S' := fun k => B2 ≤ k)) (by have := hB7.lt; simp; omega)))
                have hb8 : Below w.heap.size w w8 := hb7.drew.trans (Chg.to_below (g8.mono (fun _ _ h => by omega) (S' := fun k => w.heap.size ≤ k)) (by have := hB7.lt; simp; omega))
                clear hX7 hY7 hB7 hN7 hb7 g8 y0 y1 y2
                go_wp2_with fail
                go_roundw
                case rel => exact ⟨q + 1, by omega, by go_num, by rw [HS1.out]; exact hX8, by rw [HS2.out]; exact hY8, hB8, hN8, hb8⟩
                case measure => simp [intOf]; omega
              · have t1 : (g.take 32).take q = g.take 32 := List.take_of_length_le (by rw [hHg.out]; omega)
                have t2 : m.take q = m := List.take_of_length_le (by rw [hML.out]; omega)
                rw [t1] at hX
                rw [t2] at hY
                clear t1 t2
                obtain ⟨a0, a1, a2, a3, a4, a5⟩ := window_of (g.take 32) hgood.out hHg.out
                obtain ⟨c0, c1, c2, c3, c4, c5⟩ := window_of m hMG.out hML.out
                rw [total_perm hPERM.out] at c0 c1 c2 c3
                rw [most_perm hPERM.out] at c4
                generalize LS.after (g.take 32) = S at *
                generalize LS.after m = T at *
                generalize total (g.take 32) 0 = s0 at *
                generalize total (g.take 32) 1 = s1 at *
                generalize total (g.take 32) 2 = s2 at *
                generalize total (g.take 32) 3 = s3 at *
                generalize mostOf (g.take 32) = s4 at *
                have A0 := Lib.hid a0; have A1 := Lib.hid a1; have A2' := Lib.hid a2; have A3 := Lib.hid a3; have A4 := Lib.hid a4; have A5 := Lib.hid a5
                have C0 := Lib.hid c0; have C1 := Lib.hid c1; have C2 := Lib.hid c2; have C3 := Lib.hid c3; have C4 := Lib.hid c4; have C5 := Lib.hid c5
                clear a0 a1 a2 a3 a4 a5 c0 c1 c2 c3 c4 c5 hNr
                have hxl := hX.lt
                have hyl := hY.lt
                go_wp2_with fail
                refine (last_any bx S wr hX).mono ?_
                rw [A0.out, A1.out, A2'.out, A3.out, A4.out, A5.out]
                rintro e w7 ⟨rfl, hb7⟩
                have hY7 := hY.below hb7 hY.lt
                have hb8 := hb.trans (hb7.mono hb.size)
                clear hX hY hb hb7 hB
                go_wp2_with fail
                have hK7 := Blk.new w7 33 #[.int .i64 s0, .int .i64 s1, .int .i64 s2, .int .i64 s3, .int .i64 s4]
                have hY8 := hY7.alloc (.cells #[.int .i64 s0, .int .i64 s1, .int .i64 s2, .int .i64 s3, .int .i64 s4] 33)
                have hb9 := hb8.alloc hb8.size (.cells #[.int .i64 s0, .int .i64 s1, .int .i64 s2, .int .i64 s3, .int .i64 s4] 33)
                clear hY7 hb8
                generalize (w7.alloc (.cells #[.int .i64 s0, .int .i64 s1, .int .i64 s2, .int .i64 s3, .int .i64 s4] 33)) = w8 at *
                generalize w7.heap.size = n1 at *
                refine (last_any byy T w8 hY8).mono ?_
                rw [C0.out, C1.out, C2.out, C3.out, C4.out, C5.out]
                rintro e w9 ⟨rfl, hba⟩
                have hK9 := hK7.below hba hK7.lt
                have hbb' := hb9.trans (hba.mono hb9.size)
                clear hK7 hY8 hb9 hba
                have hK9c := hK9.cell
                have hK9l := hK9.lt
                go_wp2_with fail
                go_ret
                exact ⟨rfl, hbb'.alloc hbb'.size _⟩
end Go.Proofs.Ytifoeddeofhclaa
