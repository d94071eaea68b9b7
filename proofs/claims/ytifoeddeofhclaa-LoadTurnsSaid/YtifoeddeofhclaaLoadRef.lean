/- The document's answer for layer 14, walked: what each function of the reference computes, as a plain function over lists. -/
import Derived.Test.YtifoeddeofhclaaLib
namespace Go.Proofs.Ytifoeddeofhclaa
open Go.RowKit

structure Note where
  what : Int
  n : Int
  len : Int
def Note.cells (x : Note) : List Value := [.int .i64 x.what, .int .i64 x.n, .int .i64 x.len]

/-- The slice at A holds the notes l, below block B. -/
def NotesAt (w : World) (B : Nat) (A : Option Addr) (l : List Note) : Prop :=
  ∀ i (h : i < l.length), ∃ b o, A = some ⟨b, o, none⟩ ∧ b < B ∧
    w.cell? ⟨b, o + i * 3, none⟩ = some (.int .i64 l[i].what) ∧ w.cell? ⟨b, o + i * 3 + 1, none⟩ = some (.int .i64 l[i].n) ∧ w.cell? ⟨b, o + i * 3 + 2, none⟩ = some (.int .i64 l[i].len)

theorem NotesAt.keep {w w' : World} {B : Nat} {A : Option Addr} {l : List Note} (h : NotesAt w B A l) (hk : ∀ b o, b < B → w'.cell? ⟨b, o, none⟩ = w.cell? ⟨b, o, none⟩) : NotesAt w' B A l := by
  intro i hi
  obtain ⟨b, o, rfl, hb, c0, c1, c2⟩ := h i hi
  exact ⟨b, o, rfl, hb, (hk _ _ hb).trans c0, (hk _ _ hb).trans c1, (hk _ _ hb).trans c2⟩
theorem NotesAt.below {w w' : World} {B : Nat} {A : Option Addr} {l : List Note} (h : NotesAt w B A l) (hk : Below B w w') : NotesAt w' B A l :=
  h.keep fun b o hb => hk.cell (p := ⟨b, o, none⟩) hb
theorem NotesAt.mono {w : World} {B B' : Nat} {A : Option Addr} {l : List Note} (h : NotesAt w B A l) (hB : B ≤ B') : NotesAt w B' A l := by
  intro i hi
  obtain ⟨b, o, rfl, hb, c⟩ := h i hi
  exact ⟨b, o, rfl, by omega, c⟩

theorem NotesAt.alloc {w : World} {B : Nat} {A : Option Addr} {l : List Note} (h : NotesAt w B A l) (hB : B ≤ w.heap.size) (o : Obj) : NotesAt (w.alloc o) B A l :=
  h.below ((Below.refl _ _).alloc hB o)

def total (l : List Note) (what : Int) : Int := (l.map fun x => if x.what = what then x.n else 0).sum
theorem total_snoc (l : List Note) (x : Note) (what : Int) : total (l ++ [x]) what = total l what + if x.what = what then x.n else 0 := by
  simp [total]
/-- What a note that nothing is wrong with is. -/
def Note.good (x : Note) : Prop := 0 ≤ x.what ∧ x.what ≤ 3 ∧ 0 ≤ x.n ∧ x.n ≤ 1024 ∧ 0 ≤ x.len ∧ x.len ≤ 1024
instance (x : Note) : Decidable x.good := by unfold Note.good; infer_instance
def goods (l : List Note) : List Note := l.filter fun x => decide x.good
theorem total_bd (l : List Note) (what : Int) (h : ∀ x ∈ l, x.good) : 0 ≤ total l what ∧ total l what ≤ 1024 * l.length := by
  induction l with
  | nil => simp [total]
  | cons x l ih =>
    have h1 := ih fun y hy => h y (List.mem_cons_of_mem _ hy)
    have h2 := h x List.mem_cons_self
    unfold Note.good at h2
    simp only [total, List.map_cons, List.sum_cons, List.length_cons] at *
    split <;> omega
def mostOf (l : List Note) : Int := l.foldl (fun m x => if m < x.len then x.len else m) 0
theorem take_snoc {α : Type} (l : List α) (k : Nat) (h : k < l.length) : l.take (k + 1) = l.take k ++ [l[k]] := by
  rw [List.take_succ_eq_append_getElem h]

theorem f15 (A : Option Addr) (B : Nat) (l : List Note) (cap : Nat) (what : Int) (w : World) (h : NotesAt w B A l) (hl : l.length ≤ 1000) (hg : Hid (∀ x ∈ l, x.good)) :
    Calls Try.prog 15 #[.slice A l.length cap, .int .i64 what] w fun e w' => e = .returned (.int .i64 (total l what)) ∧ w = w' := by
  go_enter Try.func15, Try.ntmps15
  go_wp2
  go_loop [5, 6] (fun s i => ∃ k : Nat, k ≤ l.length ∧ i = .int .i64 k ∧ s = .int .i64 (total (l.take k) what)) (fun _ i => l.length - (intOf i).toNat)
  case atStart => exact ⟨0, Nat.zero_le _, rfl, rfl⟩
  case round =>
    obtain ⟨k, hk, rfl, rfl⟩ := hrel
    by_cases hlt : k < l.length
    · obtain ⟨b, o, rfl, hb, c0, c1, c2⟩ := h k hlt
      have hb1 := total_bd (l.take k) what fun x hx => hg.out x (List.mem_of_mem_take hx)
      have hb2 : (l.take k).length ≤ 1000 := by simp; omega
      have hb3 := hg.out l[k] (List.getElem_mem hlt)
      unfold Note.good at hb3
      have HS := Lib.hid (show total (l.take (k + 1)) what = _ from by rw [take_snoc l k hlt, total_snoc])
      by_cases hw : l[k].what = what
      · have hw1 : (l[k].what == what) = true := by simp [hw]
        have HW := Lib.hid hw
        clear hw
        go_wp2
        go_round
        case rel => exact ⟨k + 1, by omega, by go_num, by rw [HS.out, if_pos HW.out]⟩
        case measure => simp [intOf]; omega
      · have hw1 : (l[k].what == what) = false := by simp [hw]
        have HW := Lib.hid hw
        clear hw
        go_wp2
        go_round
        case rel => exact ⟨k + 1, by omega, by go_num, by rw [HS.out, if_neg HW.out]; go_num⟩
        case measure => simp [intOf]; omega
    · go_wp2
      go_ret
      have : k = l.length := by omega
      subst this
      exact ⟨ret_int (by rw [List.take_length]), rfl⟩

theorem mostOf_snoc (l : List Note) (x : Note) : mostOf (l ++ [x]) = if mostOf l < x.len then x.len else mostOf l := by unfold mostOf; rw [List.foldl_append]; rfl
theorem f17 (A : Option Addr) (B : Nat) (l : List Note) (cap : Nat) (w : World) (h : NotesAt w B A l) (hl : l.length ≤ 1000) (hg : Hid (∀ x ∈ l, x.good)) (hB : B ≤ w.heap.size) :
    Calls Try.prog 17 #[.slice A l.length cap] w fun e w' =>
      e = .returned (.agg #[.int .i64 (total l 0), .int .i64 (total l 1), .int .i64 (total l 2), .int .i64 (total l 3), .int .i64 (mostOf l)]) ∧ Below w.heap.size w w' := by
  go_enter Try.func17, Try.ntmps17
  go_wp2
  go_loop [3, 4] (fun s i => ∃ k : Nat, k ≤ l.length ∧ i = .int .i64 k ∧ s = .int .i64 (mostOf (l.take k))) (fun _ i => l.length - (intOf i).toNat)
  case atStart => exact ⟨0, Nat.zero_le _, rfl, rfl⟩
  case round =>
    obtain ⟨k, hk, rfl, rfl⟩ := hrel
    by_cases hlt : k < l.length
    · obtain ⟨b, o, rfl, hb, c0, c1, c2⟩ := h k hlt
      have HS := Lib.hid (show mostOf (l.take (k + 1)) = _ from by rw [take_snoc l k hlt, mostOf_snoc])
      have hb' : b < w.heap.size := by omega
      go_wp2
      go_round
      case rel => exact ⟨k + 1, by omega, by go_num, by rw [HS.out]⟩
      case measure => simp [intOf]; omega
    · have ht : l.take k = l := List.take_of_length_le (by omega)
      rw [ht]
      clear ht
      go_wp2_with (go_at_call 15; refine (f15 _ B l _ _ _ (h.alloc hB _) hl hg).mono ?_; rintro e w' ⟨rfl, rfl⟩)
      refine bodyPost_ret (v := .agg #[.int .i64 (total l 0), .int .i64 (total l 1), .int .i64 (total l 2), .int .i64 (total l 3), .int .i64 (mostOf l)]) (by simp [results, Try.results17, go_sem]) rfl ⟨rfl, ?_⟩
      exact (((Below.refl _ _).alloc (Nat.le_refl _) _))
/-- The number of what is wrong with a note. -/
def Note.wrong (x : Note) : Int := if x.what < 0 ∨ 3 < x.what then 7 else if x.n < 0 ∨ 1024 < x.n ∨ x.len < 0 ∨ 1024 < x.len then 1 else 0
theorem Note.ways (x : Note) : (x.what < 0 ∧ x.wrong = 7) ∨ (¬ x.what < 0 ∧ 3 < x.what ∧ x.wrong = 7) ∨ (¬ x.what < 0 ∧ ¬ 3 < x.what ∧ x.n < 0 ∧ x.wrong = 1) ∨ (¬ x.what < 0 ∧ ¬ 3 < x.what ∧ ¬ x.n < 0 ∧ 1024 < x.n ∧ x.wrong = 1) ∨
    (¬ x.what < 0 ∧ ¬ 3 < x.what ∧ ¬ x.n < 0 ∧ ¬ 1024 < x.n ∧ x.len < 0 ∧ x.wrong = 1) ∨ (¬ x.what < 0 ∧ ¬ 3 < x.what ∧ ¬ x.n < 0 ∧ ¬ 1024 < x.n ∧ ¬ x.len < 0 ∧ 1024 < x.len ∧ x.wrong = 1) ∨
    (¬ x.what < 0 ∧ ¬ 3 < x.what ∧ ¬ x.n < 0 ∧ ¬ 1024 < x.n ∧ ¬ x.len < 0 ∧ ¬ 1024 < x.len ∧ x.wrong = 0) := by
  unfold Note.wrong
  split
  · omega
  · split <;> omega
theorem Note.wrong_good (x : Note) : x.wrong = 0 ↔ x.good := by
  unfold Note.wrong Note.good
  split
  · omega
  · split <;> omega
theorem f10 (x : Note) (w : World) :
    Calls Try.prog 10 #[.agg #[.int .i64 x.what, .int .i64 x.n, .int .i64 x.len]] w fun e w' =>
      e = .returned (.int .i64 x.wrong) ∧ Below w.heap.size w w' := by
  rcases x.ways with ⟨h1, H⟩ | ⟨h1, h2, H⟩ | ⟨h1, h2, h3, H⟩ | ⟨h1, h2, h3, h4, H⟩ | ⟨h1, h2, h3, h4, h5, H⟩ | ⟨h1, h2, h3, h4, h5, h6, H⟩ | ⟨h1, h2, h3, h4, h5, h6, H⟩
  all_goals
    have HW := Lib.hid H
    clear H
    go_enter Try.func10, Try.ntmps10
    go_wp2
    go_ret
    exact ⟨ret_int HW.out.symm, (Below.refl _ _).alloc (Nat.le_refl _) _⟩
end Go.Proofs.Ytifoeddeofhclaa
