/- The law: the texts Put, laid end to end by a program. -/
import Derived.Test.YtpbepmipfjcjbaaPcOFind
import Derived.Test.YtpbepmipfjcjbaaPk1
namespace Go.Proofs.Ytpbepmipfjcjbaa
open Go.RowKit
theorem OwnT.frsh {x w : World} {v : Value} {l : List Timer} (h : OwnT w x.heap.size v l) : Frsh v x w := by
  obtain ⟨A, c, rfl, _, _, _, hA⟩ := h.at
  intro g hg
  cases A with
  | none => cases hg
  | some a => exact hA g hg
theorem LAt.tm {w : World} {A : Option Addr} {n c : Nat} {l : List Timer} (h : LAt w (.slice A n c) l) : TmAt w w.heap.size A l := by
  obtain ⟨A', c', e, hT, _⟩ := h
  injection e with e1 e2 e3
  subst e1
  exact hT
end Go.Proofs.Ytpbepmipfjcjbaa
