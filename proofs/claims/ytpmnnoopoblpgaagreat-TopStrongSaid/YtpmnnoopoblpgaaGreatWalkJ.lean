/- Walks: the order of lists. -/
import Derived.Test.YtpmnnoopoblpgaaGreatWalkH
import Derived.Test.YtpmnnoopoblpgaaGreatMath3
namespace Go.Proofs.YtpmnnoopoblpgaaGreat
open Go Go.RowKit Go.Maps

theorem drew_more {w w1 : World} (h : Drew w w1) (n : Nat) : Drew w (w1.drewN n) := by obtain ⟨m, rfl⟩ := h; exact .mk2 _ _ _
def orI (l : List Int) : Int := match l with | [] => 0 | x :: r => if x ≠ 0 then x else orI r
theorem orI_drop {l : List Int} {k : Nat} (h : k < l.length) : orI (l.drop k) = if l[k] ≠ 0 then l[k] else orI (l.drop (k + 1)) := by
  rw [List.drop_eq_getElem_cons h, orI]
end Go.Proofs.YtpmnnoopoblpgaaGreat
