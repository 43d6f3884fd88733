/- Walks: Depth of the reference, Vars of the reference. -/
import Derived.Test.YthkamffmpejckaaGreatDoorWalkM
import Derived.Test.YthkamffmpejckaaGreatDoorMath6
namespace Go.Proofs.YthkamffmpejckaaGreatDoor
open Go Go.RowKit Go.Maps

def depRel (s : Sg) (t r : List Int) (p m F : Nat) (w : World) (most i : Value) (wr : World) : Prop :=
  ∃ j q D : Nat, i = .int .i64 j ∧ most = .int .i64 D ∧ j ≤ m ∧ q ≤ t.length ∧ p < q ∧ skip s j (t.drop (p + 1)) = some (t.drop q) ∧ skip s (m - j) (t.drop q) = some r ∧
    D ≤ F ∧ max D (depArgs (dep s F) s (m - j) (t.drop q)) = depArgs (dep s F) s m (t.drop (p + 1)) ∧ Below w.heap.size w wr
def depE (s : Sg) (t : List Int) : Int × Int := if okT s t = true then (((depth s t : Nat) : Int), 0) else (0, 1)
theorem depE_eq (s : Sg) (t : List Int) : (if okT s t then #[Value.int .i64 (depth s t : Nat), .int .i64 0] else #[.int .i64 0, .int .i64 1]) = #[.int .i64 (depE s t).1, .int .i64 (depE s t).2] := by
  unfold depE; split <;> rfl
end Go.Proofs.YthkamffmpejckaaGreatDoor
