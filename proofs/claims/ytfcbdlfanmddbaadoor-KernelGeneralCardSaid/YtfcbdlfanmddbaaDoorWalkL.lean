/- Walks of the reference: where parts end, arguments, parts; lists of terms alike; all valid. -/
import Derived.Test.YtfcbdlfanmddbaaDoorWalkK
import Derived.Test.YtfcbdlfanmddbaaDoorWalkI
import Derived.Test.YtfcbdlfanmddbaaDoorMath5
namespace Go.Proofs.YtfcbdlfanmddbaaDoor
open Go Go.RowKit Go.Maps

def rendRel (s : Sg) (t r : List Int) (w : World) (at_ need : Value) (wr : World) : Prop :=
  ∃ p k : Nat, at_ = .int .i64 p ∧ need = .int .i64 k ∧ p ≤ t.length ∧ skip s k (t.drop p) = some r ∧ wr = w
def argPRel (s : Sg) (t r P : List Int) (m : Nat) (w : World) (out k i : Value) (wr : World) : Prop :=
  ∃ j q : Nat, i = .int .i64 j ∧ k = .int .i64 q ∧ j ≤ m ∧ q ≤ t.length ∧ skip s (m - j) (t.drop q) = some r ∧ P.take j ++ posK s t.length (m - j) (t.drop q) = P ∧ OwnI wr w.heap.size out (P.take j) ∧ Below w.heap.size w wr
end Go.Proofs.YtfcbdlfanmddbaaDoor
