/- Walks: At, of both; lists of terms alike; all valid. -/
import Derived.Test.YtgkddhakhapjlaaWalkN
namespace Go.Proofs.Ytgkddhakhapjlaa
open Go Go.RowKit Go.Maps

def walkV (s : Sg) (t p : List Int) : Int := match place s t p 0 with | some z => z | none => -1
def walkRel (s : Sg) (t p : List Int) (w : World) (at_ i : Value) (wr : World) : Prop :=
  ∃ (j a : Nat) (rest : List Int), i = .int .i64 j ∧ at_ = .int .i64 a ∧ j ≤ p.length ∧ skip s 1 (t.drop a) = some rest ∧ place s t (p.drop j) a = place s t p 0 ∧ Below w.heap.size w wr
end Go.Proofs.Ytgkddhakhapjlaa
