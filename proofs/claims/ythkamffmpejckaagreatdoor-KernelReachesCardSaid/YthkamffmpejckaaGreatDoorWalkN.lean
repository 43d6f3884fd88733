/- Walks: At, of both; lists of terms alike; all valid. -/
import Derived.Test.YthkamffmpejckaaGreatDoorWalkM
namespace Go.Proofs.YthkamffmpejckaaGreatDoor
open Go Go.RowKit Go.Maps

def spanV (s : Sg) (t p : List Int) : Value := match place s t p 0 with
  | some z => .tuple #[.int .i64 z, .int .i64 (z + (partAt s (t.drop z)).length : Nat), .bool true]
  | none => .tuple #[.int .i64 0, .int .i64 0, .bool false]
def spanRel (s : Sg) (t p : List Int) (w : World) (fr to i : Value) (wr : World) : Prop :=
  ∃ (j a : Nat) (rest : List Int), i = .int .i64 j ∧ fr = .int .i64 a ∧ to = .int .i64 (t.length - rest.length : Nat) ∧ j ≤ p.length ∧ skip s 1 (t.drop a) = some rest ∧ place s t (p.drop j) a = place s t p 0 ∧ Below w.heap.size w wr
def sumRel (L : List (List Int)) (a k : Nat) (w1 : World) (fr i : Value) (wr : World) : Prop :=
  ∃ q : Nat, i = .int .i64 q ∧ q ≤ k ∧ fr = .int .i64 (a + 1 + (L.take q).flatten.length : Nat) ∧ wr = w1
theorem len_take_flatten {L : List (List Int)} {q : Nat} : (L.take q).flatten.length ≤ L.flatten.length := by
  have : L.flatten.length = (L.take q).flatten.length + (L.drop q).flatten.length := by rw [← List.length_append, ← List.flatten_append, List.take_append_drop]
  omega
theorem take_flatten_succ {L : List (List Int)} {q : Nat} (h : q < L.length) : (L.take (q + 1)).flatten.length = (L.take q).flatten.length + L[q].length := by
  rw [List.take_succ_eq_append_getElem h, List.flatten_append, List.length_append]; simp
end Go.Proofs.YthkamffmpejckaaGreatDoor
