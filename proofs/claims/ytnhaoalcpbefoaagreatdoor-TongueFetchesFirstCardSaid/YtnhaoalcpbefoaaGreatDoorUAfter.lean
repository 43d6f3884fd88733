/- Walks of package unify: where parts end; terms with variables of any number. -/
import Derived.Test.YtnhaoalcpbefoaaGreatDoorUni
import Derived.Test.YtnhaoalcpbefoaaGreatDoorWalkI
namespace Go.Proofs.YtnhaoalcpbefoaaGreatDoor
open Go Go.RowKit Go.Maps

theorem okSign_ars {s : Sg} (h : okSign s = true) (n : Nat) (hn : n < s.length) : 0 ≤ s[n].2 ∧ s[n].2 ≤ 3 := by
  simp only [okSign, Bool.and_eq_true] at h
  have := List.all_eq_true.1 h.1.1.2 s[n] (List.getElem_mem hn)
  simp only [entOk, Bool.and_eq_true, decide_eq_true_eq] at this
  omega
theorem arW_sym {s : Sg} {n : Nat} (hn : n < s.length) (h0 : 0 ≤ s[n].2) : (s[n].2 : Int) = (arW s (n : Int) : Nat) := by
  unfold arW
  rw [if_neg (by omega), Int.toNat_natCast, List.getD_eq_getElem?_getD, List.getElem?_eq_getElem hn]
  simp only [Option.getD_some]
  omega
theorem arW_neg {s : Sg} {n : Int} (h : n < 0) : arW s n = 0 := by unfold arW; rw [if_pos h]

def aftRel (s : Sg) (t r : List Int) (w : World) (at_ op : Value) (wr : World) : Prop :=
  ∃ p k : Nat, at_ = .int .i64 p ∧ op = .int .i64 k ∧ p ≤ t.length ∧ skw s k (t.drop p) = some r ∧ wr = w
end Go.Proofs.YtnhaoalcpbefoaaGreatDoor
