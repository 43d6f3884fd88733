/- A region that draws its order, operation by operation, with fewer words. No program is named. -/
import Derived.Test.YtpmnnoopoblpgaaGreatRegion
namespace Go.Proofs.YtpmnnoopoblpgaaGreat
open Go Go.RowKit

section
variable {P : Program} {Q : Exit → Act → World → Prop} {md : Region.Mode} {S : World → Prop} {l : List Oper} {listed : Array Bool} {fuel : Nat} {a a' : Act} {w : World}
theorem rtk (i d : Nat) {oi : Oper} {v : Value} (hS : S w) (hy : ∀ w, S w → (execOp a.eval oi).run P w = .ok (.value v) w) (h : wpAnyH P md l.toArray Q S fuel (listed.setIfInBounds i true) a' w)
    (hi : l[i]? = some oi := by rfl) (hd : oi.dst = some d := by rfl) (hs : Region.noSelect l.toArray = true := by kernel_rfl) (hf : Region.free md l.toArray listed i = true := by kernel_rfl) (hr : (Region.ready md l.toArray listed).contains i = true := by kernel_rfl)
    (hQ : ∀ c a w, Q (.panic c) (a.put (some d) v) w → Q (.panic c) a w := by exact fun _ _ _ h => h) (hg : Region.wanted oi (yielded l.toArray a.tmps) = true := by rfl)
    (ha : a.put (some d) v = a' := by first | (simp only [Act.put, List.setIfInBounds_toArray, List.set_cons_zero, List.set_cons_succ]; done) | (simp only [Act.put, List.setIfInBounds_toArray, List.set_cons_zero, List.set_cons_succ]; rfl)) : wpAnyH P md l.toArray Q S (fuel + 1) listed a w :=
  region_take i (some d) hi hd hs hf hr hQ hg hy hS (by rw [ha]; exact h)
theorem rsk (i d : Nat) {oi : Oper} (hS : S w) (h : wpAnyH P md l.toArray Q S fuel (listed.setIfInBounds i true) a' w)
    (hi : l[i]? = some oi := by rfl) (hd : oi.dst = some d := by rfl) (hs : Region.noSelect l.toArray = true := by kernel_rfl) (hf : Region.free md l.toArray listed i = true := by kernel_rfl) (hr : (Region.ready md l.toArray listed).contains i = true := by kernel_rfl)
    (hQ : ∀ c a w, Q (.panic c) (a.put (some d) undef) w → Q (.panic c) a w := by exact fun _ _ _ h => h) (hg : Region.wanted oi (yielded l.toArray a.tmps) = false := by rfl)
    (ha : a.put (some d) undef = a' := by first | (simp only [Act.put, List.setIfInBounds_toArray, List.set_cons_zero, List.set_cons_succ]; done) | (simp only [Act.put, List.setIfInBounds_toArray, List.set_cons_zero, List.set_cons_succ]; rfl)) : wpAnyH P md l.toArray Q S (fuel + 1) listed a w :=
  region_skip i (some d) hi hd hs hf hr hQ hg hS (by rw [ha]; exact h)
end
end Go.Proofs.YtpmnnoopoblpgaaGreat
