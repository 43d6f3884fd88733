/- Walks: the reference's variables and renaming. -/
import Derived.Test.YtljkojpooajlhaaWalkF
import Derived.Test.YtljkojpooajlhaaMath2
namespace Go.Proofs.Ytljkojpooajlhaa
open Go Go.RowKit Go.Maps

def varRel (t : List Int) (w : World) (out i : Value) (wr : World) : Prop :=
  ∃ k : Nat, i = .int .i64 k ∧ k ≤ t.length ∧ OwnI wr w.heap.size out ((varsC (t.take k)).map vnum) ∧ Below w.heap.size w wr

theorem OwnL.drewN {α : Type} {E : Enc α} {S : Nat → Prop} {w : World} {base : Nat} {e : TypeId} {v : Value} {l : List α} (h : OwnL E S w base e v l) (n : Nat) : OwnL E S (w.drewN n) base e v l := h.kept (fun _ _ => rfl) (fun _ _ _ => rfl)
theorem drewN_setCell (w : World) (n : Nat) (a : Addr) (u : Value) : (w.drewN n).setCell a u = (w.setCell a u).drewN n := rfl
def renRel (t : List Int) (w : World) (B g cap : Nat) (i : Value) (wr : World) : Prop :=
  ∃ k : Nat, i = .int .i64 k ∧ k ≤ t.length ∧ OwnI wr B (.slice (some ⟨g, 0, none⟩) t.length cap) (doneTo (canonW (varsC t)) t k) ∧ Below B w wr
def renRel2 (t : List Int) (w : World) (B g cap k : Nat) (x : Int) (j : Value) (wr : World) : Prop :=
  ∃ i : Nat, j = .int .i64 i ∧ i ≤ (varsC t).length ∧ OwnI wr B (.slice (some ⟨g, 0, none⟩) t.length cap) ((doneTo (canonW (varsC t)) t k).set k (midW t i x)) ∧ Below B w wr

end Go.Proofs.Ytljkojpooajlhaa
