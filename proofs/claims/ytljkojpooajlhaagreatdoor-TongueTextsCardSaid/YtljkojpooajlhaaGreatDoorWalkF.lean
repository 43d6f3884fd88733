/- Walks: copies, canonical forms, variables. -/
import Derived.Test.YtljkojpooajlhaaGreatDoorWalkE
import Derived.Test.YtljkojpooajlhaaGreatDoorOwn
namespace Go.Proofs.YtljkojpooajlhaaGreatDoor
open Go Go.RowKit Go.Maps

abbrev OwnI (w : World) (base : Nat) (v : Value) (l : List Int) : Prop := OwnL intE (fun _ => False) w base 3 v l
def lim : Nat := 1000000
def retOwn (w : World) (l : List Int) (e : Ending) (w' : World) : Prop := ∃ v, e = .returned v ∧ OwnI w' w.heap.size v l ∧ Below w.heap.size w w'
theorem infoInt : (Tryz.prog.info? 3).map (fun i => (i.zero, i.size, i.bytes)) = some (some (.int .i64 0), 1, 8) := by kernel_rfl
theorem OwnI.ints {w : World} {base : Nat} {v : Value} {l : List Int} (h : OwnI w base v l) : ∃ a c, v = .slice a l.length c ∧ Ints (fun b => base ≤ b) w a c l := h.slB (fun _ h => h.elim)

theorem canonW_range {t : List Int} {x : Int} (hx : inRange x) (hl : t.length ≤ lim) : inRange (canonW (varsC t) x) := by
  have := varsC_length t
  unfold lim at hl
  unfold inRange at *
  rcases canonW_bound (v := varsC t) (n := x) with h | h <;> omega

def canRel (t : List Int) (w : World) (g cap : Nat) (i : Value) (wr : World) : Prop :=
  ∃ k : Nat, i = .int .i64 k ∧ k ≤ t.length ∧ IMap Tryz.prog 3 3 wr w.heap.size (varsC (t.take k)).length (nameF t k) ∧
    OwnI wr (w.heap.size + 1) (.slice (some ⟨g, 0, none⟩) t.length cap) (doneTo (canonW (varsC t)) t k) ∧ Below w.heap.size w wr

end Go.Proofs.YtljkojpooajlhaaGreatDoor
