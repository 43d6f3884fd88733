/- Walks: Canonical of the reference, IsCanonical, Shape, of both. -/
import Derived.Test.YtnhaoalcpbefoaaGreatDoorWalkH
namespace Go.Proofs.YtnhaoalcpbefoaaGreatDoor
open Go Go.RowKit Go.Maps

def retE (r : List Int × Int) (w : World) (e : Ending) (w' : World) : Prop := ∃ v, e = .returned (.tuple #[v, .int .i64 r.2]) ∧ OwnI w' w.heap.size v r.1 ∧ Below w.heap.size w w'
theorem bcall {w w1 w2 : World} (h : Below w.heap.size w w1) (hb : Below w1.heap.size w1 w2) : Below w.heap.size w w2 := h.trans (hb.mono h.size)
def canonE (s : Sg) (t : List Int) : List Int × Int := errE s t (canon t)
def flatE (s : Sg) (t : List Int) : List Int × Int := errE s t (flat t)
def isCanonT (s : Sg) (t : List Int) : Bool := okT s t && decide (canon t = t)

theorem CanonicalE {S1 S2 : Nat → Prop} (a1 a2 : Option Addr) (c1 c2 : Nat) (s : Sg) (t : List Int) (w : World) (h1 : Sign S1 w a1 c1 s) (h2 : Ints S2 w a2 c2 t) :
    Calls Tryz.prog 16 #[.slice a1 s.length c1, .slice a2 t.length c2] w (retE (canonE s t) w) := by
  refine (Canonical_any a1 a2 c1 c2 s t w h1 h2).mono ?_
  rintro e w' ⟨v, n, rfl, hb, hn, hy⟩
  cases hx : okT s t with
  | false =>
    obtain ⟨rfl, rfl⟩ := hn hx
    rw [canonE, errE_no hx]
    exact ⟨_, rfl, .nil _ _ _ _ _, hb⟩
  | true =>
    obtain ⟨rfl, ho⟩ := hy hx
    rw [canonE, errE_ok hx]
    exact ⟨_, rfl, ho, hb⟩

def shRel (t : List Int) (w : World) (B g cap : Nat) (i : Value) (wr : World) : Prop :=
  ∃ k : Nat, i = .int .i64 k ∧ k ≤ t.length ∧ OwnI wr B (.slice (some ⟨g, 0, none⟩) t.length cap) (doneTo (fun n => if n < 0 then -1 else n) t k) ∧ Below B w wr
theorem flat_range {x : Int} (h : inRange x) : inRange (if x < 0 then -1 else x) := by unfold inRange at *; split <;> omega

end Go.Proofs.YtnhaoalcpbefoaaGreatDoor
