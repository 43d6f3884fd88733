/- The proof of a statement, some of its texts joined in build order: part E. -/
import Derived.Test.YtljkojpooajlhaaGreatDoorMsD
import Derived.Test.YtljkojpooajlhaaGreatDoorMsB
import Derived.Deep.CutRange
import Derived.BigRegion
/- Walks: lemmaryref03.carried, Carry, Carried. -/
namespace Go.Proofs.YtljkojpooajlhaaGreatDoor
open Go Go.RowKit Go.Maps

theorem WyBox.f0 {w : World} {b : Nat} {T : Int} {v : Value} (h : WyBox w b T v) : w.frozen? ⟨b, 0, none⟩ = false := by simp [World.frozen?, show w.heap[b]? = _ from h]
theorem WyBox.later {w w' : World} {b : Nat} {T : Int} {v : Value} (h : WyBox w b T v) (hb : Below w.heap.size w w') : WyBox w' b T v := (hb.block b h.lt).trans h
theorem WyBox.set2 {w : World} {b : Nat} {T T' : Int} {v v' : Value} (h : WyBox w b T v) : WyBox ((w.setCell ⟨b, 0, none⟩ (.int .i64 T')).setCell ⟨b, 1, none⟩ v') b T' v' := by
  have h1 : WyBox (w.setCell ⟨b, 0, none⟩ (.int .i64 T')) b T' v := by
    unfold WyBox
    simp [World.setCell, Array.getElem?_modify, show w.heap[b]? = _ from h]
  exact h1.set v'
theorem rc_endA {w w2 : World} {T : Int} {v : Value} {aP : Option Addr} {cP : Nat} {P : List Int} (hb : Below (w.alloc (.cells #[.int .i64 0, .slice none 0 0] 33)).drew.heap.size (w.alloc (.cells #[.int .i64 0, .slice none 0 0] 33)).drew w2) (hI : Ints (fun b => (w.alloc (.cells #[.int .i64 0, .slice none 0 0] 33)).drew.heap.size ≤ b) w2 aP cP P) (hz : WyBox w2 w.heap.size 0 (.slice none 0 0)) :
    WyBox ((w2.setCell ⟨w.heap.size, 0, none⟩ (.int .i64 T)).setCell ⟨w.heap.size, 1, none⟩ v) w.heap.size T v ∧ Ints (fun _ => True) ((w2.setCell ⟨w.heap.size, 0, none⟩ (.int .i64 T)).setCell ⟨w.heap.size, 1, none⟩ v) aP cP P ∧ Below w.heap.size w ((w2.setCell ⟨w.heap.size, 0, none⟩ (.int .i64 T)).setCell ⟨w.heap.size, 1, none⟩ v) := by
  have hg := gby_trans' (gby_setTo w2 w.heap.size 0 (.int .i64 T)) (gby_setTo (w2.setCell ⟨w.heap.size, 0, none⟩ (.int .i64 T)) w.heap.size 1 v)
  have hsz : (w.alloc (.cells #[.int .i64 0, .slice none 0 0] 33)).drew.heap.size = w.heap.size + 1 := by simp
  have hb1 : Below w.heap.size w (w.alloc (.cells #[.int .i64 0, .slice none 0 0] 33)).drew := Below.drew (below1 w _)
  refine ⟨hz.set2, (hI.same (.of_grown hg (fun b hb e => by injection e with e; omega))).any, (bcall hb1 hb).grown hg (Nat.le_of_lt hz.lt) (fun k e => by injection e with e; omega)⟩
theorem rc_endB {w w2 : World} {T : Int} {v : Value} {aP : Option Addr} {cP : Nat} {P : List Int} (hb : Below w.drew.heap.size w.drew w2) (hI : Ints (fun b => w.drew.heap.size ≤ b) w2 aP cP P) :
    WyBox (w2.alloc (.cells #[.int .i64 T, v] 33)) w2.heap.size T v ∧ Ints (fun _ => True) (w2.alloc (.cells #[.int .i64 T, v] 33)) aP cP P ∧ Below w.heap.size w (w2.alloc (.cells #[.int .i64 T, v] 33)) :=
  ⟨.new _ _ _, (hI.below (below1 _ _)).any, bcall (bcall (Below.drew (.refl _ _)) hb) (below1 _ _)⟩
def rcRel (a : Sg) (d : Ways) (t : List Int) (p m : Nat) (T : Int) (L : List Int) (W5 : World) (out i : Value) (wr : World) : Prop :=
  ∃ q : Nat, i = .int .i64 q ∧ q ≤ L.length ∧ OwnI wr W5.heap.size out (T :: ((L.take q).map (fun k => ((splitK a m (t.drop (p + 1))).map (carT a d)).getD k.toNat [])).flatten) ∧ Below W5.heap.size W5 wr
end Go.Proofs.YtljkojpooajlhaaGreatDoor
