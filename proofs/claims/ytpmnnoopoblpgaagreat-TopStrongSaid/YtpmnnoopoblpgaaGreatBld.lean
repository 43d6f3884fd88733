/- strings.Builder at this program: copyCheck and WriteString walked (the program's copyCheck ends where the loader refuses a copied builder), String off the library's shelf. -/
import Derived.Shelf.Strings.Builder1
import Derived.Shelf.Strconv.Itoa3
import Derived.Lib.AppendIntMem
import Derived.Test.YtpmnnoopoblpgaaGreatWalkA
namespace Go.Proofs.YtpmnnoopoblpgaaGreat
open Go Go.RowKit Go.Shelf

/-- cells of other types than bytes, but for the builder's own, are kept -/
def KeepT (b : Nat) (w w' : World) : Prop := ∀ k cs T fz, k ≠ b → T ≠ 5 → w.heap[k]? = some (.cells cs T fz) → w'.heap[k]? = some (.cells cs T fz)
theorem KeepT.refl (b : Nat) (w : World) : KeepT b w w := fun _ _ _ _ _ _ h => h
theorem KeepT.trans {b : Nat} {w w1 w2 : World} (h : KeepT b w w1) (k : KeepT b w1 w2) : KeepT b w w2 := fun j cs T fz h1 h2 h3 => k j cs T fz h1 h2 (h j cs T fz h1 h2 h3)
theorem KeepT.of_below {b : Nat} {w w' : World} (h : Below w.heap.size w w') : KeepT b w w' := fun k _ _ _ _ _ h3 => (h.block k (Array.getElem?_eq_some_iff.1 h3).1).trans h3
theorem KeepT.set {b : Nat} {w : World} (j : Nat) (v : Value) : KeepT b w (w.setCell ⟨b, j, none⟩ v) := fun k _ _ _ h1 _ h3 => by
  rw [← h3]; exact Below.heap_setCell _ _ _ _ (fun e => h1 (by simpa using e))
theorem KeepT.grown {b B : Nat} {w w' : World} {v : Value} {n : Nat} {xs : List Value} (hown : w.ownsRow B 5 1 v n xs) (hg : w.grownBy w' v.ownBlock) : KeepT b w w' := fun k _ _ _ _ h2 h3 =>
  (hg.block k (Array.getElem?_eq_some_iff.1 h3).1 (fun e => Lib.ownBlock_ne hown h3 h2 e.symm)).trans h3
theorem infoByte : (Tryz.prog.info? 5).map (fun i => (i.zero, i.size, i.bytes)) = some (some (.int .u8 0), 1, 1) := by kernel_rfl
theorem ownsRow_below {w w' : World} {B : Nat} {e : TypeId} {n : Nat} {v : Value} {xs : List Value} (h : w.ownsRow B e 1 v n xs) (hb : Below w.heap.size w w') : w'.ownsRow B e 1 v n xs := by
  refine ⟨h.1, ?_⟩
  rcases h.2 with hn | ⟨g, cap, cur, rfl, hB, hgg, rest⟩
  · exact .inl hn
  · exact .inr ⟨g, cap, cur, rfl, hB, (hb.block g (Array.getElem?_eq_some_iff.1 hgg).1).trans hgg, rest⟩
end Go.Proofs.YtpmnnoopoblpgaaGreat
