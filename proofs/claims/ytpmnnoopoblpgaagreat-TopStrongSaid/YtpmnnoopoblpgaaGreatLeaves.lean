/- What a loop's body leaves alone that writes one box of its own and the list which that box holds. No program is named. -/
import Derived.Test.YtpmnnoopoblpgaaGreatRange
import Derived.Test.YtpmnnoopoblpgaaGreatOwn
namespace Go.Proofs.YtpmnnoopoblpgaaGreat
open Go Go.RowKit

def CellsAt (w : World) (b : Nat) : Prop := ∃ o, w.heap[b]? = some o ∧ o.isCells = true
theorem CellsAt.of_cell {w : World} {b off : Nat} {v : Value} (h : w.cell? ⟨b, off, none⟩ = some v) : CellsAt w b := by
  have hl := World.block_lt_of_cell? w _ h
  refine ⟨w.heap[b], Array.getElem?_eq_getElem hl, ?_⟩
  unfold World.cell? at h
  simp only [Array.getElem?_eq_getElem hl] at h
  revert h
  generalize w.heap[b] = o
  intro h
  cases o <;> simp_all [Obj.isCells]
/-- that a slice's blocks hold cells may be added to what is known of them -/
theorem Sl.cellsAt {α : Type} {E : Enc α} (hE : ∀ S w vs x, E.R S w vs x → E.R (fun b => S b ∧ CellsAt w b) w vs x) {S : Nat → Prop} {w : World} {a : Option Addr} {c : Nat} {l : List α} (h : Sl E S w a c l) : Sl E (fun b => S b ∧ CellsAt w b) w a c l := by
  refine ⟨h.cap, h.max, h.nil, fun hne => ?_⟩
  obtain ⟨b, off, ha, hb, hl, hc⟩ := h.dat hne
  have h0 : 0 < l.length := List.length_pos_iff.2 hne
  obtain ⟨vs, g1, g2, _⟩ := hc 0 h0
  have hcell := CellsAt.of_cell (g2 0 (by have := E.pos; omega))
  exact ⟨b, off, ha, ⟨hb, hcell⟩, hl, fun i hi => by obtain ⟨vs, q1, q2, q3⟩ := hc i hi; exact ⟨vs, q1, q2, hE _ _ _ _ q3⟩⟩
theorem Ints.cellsAt {S : Nat → Prop} {w : World} {a : Option Addr} {c : Nat} {l : List Int} (h : Ints S w a c l) : Ints (fun b => S b ∧ CellsAt w b) w a c l := Sl.cellsAt (fun _ _ _ _ h => h) h
theorem Terms.cellsAt {S : Nat → Prop} {w : World} {a : Option Addr} {c : Nat} {l : List (List Int)} (h : Terms S w a c l) : Terms (fun b => S b ∧ CellsAt w b) w a c l :=
  Sl.cellsAt (fun _ _ _ _ h => by obtain ⟨a, c, h1, h2⟩ := h; exact ⟨a, c, h1, Ints.cellsAt h2⟩) h
theorem Sign.cellsAt {S : Nat → Prop} {w : World} {a : Option Addr} {c : Nat} {l : List (ByteArray × Int)} (h : Sign S w a c l) : Sign (fun b => S b ∧ CellsAt w b) w a c l :=
  Sl.cellsAt (fun _ _ _ _ h => by obtain ⟨us, ts, h1, h2, h3⟩ := h; exact ⟨us, ts, h1, h2, h3⟩) h

/-- the block of the list in the box -/
def rowOf (B0 : Nat) (W : World) : Option Nat := match W.cell? ⟨B0, 0, none⟩ with | some v => v.ownBlock | none => none
def RowLt (B0 : Nat) (W : World) : Prop := B0 < W.heap.size ∧ ∀ r, rowOf B0 W = some r → r < W.heap.size
def Safe (B0 : Nat) (W : World) (b : Nat) : Prop := b ≠ B0 ∧ some b ≠ rowOf B0 W ∧ CellsAt W b
structure Leaves (B0 : Nat) (W W' : World) : Prop where
  size : W.heap.size ≤ W'.heap.size
  same : ∀ b, Safe B0 W b → W'.heap[b]? = W.heap[b]?
  row : rowOf B0 W' = rowOf B0 W ∨ ∃ r, rowOf B0 W' = some r ∧ W.heap.size ≤ r
  lt : RowLt B0 W → RowLt B0 W'

section
variable {B0 : Nat} {W W' W2 : World}
theorem CellsAt.lt {b : Nat} (h : CellsAt W b) : b < W.heap.size := by obtain ⟨o, h, _⟩ := h; exact (Array.getElem?_eq_some_iff.1 h).1
theorem CellsAt.same {b : Nat} (h : CellsAt W b) (hs : W'.heap[b]? = W.heap[b]?) : CellsAt W' b := by obtain ⟨o, h, g⟩ := h; exact ⟨o, hs.trans h, g⟩
theorem Leaves.safe (h : Leaves B0 W W') {b : Nat} (hb : Safe B0 W b) : Safe B0 W' b := by
  refine ⟨hb.1, fun e => ?_, hb.2.2.same (h.same b hb)⟩
  rcases h.row with g | ⟨r, g, hr⟩
  · rw [g] at e; exact hb.2.1 e
  · rw [g] at e; cases e; have := hb.2.2.lt; omega
theorem Leaves.agree (h : Leaves B0 W W') : Agree (Safe B0 W) W W' := fun b hb _ => h.same b hb
theorem Leaves.sl {α : Type} {E : Enc α} {a : Option Addr} {c : Nat} {l : List α} (h : Leaves B0 W W') (hs : Sl E (Safe B0 W) W a c l) : Sl E (Safe B0 W') W' a c l :=
  hs.mono (fun _ _ hb => h.safe hb) h.agree
theorem Leaves.refl (B0 : Nat) (W : World) : Leaves B0 W W := ⟨Nat.le_refl _, fun _ _ => rfl, .inl rfl, fun h => h⟩
theorem Leaves.trans (h : Leaves B0 W W') (k : Leaves B0 W' W2) : Leaves B0 W W2 := by
  refine ⟨Nat.le_trans h.size k.size, fun b hb => (k.same b (h.safe hb)).trans (h.same b hb), ?_, fun g => k.lt (h.lt g)⟩
  rcases k.row with g | ⟨r, g, hr⟩
  · rw [g]; exact h.row
  · exact .inr ⟨r, g, Nat.le_trans h.size hr⟩
theorem rowOf_same (h : W'.heap[B0]? = W.heap[B0]?) : rowOf B0 W' = rowOf B0 W := by unfold rowOf; rw [World.cell?_of_block (w := W) h]
theorem Leaves.of_below (hr : B0 < W.heap.size) (h : Below W.heap.size W W') : Leaves B0 W W' := by
  have e := rowOf_same (h.block B0 hr)
  refine ⟨h.size, fun b hb => h.block b hb.2.2.lt, .inl e, fun g => ⟨Nat.lt_of_lt_of_le g.1 h.size, fun r hrr => ?_⟩⟩
  rw [e] at hrr; exact Nat.lt_of_lt_of_le (g.2 r hrr) h.size
/-- what is new is safe -/
theorem Safe.fresh (hr : RowLt B0 W) (h : Below W.heap.size W W') {b : Nat} (hb : W.heap.size ≤ b) (hc : CellsAt W' b) : Safe B0 W' b :=
  ⟨by have := hr.1; omega, fun e => by rw [rowOf_same (h.block B0 hr.1)] at e; have := hr.2 b e.symm; omega, hc⟩
theorem Below.grow {A B : World} (h : Below A.heap.size A B) : A.grownBy B none := ⟨h.os, h.tape, h.output, h.size, fun k hk _ => h.block k hk⟩
theorem Leaves.cell (h : Leaves B0 W W') {b off : Nat} {v : Value} (hb : Safe B0 W b) (hc : W.cell? ⟨b, off, none⟩ = some v) : W'.cell? ⟨b, off, none⟩ = some v := (World.cell?_of_block (w := W) (h.same b hb)).trans hc
/-- a turn of a block that holds no cells -/
theorem Leaves.putObj {l : Nat} {o o' : Obj} (hl : B0 < l) (h : W.heap[l]? = some o) (hc : o.isCells = false) : Leaves B0 W (W.putObj l o') := by
  have hne : B0 ≠ l := by omega
  have e : rowOf B0 (W.putObj l o') = rowOf B0 W := rowOf_same (World.putObj_heap_other hne)
  refine ⟨by simp [World.putObj], fun b hb => ?_, .inl e, fun g => ⟨by simpa [World.putObj] using g.1, fun r hrr => ?_⟩⟩
  · refine World.putObj_heap_other (fun eb => ?_)
    subst eb
    obtain ⟨o2, g1, g2⟩ := hb.2.2
    rw [h] at g1; cases g1; rw [hc] at g2; cases g2
  · rw [e] at hrr; simpa [World.putObj] using g.2 r hrr
end
end Go.Proofs.YtpmnnoopoblpgaaGreat
