/- A list kept in a box of the caller's, appended to in the rounds of a range over a function that turns a cell of its own. No program is named. -/
import Derived.Test.YtljkojpooajlhaaGreatDoorBoxList
import Derived.Test.YtljkojpooajlhaaGreatDoorRangeB
import Derived.Test.YtljkojpooajlhaaGreatDoorRegionIn
namespace Go.Proofs.YtljkojpooajlhaaGreatDoor
open Go Go.RowKit

theorem wpListIn_appendU {F : Fence} {n : Nat} {P : Program} {Q : Exit → Act → World → Prop} {ops : Array Oper} {rest : List Oper} {o : Oper} {a : Act} {w : World} (hg : Region.wanted o (yielded ops a.tmps) = true) (s x : Operand) (t : TypeId)
    (ho : o.op = .call { callee := .builtin .append, args := #[s, x], argTypes := #[t, t] }) {vs vx : Value} (hs : a.eval s = vs) (hx : a.eval x = vx) {v' : Value} {w' : World}
    (hr : (Builtin.append_ #[t, t] o.type #[vs, vx]).run P w = .ok v' w') (h : wpListIn F n P ops Q rest (a.put o.dst v') w') : wpListIn F n P ops Q (o :: rest) a w :=
  NextIn.append (K := wpListIn F n P ops Q rest) hg s x t ho hs hx hr h
/-- the one cell that turns -/
def RwB (sb : Nat) (_ : World) (r : Nat) (o : Obj) : Prop := r = sb ∧ o.isCells = true
def BoxB {α : Type} (E : Enc α) (B0 : Nat) (T : TypeId) (base : Nat) (e : TypeId) (l : List α) (W : World) : Prop := ∃ v, Boxed W B0 T v ∧ OwnL E (fun b => base ≤ b) W base e v l
section
variable {α : Type} {E : Enc α} {B0 sb : Nat} {T e : TypeId} {base : Nat} {l : List α} {W : World}
theorem boxB_own {β : Type} (hE : Celled E) (hs : sb < base) (hsB : sb ≠ B0) (B : Nat) (f : β → List α) : OwnRowsB (RwB sb) B (fun s W => BoxB E B0 T base e (f s) W) := by
  rintro s A A' row ⟨v, hv, ho⟩ hg hr
  have hne : ∀ {k : Nat} {o : Obj}, A.heap[k]? = some o → o.isCells = true → (base ≤ k ∨ k = B0) → row ≠ some k := by
    intro k o hk hc hb er
    obtain ⟨o', ho', ⟨-, hc'⟩ | ⟨rfl, -⟩⟩ := hr k er
    · rw [hk] at ho'; cases ho'; rw [hc] at hc'; cases hc'
    · rcases hb with hb | hb
      · omega
      · exact hsB hb
  refine ⟨v, hv.kept hg (fun er => hne hv rfl (.inr rfl) er.symm), OwnL.weak ((OwnL.celled hE ho).grown hg (fun k hk => ?_) (fun b hb _ => ?_)) (fun b _ hb => hb.1)⟩
  · obtain ⟨cur, hc⟩ := ho.rowCells k hk; exact hne hc rfl (.inl (ho.lt k hk).1)
  · obtain ⟨o, h1, h2⟩ := hb.2; exact hne h1 h2 (.inl hb.1)
theorem belowB_own {β : Type} {w : World} {K : Nat} (hs : K ≤ sb) (B : Nat) (hB : K ≤ B) : OwnRowsB (β := β) (RwB sb) B (fun _ W => Below K w W ∧ K ≤ W.heap.size) := by
  rintro s A A' row ⟨h1, h2⟩ hg hr
  refine ⟨h1.grown hg h2 (fun k er => ?_), Nat.le_trans h2 hg.size⟩
  obtain ⟨o', -, ⟨h3, -⟩ | ⟨rfl, -⟩⟩ := hr k er <;> omega
theorem BoxB.below {W' : World} (h : BoxB E B0 T base e l W) (hb : Below W.heap.size W W') : BoxB E B0 T base e l W' := by
  obtain ⟨v, hv, ho⟩ := h
  exact ⟨v, (hb.block B0 hv.lt).trans hv, ho.call hb⟩
/-- append of one element -/
theorem boxB_push {P : Program} {v : Value} {W1 : World} (hv : Boxed W B0 T v) (ho : OwnL E (fun b => base ≤ b) W base e v l) (hT : T ≠ e) (hbs : base ≤ W.heap.size) (hb0 : B0 < base) (hb1 : Below W.heap.size W W1)
    {t ty : TypeId} {z : Value} {bytes : Nat} (ht : P.underlying t = some (.slice e)) (hinfo : (P.info? e).map (fun i => (i.zero, i.size, i.bytes)) = some (some z, E.size, bytes)) (hzs : z.cells.size = E.size)
    {vs : List Value} {x : α} (hR : E.R (Off (fun b => base ≤ b) v) W1 vs x) (hlen : (l.length + 1) * bytes ≤ 140737488355328) (hmax : l.length + 1 ≤ big) :
    ∃ a' cap W2, RowKit.Hid ((Builtin.append_ #[t, t] ty #[v, .slice (some ⟨W1.heap.size, 0, none⟩) 1 1]).run P (W1.alloc (.cells vs.toArray e)) = .ok (.slice a' (l.length + 1) cap) W2) ∧
      RowKit.Hid (W1.cell? ⟨B0, 0, none⟩ = some v) ∧ RowKit.Hid (W2.cell? ⟨B0, 0, none⟩ = some v) ∧ RowKit.Hid (W2.frozen? ⟨B0, 0, none⟩ = false) ∧
      RowKit.Hid (BoxB E B0 T base e (l ++ [x]) (W2.setCell ⟨B0, 0, none⟩ (.slice a' (l.length + 1) cap))) ∧ RowKit.Hid (KeepsOthers W (W2.setCell ⟨B0, 0, none⟩ (.slice a' (l.length + 1) cap))) ∧
      RowKit.Hid (∀ b, b < base → b ≠ B0 → (W2.setCell ⟨B0, 0, none⟩ (.slice a' (l.length + 1) cap)).heap[b]? = W.heap[b]?) ∧ RowKit.Hid (∀ B, B ≤ B0 → Below B W (W2.setCell ⟨B0, 0, none⟩ (.slice a' (l.length + 1) cap))) := by
  have ho1 := ho.call hb1
  have hv1 : Boxed W1 B0 T v := (hb1.block B0 hv.lt).trans hv
  obtain ⟨v', W2, hrun, ho2, hg, hat⟩ := ho1.push (P := P) (t := t) (ty := ty) ht hinfo hzs hR hlen hmax (Nat.le_trans hbs hb1.size)
  obtain ⟨a', cap, rfl, -⟩ := ho2.sl
  rw [List.length_append, List.length_singleton] at hrun ho2 hat
  have hv2 : Boxed W2 B0 T v := hv1.kept hg (fun e => ho1.notBox hv1 hT e.symm)
  have hg3 : W2.grownBy (W2.setCell ⟨B0, 0, none⟩ (.slice a' (l.length + 1) cap)) (some B0) := grownBy_setCell' _ _ _
  have ho3 := ho2.grown hg3 (fun k hk e => by cases e; exact ho2.notBox hv2 hT hk) (fun b hb _ e => by cases e; exact absurd hb (by omega))
  have hv3 : Boxed (W2.setCell ⟨B0, 0, none⟩ (.slice a' (l.length + 1) cap)) B0 T (.slice a' (l.length + 1) cap) := hv2.set _
  have hsz : W.heap.size ≤ W2.heap.size := Nat.le_trans hb1.size hg.size
  refine ⟨a', cap, W2, Lib.hid hrun, Lib.hid hv1.cell, Lib.hid hv2.cell, Lib.hid hv2.frozen, Lib.hid ⟨_, hv3, ho3⟩, Lib.hid ?_, Lib.hid ?_, Lib.hid ?_⟩
  · refine (KeepsOthers.of_grownBy (row := none) (Below.grow hb1) (fun j o e => by cases e)).trans ((KeepsOthers.of_grownBy hg (fun j o e ho => ?_)).trans (KeepsOthers.setCell _ _ _))
    obtain ⟨cur, hc⟩ := ho1.rowCells j e
    rw [hc] at ho; cases ho; rfl
  · intro b hb hne
    have hbl : b < W.heap.size := Nat.lt_of_lt_of_le hb hbs
    exact (hg3.block b (Nat.lt_of_lt_of_le hbl hsz) (fun e => hne (by cases e; rfl))).trans ((hg.block b (Nat.lt_of_lt_of_le hbl hb1.size) (fun er => by have := (ho1.lt b er.symm).1; omega)).trans (hb1.block b hbl))
  · intro B hB
    exact ((hb1.mono (by omega)).grown hg (by have := hb1.size; omega) (fun k e => by have := (ho1.lt k e).1; omega)).grown hg3 (by omega) (fun k e => by cases e; exact hB)
end
end Go.Proofs.YtljkojpooajlhaaGreatDoor
