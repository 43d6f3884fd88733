/- A list that a call makes itself and keeps in a box of its own, while a loop's body appends to it. No program is named. -/
import Derived.Test.YtpmnnoopoblpgaaGreatLeaves
namespace Go.Proofs.YtpmnnoopoblpgaaGreat
open Go Go.RowKit

/-- the encoding says nothing of blocks that hold no cells -/
def Celled {α : Type} (E : Enc α) : Prop := ∀ S w vs x, E.R S w vs x → E.R (fun b => S b ∧ CellsAt w b) w vs x
theorem celled_int : Celled intE := fun _ _ _ _ h => h
theorem celled_sl {α : Type} {E : Enc α} (h : Celled E) : Celled (slE E) := fun _ _ _ _ hr => by obtain ⟨a, c, h1, h2⟩ := hr; exact ⟨a, c, h1, Sl.cellsAt h h2⟩

def BoxL {α : Type} (E : Enc α) (B0 : Nat) (T : TypeId) (base : Nat) (e : TypeId) (l : List α) (W : World) : Prop := ∃ v, Boxed W B0 T v ∧ OwnL E (fun b => b ≠ B0) W base e v l

section
variable {α : Type} {E : Enc α} {B0 : Nat} {T e : TypeId} {base : Nat} {l : List α} {W : World}
theorem OwnL.rowCells {S : Nat → Prop} {v : Value} (h : OwnL E S W base e v l) : ∀ k, v.ownBlock = some k → ∃ cur, W.heap[k]? = some (.cells cur e (0, 0)) := by
  intro k hk
  obtain ⟨xs, ho, -⟩ := h
  rcases ho.2 with ⟨rfl, -⟩ | ⟨g, cap, cur, rfl, -, hg, -⟩
  · simp [Value.ownBlock] at hk
  · simp [Value.ownBlock] at hk; subst hk; exact ⟨cur, hg⟩
theorem OwnL.notBox {S : Nat → Prop} {v u : Value} (h : OwnL E S W base e v l) (hB : Boxed W B0 T u) (hT : T ≠ e) : v.ownBlock ≠ some B0 := by
  intro hk
  obtain ⟨cur, hc⟩ := h.rowCells B0 hk
  rw [show W.heap[B0]? = _ from hB] at hc
  simp only [Option.some.injEq, Obj.cells.injEq] at hc
  exact hT hc.2.1
theorem OwnL.celled {S : Nat → Prop} {v : Value} (hE : Celled E) (h : OwnL E S W base e v l) : OwnL E (fun b => S b ∧ CellsAt W b) W base e v l := by
  obtain ⟨xs, ho, hl, hx⟩ := h
  exact ⟨xs, ho, hl, fun i h1 h2 => E.mono (hE _ _ _ _ (hx i h1 h2)) (fun b _ hb => ⟨⟨hb.1.1, hb.2⟩, hb.1.2⟩) (.refl _ _)⟩
theorem boxL_own {β : Type} (hE : Celled E) (B : Nat) (f : β → List α) : OwnFrom B (fun s W => BoxL E B0 T base e (f s) W) := by
  rintro s A A' row ⟨v, hv, ho⟩ hg hr
  have hne : ∀ {k : Nat} {o : Obj}, A.heap[k]? = some o → o.isCells = true → row ≠ some k := by
    intro k o hk hc e
    obtain ⟨-, o', ho', hc'⟩ := hr k e
    rw [hk] at ho'; cases ho'; rw [hc] at hc'; cases hc'
  refine ⟨v, hv.kept hg (fun e => hne hv rfl e.symm), OwnL.weak ((OwnL.celled hE ho).grown hg (fun k hk => ?_) (fun b hb _ => ?_)) (fun b _ hb => hb.1)⟩
  · obtain ⟨cur, hc⟩ := ho.rowCells k hk; exact hne hc rfl
  · obtain ⟨o, h1, h2⟩ := hb.2; exact hne h1 h2
theorem OwnL.putObj {S : Nat → Prop} {v : Value} (h : OwnL E S W base e v l) {D : Nat} {o o' : Obj} (hD : W.heap[D]? = some o) (hc : o.isCells = false) (hE : Celled E) : OwnL E (fun _ => True) (W.putObj D o') base e v l := by
  have hne : ∀ {k : Nat} {q : Obj}, W.heap[k]? = some q → q.isCells = true → (some D : Option Nat) ≠ some k := by
    intro k q hk hq e
    cases e; rw [hD] at hk; cases hk; rw [hc] at hq; cases hq
  refine OwnL.weak ((OwnL.celled hE h).grown (grownBy_putObj' W D o') (fun k hk => ?_) (fun b hb _ => ?_)) (fun _ _ _ => trivial)
  · obtain ⟨cur, hcur⟩ := h.rowCells k hk; exact hne hcur rfl
  · obtain ⟨q, h1, h2⟩ := hb.2; exact hne h1 h2
theorem rowOf_boxed {v : Value} (h : Boxed W B0 T v) : rowOf B0 W = v.ownBlock := by unfold rowOf; rw [h.cell]
theorem BoxL.rowLt (h : BoxL E B0 T base e l W) : RowLt B0 W := by
  obtain ⟨v, hv, ho⟩ := h
  exact ⟨hv.lt, fun r hr => by rw [rowOf_boxed hv] at hr; exact (ho.lt r hr).2⟩
theorem BoxL.new (W : World) : BoxL E W.heap.size T base e [] (W.alloc (.cells #[.slice none 0 0] T)) := ⟨_, Boxed.new W T _, .nil _ _ _ _ _⟩
theorem BoxL.below {W' : World} (h : BoxL E B0 T base e l W) (hb : Below W.heap.size W W') : BoxL E B0 T base e l W' := by
  obtain ⟨v, hv, ho⟩ := h
  exact ⟨v, (hb.block B0 hv.lt).trans hv, ho.call hb⟩
/-- append of one element -/
theorem box_push {P : Program} {v : Value} {W1 : World} (hv : Boxed W B0 T v) (ho : OwnL E (fun b => b ≠ B0) W base e v l) (hT : T ≠ e) (hbs : base ≤ W.heap.size) (hb0 : base ≤ B0) (hb1 : Below W.heap.size W W1)
    {t ty : TypeId} {z : Value} {bytes : Nat} (ht : P.underlying t = some (.slice e)) (hinfo : (P.info? e).map (fun i => (i.zero, i.size, i.bytes)) = some (some z, E.size, bytes)) (hzs : z.cells.size = E.size)
    {vs : List Value} {x : α} (hR : E.R (Off (fun b => b ≠ B0) v) W1 vs x) (hlen : (l.length + 1) * bytes ≤ 140737488355328) (hmax : l.length + 1 ≤ big) :
    ∃ a' cap W2, RowKit.Hid ((Builtin.append_ #[t, t] ty #[v, .slice (some ⟨W1.heap.size, 0, none⟩) 1 1]).run P (W1.alloc (.cells vs.toArray e)) = .ok (.slice a' (l.length + 1) cap) W2) ∧
      RowKit.Hid (W2.cell? ⟨B0, 0, none⟩ = some v) ∧ RowKit.Hid (W2.frozen? ⟨B0, 0, none⟩ = false) ∧
      RowKit.Hid (BoxL E B0 T base e (l ++ [x]) (W2.setCell ⟨B0, 0, none⟩ (.slice a' (l.length + 1) cap))) ∧ RowKit.Hid (KeepsOthers W (W2.setCell ⟨B0, 0, none⟩ (.slice a' (l.length + 1) cap))) ∧
      RowKit.Hid (Leaves B0 W (W2.setCell ⟨B0, 0, none⟩ (.slice a' (l.length + 1) cap))) ∧ RowKit.Hid (Below base W (W2.setCell ⟨B0, 0, none⟩ (.slice a' (l.length + 1) cap))) := by
  have ho1 := ho.call hb1
  have hv1 : Boxed W1 B0 T v := (hb1.block B0 hv.lt).trans hv
  obtain ⟨v', W2, hrun, ho2, hg, hat⟩ := ho1.push (P := P) (t := t) (ty := ty) ht hinfo hzs hR hlen hmax (Nat.le_trans hbs hb1.size)
  obtain ⟨a', cap, rfl, -⟩ := ho2.sl
  rw [List.length_append, List.length_singleton] at hrun ho2 hat
  have hv2 : Boxed W2 B0 T v := hv1.kept hg (fun e => ho1.notBox hv1 hT e.symm)
  have hg3 : W2.grownBy (W2.setCell ⟨B0, 0, none⟩ (.slice a' (l.length + 1) cap)) (some B0) := grownBy_setCell' _ _ _
  have ho3 := ho2.grown hg3 (fun k hk e => by cases e; exact ho2.notBox hv2 hT hk) (fun b hb _ e => by cases e; exact hb rfl)
  have hv3 : Boxed (W2.setCell ⟨B0, 0, none⟩ (.slice a' (l.length + 1) cap)) B0 T (.slice a' (l.length + 1) cap) := hv2.set _
  have hsz : W.heap.size ≤ W2.heap.size := Nat.le_trans hb1.size hg.size
  refine ⟨a', cap, W2, Lib.hid hrun, Lib.hid hv2.cell, Lib.hid hv2.frozen, Lib.hid ⟨_, hv3, ho3⟩, Lib.hid ?_, Lib.hid ?_, Lib.hid ?_⟩
  · refine (KeepsOthers.of_grownBy (row := none) (Below.grow hb1) (fun j o e => by cases e)).trans ((KeepsOthers.of_grownBy hg (fun j o e ho => ?_)).trans (KeepsOthers.setCell _ _ _))
    obtain ⟨cur, hc⟩ := ho1.rowCells j e
    rw [hc] at ho; cases ho; rfl
  · have hrW := rowOf_boxed hv
    have hr3 := rowOf_boxed hv3
    refine ⟨Nat.le_trans hsz hg3.size, fun b hb => ?_, ?_, fun _ => BoxL.rowLt ⟨_, hv3, ho3⟩⟩
    · have hbl := hb.2.2.lt
      have hb2 := hb.2.1
      rw [hrW] at hb2
      exact (hg3.block b (Nat.lt_of_lt_of_le hbl hsz) (fun e => hb.1 (by cases e; rfl))).trans ((hg.block b (Nat.lt_of_lt_of_le hbl hb1.size) hb2).trans (hb1.block b hbl))
    · rw [hr3, hrW]
      rcases hat with h | ⟨k, h1, h2⟩
      · exact .inl h
      · exact .inr ⟨k, h1, Nat.le_trans hb1.size h2⟩
  · exact ((hb1.mono hbs).grown hg (Nat.le_trans hbs hb1.size) (fun k e => (ho1.lt k e).1)).grown hg3 (Nat.le_trans hbs hsz) (fun k e => by cases e; exact hb0)
end
end Go.Proofs.YtpmnnoopoblpgaaGreat
