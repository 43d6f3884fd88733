/- What the arguments of a call read as: from the form's own reading of data to plain lists. No program is named. -/
import Derived.Test.YtpmnnoopoblpgaaGreatLit
import Derived.ProofKit
import Derived.Deep.Slices
import Derived.OpenShut
import Derived.Deep.Strs
namespace Go.Proofs.YtpmnnoopoblpgaaGreat
open Go Go.RowKit Go.ChangeShapes Go.WideShapes Go.ChangeAt Go.Deep

/-- whatever reads as data of type t reads as some a of E -/
def Gives {α : Type} (P : Program) (t : TypeId) (E : Enc α) : Prop :=
  ∀ (H : Type) (enc : TypeId × Value → H) (w : World) (base : Nat) (spare : Nat → Bool) (held : Bool) (n : Nat) (cs : List Value) (x : DataW H × List MemPlace), DataW.trod enc P w base spare held n t cs = some x → ∃ a : α, E.R (fun _ => True) w cs a

section
variable {P : Program} {t e : TypeId} {α β : Type}
theorem range_of_wf {x : Int} (h : (Lit.int .i64 x).wf = true) : inRange x := by
  have h1 : IntKind.i64.min = -9223372036854775808 := rfl
  have h2 : IntKind.i64.max = 9223372036854775807 := rfl
  simp only [Lit.wf, Bool.and_eq_true, decide_eq_true_eq] at h
  unfold inRange
  omega
theorem gives_int (ht : P.underlying t = some (.int .i64)) : Gives P t intE := by
  intro H enc w base spare held n cs x h
  obtain ⟨v, rfl, _, hw⟩ := DataW.trod_int ht h
  exact ⟨v, rfl, range_of_wf hw⟩
theorem gives_str (ht : P.underlying t = some .string) : Gives P t strE := by
  intro H enc w base spare held n cs x h
  obtain ⟨s, rfl, _, hs⟩ := DataW.trod_string ht h
  exact ⟨s, rfl, by unfold big; unfold maxLen at hs; omega⟩
theorem gives_slice {E : Enc α} (ht : P.underlying t = some (.slice e)) (hc : P.cellsOf e = E.size) (g : Gives P e E) : Gives P t (slE E) := by
  intro H enc w base spare held n cs x h
  rcases open_slice ht h with ⟨rfl, _⟩ | ⟨a, len, cap, m, n', D, Pl, rfl, hb, hl, hm, hmm, _, hel⟩
  · exact ⟨[], none, 0, rfl, .empty⟩
  · have hlm : len ≤ m := by rw [hmm]; split <;> omega
    have hch : ∀ i : Fin len, ∃ vs : List Value, ∃ y : α, vs.length = E.size ∧ (∀ j (hj : j < vs.length), w.cell? ((a.add (i.1 * E.size)).add j) = some vs[j]) ∧ E.R (fun _ => True) w vs y := by
      intro i
      obtain ⟨cs', h1, h2⟩ := hel i.1 (by omega)
      obtain ⟨y, hy⟩ := g H enc w base spare held n' cs' _ h2
      obtain ⟨_, h4, h5⟩ := World.cells?_some h1
      refine ⟨cs', y, by rw [h4, hc], fun j hj => ?_, hy⟩
      rw [← hc, h5 j (by rw [← h4]; exact hj)]
      simp [hj]
    refine ⟨List.ofFn (fun i : Fin len => (Classical.choose (Classical.choose_spec (hch i)))), some a, cap, by simp, ?_⟩
    refine ⟨by simpa using hl, by unfold big; unfold maxLen at hm; omega, fun h => by simp at h, fun hne => ?_⟩
    have hl0 : 0 < len := by
      rcases Nat.eq_zero_or_pos len with h0 | h0
      · subst h0; simp at hne
      · exact h0
    obtain ⟨b, off, spot⟩ := a
    have hs0 := Classical.choose_spec (Classical.choose_spec (hch ⟨0, hl0⟩))
    have hspot : spot = none := by
      have := World.cell?_spot (hs0.2.1 0 (by rw [hs0.1]; exact E.pos))
      simpa [Addr.add] using this
    subst hspot
    have hadd : ∀ k j : Nat, ((⟨b, off, none⟩ : Addr).add k).add j = ⟨b, off + k + j, none⟩ := by
      intro k j; rw [add_add]; unfold Addr.add; split
      · rename_i h0; simp at h0 ⊢ <;> omega
      · simp [Nat.add_assoc]
    have hblt : b < w.heap.size := by
      have := hs0.2.1 0 (by rw [hs0.1]; exact E.pos)
      rw [hadd] at this
      exact World.block_lt_of_cell? w _ this
    refine ⟨b, off, rfl, trivial, hblt, fun i hi => ?_⟩
    have hi' : i < len := by simpa using hi
    have hsp := Classical.choose_spec (Classical.choose_spec (hch ⟨i, hi'⟩))
    refine ⟨_, hsp.1, fun j hj => ?_, ?_⟩
    · rw [← hadd]; exact hsp.2.1 j hj
    · rw [List.getElem_ofFn]; exact hsp.2.2
theorem gives_pair {E : Enc α} {F : Enc β} {f0 f1 : Field} (ht : P.underlying t = some (.struct #[f0, f1])) (h0 : f0.offset = 0) (h1 : f1.offset = E.size) (hc : P.cellsOf t = E.size + F.size)
    (hc0 : P.cellsOf f0.type = E.size) (hc1 : P.cellsOf f1.type = F.size) (g0 : Gives P f0.type E) (g1 : Gives P f1.type F) : Gives P t (pairE E F) := by
  intro H enc w base spare held n cs x h
  obtain ⟨y0, y1, n', _, hl, r0, r1⟩ := trod_struct2 ht h
  obtain ⟨a, ha⟩ := g0 H enc w base spare held n' _ _ r0
  obtain ⟨b, hb⟩ := g1 H enc w base spare held n' _ _ r1
  refine ⟨(a, b), _, _, ?_, ha, hb⟩
  rw [h0, h1, hc0, hc1, List.drop_zero]
  have : (cs.drop E.size).take F.size = cs.drop E.size := List.take_of_length_le (by simp; omega)
  rw [this, List.take_append_drop]
/-- three fields, or an array of three -/
theorem gives_three {E F G : Enc α} {f0 f1 f2 : Field} (ht : P.underlying t = some (.struct #[f0, f1, f2])) (h0 : f0.offset = 0) (h1 : f1.offset = E.size) (h2 : f2.offset = E.size + F.size) (hc : P.cellsOf t = E.size + (F.size + G.size))
    (hc0 : P.cellsOf f0.type = E.size) (hc1 : P.cellsOf f1.type = F.size) (hc2 : P.cellsOf f2.type = G.size) (g0 : Gives P f0.type E) (g1 : Gives P f1.type F) (g2 : Gives P f2.type G) : Gives P t (pairE E (pairE F G)) := by
  intro H enc w base spare held n cs x h
  obtain ⟨y0, y1, y2, n', _, hl, r0, r1, r2⟩ := trod_struct3 ht h
  obtain ⟨a, ha⟩ := g0 H enc w base spare held n' _ _ r0
  obtain ⟨b, hb⟩ := g1 H enc w base spare held n' _ _ r1
  obtain ⟨c, hcc⟩ := g2 H enc w base spare held n' _ _ r2
  refine ⟨(a, b, c), _, _, ?_, ha, _, _, rfl, hb, hcc⟩
  rw [h0, h1, h2, hc0, hc1, hc2, List.drop_zero]
  have e1 : (cs.drop (E.size + F.size)).take G.size = cs.drop (E.size + F.size) := List.take_of_length_le (by simp; omega)
  rw [e1, ← List.drop_drop, List.take_append_drop, List.take_append_drop]
theorem gives_array3 {E : Enc α} (ht : P.underlying t = some (.array 3 e)) (hc : P.cellsOf t = E.size + (E.size + E.size)) (he : P.cellsOf e = E.size) (g : Gives P e E) : Gives P t (pairE E (pairE E E)) := by
  intro H enc w base spare held n cs x h
  obtain ⟨xs, m, _, _, hl, hx, hf⟩ := DataW.trod_array ht h
  match xs, hx with
  | [x0, x1, x2], _ =>
    obtain ⟨a, ha⟩ := g H enc w base spare held m _ _ (hf 0 (by omega))
    obtain ⟨b, hb⟩ := g H enc w base spare held m _ _ (hf 1 (by omega))
    obtain ⟨c, hcc⟩ := g H enc w base spare held m _ _ (hf 2 (by omega))
    refine ⟨(a, b, c), _, _, ?_, ha, _, _, rfl, hb, hcc⟩
    rw [he, Nat.zero_mul, Nat.one_mul, List.drop_zero, Nat.two_mul]
    have e1 : (cs.drop (E.size + E.size)).take E.size = cs.drop (E.size + E.size) := List.take_of_length_le (by simp; omega)
    rw [e1, ← List.drop_drop, List.take_append_drop, List.take_append_drop]
/-- an argument that is a slice -/
theorem Gives.arg {E : Enc α} (g : Gives P t (slE E)) {H : Type} {enc : TypeId × Value → H} {w : World} {base : Nat} {spare : Nat → Bool} {held : Bool} {v : Value} {d : DataW H} {p : List MemPlace}
    (h : DataW.Trod enc P w base spare held t v d p) (hv : ∃ a n c, v = .slice a n c) : ∃ (l : List α) (a : Option Addr) (c : Nat), v = .slice a l.length c ∧ Sl E (fun _ => True) w a c l := by
  obtain ⟨n, hn⟩ := h
  obtain ⟨l, a, c, h1, h2⟩ := g H enc w base spare held n _ _ hn
  obtain ⟨a', n', c', rfl⟩ := hv
  simp [Value.cells] at h1
  obtain ⟨rfl, rfl, rfl⟩ := h1
  exact ⟨l, _, _, rfl, h2⟩
end
theorem okWide_array {P : Program} {w : World} {r : Reach} {base : Nat} {t e : TypeId} {n : Nat} {v : Value} (ht : P.underlying t = some (.array n e)) (h : Value.okWide P w r base t v) : ∃ cs, v = .agg cs := by
  unfold Value.okWide at h
  rw [ht] at h
  obtain ⟨cs, h, _⟩ := h
  exact ⟨cs, h⟩
/-- an argument that is an aggregate -/
theorem Gives.argAgg {P : Program} {t : TypeId} {α : Type} {E : Enc α} (g : Gives P t E) {H : Type} {enc : TypeId × Value → H} {w : World} {base : Nat} {spare : Nat → Bool} {held : Bool} {v : Value} {d : DataW H} {p : List MemPlace}
    (h : DataW.Trod enc P w base spare held t v d p) (hv : ∃ cs, v = .agg cs) : ∃ (x : α) (vs : List Value), v = .agg vs.toArray ∧ E.R (fun _ => True) w vs x := by
  obtain ⟨n, hn⟩ := h
  obtain ⟨x, hx⟩ := g H enc w base spare held n _ _ hn
  obtain ⟨cs, rfl⟩ := hv
  exact ⟨x, cs.toList, by simp, by simpa [Value.cells] using hx⟩
end Go.Proofs.YtpmnnoopoblpgaaGreat
