/- The proof of a statement, some of its texts joined in build order: part V. -/
import Derived.Test.YtpmnnoopoblpgaaGreatMtD
import Derived.Test.YtpmnnoopoblpgaaGreatMtB
import Derived.Test.YtpmnnoopoblpgaaGreatWalkL
import Derived.Test.YtpmnnoopoblpgaaGreatMath6
import Derived.Test.YtpmnnoopoblpgaaGreatRegion
import Derived.Deep.Cut
import Derived.Test.YtpmnnoopoblpgaaGreatWalkE
import Derived.Test.YtpmnnoopoblpgaaGreatLit
/- The box of the reference's Match in the world; positions in terms. -/
namespace Go.Proofs.YtpmnnoopoblpgaaGreat
open Go Go.RowKit Go.Maps

/-- the box of 12 terms -/
structure BoxM (w : World) (xb : Nat) (B : Bd) : Prop where
  blk : ∃ vs : List Value, w.heap[xb]? = some (.cells vs.toArray 120 (0, 0)) ∧ vs.length = 12 ∧ ∀ i (h : i < vs.length), SlotW (fun b => b ≠ xb) w (B (-(i : Int) - 1)) vs[i]
section
variable {w w' : World} {xb : Nat} {B : Bd}
theorem BoxM.lt (h : BoxM w xb B) : xb < w.heap.size := by obtain ⟨vs, h1, -⟩ := h.blk; exact (Array.getElem?_eq_some_iff.1 h1).1
theorem BoxM.below (h : BoxM w xb B) (hb : Below w.heap.size w w') : BoxM w' xb B := by
  obtain ⟨vs, h1, h2, h3⟩ := h.blk
  exact ⟨⟨vs, (hb.block xb h.lt).trans h1, h2, fun i hi => (h3 i hi).mono (fun _ _ h => h) (.all hb)⟩⟩
theorem BoxM.frozen (h : BoxM w xb B) (o : Nat) : w.frozen? ⟨xb, o, none⟩ = false := by
  obtain ⟨vs, h1, -⟩ := h.blk
  simp [World.frozen?, h1]
theorem BoxM.set (h : BoxM w xb B) {n : Nat} {q : List Int} {a : Option Addr} {c : Nat} (hq : Ints (fun b => b ≠ xb) w a c q) :
    BoxM (w.setCell ⟨xb, n, none⟩ (.slice a q.length c)) xb (upB B (-(n : Int) - 1) q) := by
  obtain ⟨vs, h1, h2, h3⟩ := h.blk
  have hg := gby_set w xb n (.slice a q.length c)
  have hA : Agree (fun b => b ≠ xb) w (w.setCell ⟨xb, n, none⟩ (.slice a q.length c)) := .of_grown hg (fun b hb e => hb (by cases e; rfl))
  refine ⟨⟨vs.set n (.slice a q.length c), ?_, by simp [h2], fun i hi => ?_⟩⟩
  · rw [heap_set h1]
    simp
  · rw [List.length_set] at hi
    rw [List.getElem_set]
    unfold upB
    by_cases e : n = i
    · rw [if_pos e, if_pos (by omega)]; exact ⟨a, c, rfl, hq.same hA⟩
    · rw [if_neg e, if_neg (by omega)]; exact (h3 i hi).mono (fun _ _ h => h) hA
theorem BoxM.congr {B' : Bd} (h : BoxM w xb B) (he : B = B') : BoxM w xb B' := he ▸ h
theorem BoxM.new (W : World) : BoxM (W.alloc (.cells #[.slice none 0 0, .slice none 0 0, .slice none 0 0, .slice none 0 0, .slice none 0 0, .slice none 0 0, .slice none 0 0, .slice none 0 0, .slice none 0 0, .slice none 0 0, .slice none 0 0, .slice none 0 0] 120)) W.heap.size (fun _ => none) := by
  refine ⟨⟨List.replicate 12 (.slice none 0 0), ?_, by simp, fun i hi => ?_⟩⟩
  · rw [heap_alloc_new]; rfl
  · rw [List.getElem_replicate]; rfl
end
end Go.Proofs.YtpmnnoopoblpgaaGreat

/- Walks of the reference's solver: look. -/
namespace Go.Proofs.YtpmnnoopoblpgaaGreat
open Go Go.RowKit Go.Maps

/-- looked up in k steps, with where it lies -/
def LkG (S : Nat → Prop) (w : World) (f : Int → Value) (B : Bd) (p : List Int) (a' : Option Addr) (c' : Nat) : Nat → Option Addr → Nat → List Int → Prop
  | 0, a, c, t => (t = p ∧ a = a' ∧ c = c') ∧ ∀ n r, t = n :: r → n < 0 → B n = none
  | k + 1, _, _, t => ∃ n r u a3 c3, t = n :: r ∧ n < 0 ∧ B n = some u ∧ f n = .slice a3 u.length c3 ∧ Ints S w a3 c3 u ∧ LkG S w f B p a' c' k a3 c3 u
theorem LkG.ex {S : Nat → Prop} {w : World} {f : Int → Value} {B : Bd} {p : List Int} (hr : RgB B) (h3 : ∀ n, n < 0 → -24 ≤ n → SlotW S w (B n) (f n)) :
    ∀ (k : Nat) (t : List Int) (a : Option Addr) (c : Nat), Rg t → Ints S w a c t → LkdN B p k t → ∃ a' c', LkG S w f B p a' c' k a c t ∧ Ints S w a' c' p
  | 0, t, a, c, _, hT, ⟨h1, h2⟩ => ⟨a, c, ⟨⟨h1, rfl, rfl⟩, h2⟩, h1 ▸ hT⟩
  | k + 1, t, a, c, rt, hT, ⟨n, r, u, h1, h2, hB, h4⟩ => by
    have hs := h3 n h2 (rt n (by rw [h1]; simp) h2)
    rw [hB] at hs
    obtain ⟨a3, c3, g1, g2⟩ := hs
    obtain ⟨a', c', g3, g4⟩ := LkG.ex hr h3 k u a3 c3 (hr n u hB).1 g2 h4
    exact ⟨a', c', ⟨n, r, u, a3, c3, h1, h2, hB, g1, g2, g3⟩, g4⟩
/-- the cells of the solver's variables -/
theorem SolX.cells {S : Nat → Prop} {w : World} {xb : Nat} {a1 : Option Addr} {c1 : Nat} {s : Sg} {B : Bd} (h : SolX S w xb a1 c1 s B) :
    ∃ f : Int → Value, ∀ n, n < 0 → -24 ≤ n → w.cell? ⟨xb, 1 + (-n - 1).toNat, none⟩ = some (f n) ∧ SlotW S w (B n) (f n) := by
  obtain ⟨vs, h1, h2, h3⟩ := h.blk
  refine ⟨fun n => vs.getD (-n - 1).toNat undef, fun n hn h24 => ?_⟩
  have hi : (-n - 1).toNat < vs.length := by omega
  have hg : vs.getD (-n - 1).toNat undef = vs[(-n - 1).toNat] := by rw [List.getD_eq_getElem?_getD, List.getElem?_eq_getElem hi]; rfl
  simp only [hg]
  refine ⟨?_, ?_⟩
  · rw [Nat.add_comm]
    simp [World.cell?, h1]
  · have := h3 _ hi
    rw [show (-(((-n - 1).toNat : Nat) : Int) - 1) = n by omega] at this
    exact this
end Go.Proofs.YtpmnnoopoblpgaaGreat

/- Walks of the reference's solver: occurs. -/
namespace Go.Proofs.YtpmnnoopoblpgaaGreat
open Go Go.RowKit Go.Maps

end Go.Proofs.YtpmnnoopoblpgaaGreat

/- Walks of the reference's solver: Solve. -/
namespace Go.Proofs.YtpmnnoopoblpgaaGreat
open Go Go.RowKit Go.Maps

abbrev Nx (xb : Nat) : Nat → Prop := fun b => b ≠ xb
theorem Lkd.len {B : Bd} {a p : List Int} (h : Lkd B a p) (ha : a.length ≤ 60) (hB : ∀ n u, B n = some u → u.length ≤ 60) : p.length ≤ 60 := by
  induction h with
  | stop _ => exact ha
  | go _ hb _ ih => exact ih (hB _ _ hb)
end Go.Proofs.YtpmnnoopoblpgaaGreat

/- Walks of the reference's solver: Solve of any terms. -/
namespace Go.Proofs.YtpmnnoopoblpgaaGreat
open Go Go.RowKit Go.Maps

theorem Slv2.turn {s : Sg} {B : Bd} {θ : Int → List Int} {ρ : Int → Nat} {a b p q : List Int} {B' : Bd} {θ' : Int → List Int} {ρ' : Int → Nat} (h : Slv s B θ ρ) (ha : W1 s a) (hb : W1 s b) (hp : Lkd B a p) (hq : Lkd B b q) (h2 : Slv2 s B θ ρ q p B' θ' ρ') : Slv2 s B θ ρ a b B' θ' ρ' := by
  refine ⟨h2.slv, h2.rg, fun η hw => ?_, h2.less⟩
  rw [h2.sat η hw]
  constructor
  · rintro ⟨g1, g2⟩
    refine ⟨g1, ?_⟩
    rw [← hp.eta g1 ha (fun n u hB => (h.wf n u hB).1), ← hq.eta g1 hb (fun n u hB => (h.wf n u hB).1), g2]
  · rintro ⟨g1, g2⟩
    refine ⟨g1, ?_⟩
    rw [hp.eta g1 ha (fun n u hB => (h.wf n u hB).1), hq.eta g1 hb (fun n u hB => (h.wf n u hB).1), g2]
theorem keep2 {W4 w1 w2 : World} {xb : Nat} {v : Value} (h : w1.cell? ⟨xb, 0, none⟩ = some v ∧ Below W4.heap.size W4 w1) (hb : Below w1.heap.size w1 w2) : w2.cell? ⟨xb, 0, none⟩ = some v ∧ Below W4.heap.size W4 w2 := ⟨cell_later hb h.1, bcall h.2 hb⟩
def S4 (xb : Nat) (v vi vj : Value) (ci cj : Addr) (wr w' : World) : Prop := w'.cell? ⟨xb, 0, none⟩ = some v ∧ w'.cell? ci = some vi ∧ w'.cell? cj = some vj ∧ wr.grownBy w' (some xb)
theorem S4.call {xb : Nat} {v vi vj : Value} {ci cj : Addr} {wr w1 w2 : World} (h : w1.cell? ⟨xb, 0, none⟩ = some v ∧ w1.cell? ci = some vi ∧ w1.cell? cj = some vj ∧ wr.grownBy w1 (some xb)) (hb : Below w1.heap.size w1 w2) : w2.cell? ⟨xb, 0, none⟩ = some v ∧ w2.cell? ci = some vi ∧ w2.cell? cj = some vj ∧ wr.grownBy w2 (some xb) :=
  ⟨cell_later hb h.1, cell_later hb h.2.1, cell_later hb h.2.2.1, gby_trans h.2.2.2 (gby_below hb)⟩
theorem S4.solve {xb : Nat} {vi vj : Value} {ci cj : Addr} {wr w1 w2 : World} {a1 : Option Addr} {c1 : Nat} {s : Sg} {B : Bd} (h : w1.cell? ⟨xb, 0, none⟩ = some (.slice a1 s.length c1) ∧ w1.cell? ci = some vi ∧ w1.cell? cj = some vj ∧ wr.grownBy w1 (some xb)) (hi : ci.block ≠ xb) (hj : cj.block ≠ xb) (hg : w1.grownBy w2 (some xb)) (hs : SolX (Nx xb) w2 xb a1 c1 s B) :
    w2.cell? ⟨xb, 0, none⟩ = some (.slice a1 s.length c1) ∧ w2.cell? ci = some vi ∧ w2.cell? cj = some vj ∧ wr.grownBy w2 (some xb) :=
  ⟨hs.sign, (World.cell?_of_block (hg.block _ (World.block_lt_of_cell? _ _ h.2.1) (fun e => hi (by cases e; rfl)))).trans h.2.1, (World.cell?_of_block (hg.block _ (World.block_lt_of_cell? _ _ h.2.2.1) (fun e => hj (by cases e; rfl)))).trans h.2.2.1, gby_trans h.2.2.2 hg⟩
end Go.Proofs.YtpmnnoopoblpgaaGreat

/- Walks: lemmaryref02.matched. -/
namespace Go.Proofs.YtpmnnoopoblpgaaGreat
open Go Go.RowKit Go.Maps

theorem keep1 {W4 w1 w2 : World} {p : Addr} {v : Value} (h : Below W4.heap.size W4 w1 ∧ w1.cell? p = some v) (hb : Below w1.heap.size w1 w2) : Below W4.heap.size W4 w2 ∧ w2.cell? p = some v := ⟨bcall h.1 hb, cell_later hb h.2⟩
def S3 (xb : Nat) (vi vj : Value) (ci cj : Addr) (wr w' : World) : Prop := wr.grownBy w' (some xb) ∧ w'.cell? ci = some vi ∧ w'.cell? cj = some vj
end Go.Proofs.YtpmnnoopoblpgaaGreat

/- Walks: lemmaryref02.Variable, Match, Instance. -/
namespace Go.Proofs.YtpmnnoopoblpgaaGreat
open Go Go.RowKit Go.Maps

end Go.Proofs.YtpmnnoopoblpgaaGreat
