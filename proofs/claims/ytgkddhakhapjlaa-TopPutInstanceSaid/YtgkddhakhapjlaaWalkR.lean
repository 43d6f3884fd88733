/- Walks: Built. -/
import Derived.Test.YtgkddhakhapjlaaWalkQ
namespace Go.Proofs.Ytgkddhakhapjlaa
open Go Go.RowKit Go.Maps

theorem OwnTs.lit1 {w : World} {a : Option Addr} {c : Nat} {u : List Int} {T : Nat → Prop} (h : Ints T w a c u) :
    OwnTs (fun _ => True) (w.alloc (.cells #[.slice a u.length c] 25)) w.heap.size (.slice (some ⟨w.heap.size, 0, none⟩) 1 1) [u] := by
  have hr := World.ownsRow_lit (base := w.heap.size) (e := 25) (size := 1) w #[.slice a u.length c] 1 (Nat.le_refl _) (by unfold maxLen; omega) (by simp)
  refine ⟨[[.slice a u.length c]], hr, rfl, fun i h1 h2 => ?_⟩
  match i, h1 with
  | 0, _ => exact ⟨a, c, rfl, (h.lt.weak (S' := Off (fun _ => True) (.slice (some ⟨w.heap.size, 0, none⟩) 1 1)) (fun b hb => ⟨trivial, fun e => by simp [Value.ownBlock] at e; omega⟩)).below (below1 _ _)⟩

theorem lit_append {S2 : Nat → Prop} {w w2 : World} {a2 : Option Addr} {c2 : Nat} {L : List (List Int)} (n : Int) (hn : inRange n) (h2 : Terms S2 w a2 c2 L) (hB : Below w.heap.size w w2) (hl : L.length ≤ 1000000) :
    ∃ a c w', RowKit.Hid ((Builtin.append_ #[37, 37] 37 #[.slice (some ⟨w2.heap.size + 1, 0, none⟩) 1 1, .slice a2 L.length c2]).run Try.prog ((w2.alloc (.cells #[.int .i64 n] 3)).alloc (.cells #[.slice (some ⟨w2.heap.size, 0, none⟩) 1 1] 25)) = .ok (.slice a (L.length + 1) c) w') ∧
      RowKit.Hid (Terms (fun _ => True) w' a c ([n] :: L)) ∧ RowKit.Hid (Below w2.heap.size w2 w') := by
  have hI : Ints (fun _ => True) (w2.alloc (.cells #[.int .i64 n] 3)) (some ⟨w2.heap.size, 0, none⟩) 1 [n] := by
    have := OwnL.lit (S := fun _ => False) w2 [n] 3 (by simpa using hn) (by unfold maxLen; simp)
    obtain ⟨a, c, he, hI⟩ := OwnI.ints this
    simp at he
    obtain ⟨rfl, rfl⟩ := he
    exact hI.any
  have ho := OwnTs.lit1 hI
  simp only [World.size_alloc] at ho
  have hB' : Below w.heap.size w ((w2.alloc (.cells #[.int .i64 n] 3)).alloc (.cells #[.slice (some ⟨w2.heap.size, 0, none⟩) 1 1] 25)) := hB.trans ((below2 _ _ _).mono hB.size)
  obtain ⟨v', w', hrun, ho', hg, -, -⟩ := ho.append_run (P := Try.prog) (t := 37) (ty := 37) Try.underlying37 infoTerm rfl (h2.lt.below hB') (fun i hi vs h => (slE intE).mono h (fun b _ hb => ⟨trivial, fun e => by have := hB.size; simp [Value.ownBlock] at e; omega⟩) (.refl _ _)) (by simp; omega) (by unfold big; simp; omega) (by simp)
  have hBn := (below2 w2 (.cells #[.int .i64 n] 3) (.cells #[.slice (some ⟨w2.heap.size, 0, none⟩) 1 1] 25)).grown hg (by simp; omega) (fun k e => by simp [Value.ownBlock] at e; omega)
  obtain ⟨a, c, rfl, hT⟩ := ho'.sl
  refine ⟨a, c, w', Lib.hid ?_, Lib.hid hT.any, Lib.hid hBn⟩
  simpa [Nat.add_comm] using hrun

end Go.Proofs.Ytgkddhakhapjlaa
