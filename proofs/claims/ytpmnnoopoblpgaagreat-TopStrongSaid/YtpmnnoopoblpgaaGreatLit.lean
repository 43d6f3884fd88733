/- Slices that were just built out of literals. No program is named. -/
import Derived.Test.YtpmnnoopoblpgaaGreatOwn
namespace Go.Proofs.YtpmnnoopoblpgaaGreat
open Go Go.RowKit
theorem Sl.new {α : Type} {E : Enc α} {S : Nat → Prop} (w : World) (vss : List (List Value)) (l : List α) (e : TypeId) (hlen : vss.length = l.length) (hmax : l.length ≤ big) (hR : ∀ i (h1 : i < vss.length) (h2 : i < l.length), E.R S w vss[i] l[i]) :
    Sl E (fun b => S b ∨ b = w.heap.size) (w.alloc (.cells vss.flatten.toArray e)) (some ⟨w.heap.size, 0, none⟩) l.length l := by
  have hln : ∀ x ∈ vss, x.length = E.size := by
    intro x hx'
    obtain ⟨i, hi, rfl⟩ := List.getElem_of_mem hx'
    exact E.len (hR i hi (by omega))
  refine ⟨Nat.le_refl _, hmax, fun h => by simp at h, fun _ => ⟨w.heap.size, 0, rfl, .inr rfl, by simp, fun i hi => ?_⟩⟩
  have hi' : i < vss.length := by omega
  refine ⟨vss[i], hln _ (List.getElem_mem hi'), fun j hj => ?_, E.mono (hR i hi' hi) (fun _ _ h => .inl h) (.all (below1 _ _))⟩
  have hg := flatten_get hln i hi' j hj
  obtain ⟨hlt, hg⟩ := List.getElem?_eq_some_iff.1 hg
  rw [Nat.zero_add]
  rw [cell_new vss.flatten e _ hlt, hg]
theorem Ints.new (w : World) (l : List Int) (e : TypeId) (hmax : l.length ≤ big) (hr : ∀ x ∈ l, inRange x) :
    Ints (fun b => b = w.heap.size) (w.alloc (.cells (l.map (Value.int .i64)).toArray e)) (some ⟨w.heap.size, 0, none⟩) l.length l := by
  have := Sl.new (E := intE) (S := fun _ => False) w (l.map (fun x => [.int .i64 x])) l e (by simp) hmax (fun i h1 h2 => ⟨by simp, hr _ (List.getElem_mem h2)⟩)
  rw [flatten_single] at this
  exact this.weak (fun b h => h.resolve_left (fun h => h))
end Go.Proofs.YtpmnnoopoblpgaaGreat
