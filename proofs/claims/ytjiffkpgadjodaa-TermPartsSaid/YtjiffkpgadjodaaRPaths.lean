/- Walks: Paths of the reference. -/
import Derived.Test.YtjiffkpgadjodaaWalkZ
namespace Go.Proofs.Ytjiffkpgadjodaa
open Go Go.RowKit Go.Maps

theorem waysOk_all {s : Sg} {t : List Int} (h : okT s t = true) {LL : List (List Int)} (ho : waysOk s t t.length 0 LL) : ∀ j (hj : j < LL.length), LL[j] = way s t j := by
  intro j hj
  have hl : j < t.length := by rw [← ho.1]; exact hj
  refine ho.2 j hj ?_
  rcases Nat.eq_zero_or_pos j with h0 | h0
  · exact .inl h0
  · obtain ⟨q0, k, p, -, hp, hk⟩ := place_parent ((way_place h).2 j hl).1 h0
    have hpb := place_bound (okT_skip0 h) hp
    simp at hpb
    exact .inr (.inl ⟨p, k, by omega, hk⟩)
/-- the paths of the first k parts that are v -/
def pathsK (s : Sg) (t v : List Int) (k : Nat) : List (List Int) := (((PL s t.length t).take k).filter (fun e => decide (e.2 = v))).map (·.1)
theorem pathsK_all {s : Sg} {t v : List Int} (h : okT s t = true) : pathsK s t v t.length = pathsT s t v := by
  unfold pathsK pathsT; rw [List.take_of_length_le (by rw [(way_place h).1]; exact Nat.le_refl _)]
theorem pathsK_len {s : Sg} {t v : List Int} (k : Nat) : (pathsK s t v k).length ≤ k := by
  unfold pathsK
  rw [List.length_map]
  exact Nat.le_trans (List.length_filter_le _ _) (by rw [List.length_take]; omega)
theorem pathsK_succ {s : Sg} {t v : List Int} (h : okT s t = true) {k : Nat} (hk : k < t.length) : pathsK s t v (k + 1) = if partAt s (t.drop k) = v then pathsK s t v k ++ [way s t k] else pathsK s t v k := by
  obtain ⟨hj, he⟩ := ((way_place h).2 k hk).2.1
  unfold pathsK
  rw [List.take_succ_eq_append_getElem hj, List.filter_append, List.map_append, he]
  by_cases hv : partAt s (t.drop k) = v
  · rw [if_pos hv, List.filter_cons_of_pos (by simpa using hv)]; rfl
  · rw [if_neg hv, List.filter_cons_of_neg (by simpa using hv)]; simp

def retPE (r : List (List Int) × Int) (w : World) (e : Ending) (w' : World) : Prop := ∃ v, e = .returned (.tuple #[v, .int .i64 r.2]) ∧ OwnPs (fun _ => True) w' w.heap.size v r.1 ∧ Below w.heap.size w w'
def rpRel (s : Sg) (t v : List Int) (w2 : World) (out i : Value) (wr : World) : Prop :=
  ∃ k : Nat, i = .int .i64 k ∧ k ≤ t.length ∧ OwnPs (fun _ => True) wr w2.heap.size out (pathsK s t v k) ∧ Below w2.heap.size w2 wr
theorem OwnPs.baseMono' {S : Nat → Prop} {w : World} {b b' : Nat} {v : Value} {l : List (List Int)} (h : OwnPs S w b v l) (hb : b' ≤ b) : OwnPs S w b' v l := OwnL.baseMono h hb

end Go.Proofs.Ytjiffkpgadjodaa
