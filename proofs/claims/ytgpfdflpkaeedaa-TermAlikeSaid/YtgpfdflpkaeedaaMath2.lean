/- More on terms as lists: renaming one number after the other. No program is named. -/
import Derived.Test.YtgpfdflpkaeedaaMath
namespace Go.Proofs.Ytgpfdflpkaeedaa

/-- the i-th number while its name is looked for among the first j variables -/
def midW (t : List Int) (j : Nat) (x : Int) : Int := if x ∈ (varsC t).take j then canonW (varsC t) x else x
theorem midW_zero (t : List Int) (x : Int) : midW t 0 x = x := by simp [midW]
theorem idxOf_getElem {l : List Int} (h : l.Nodup) {j : Nat} (hj : j < l.length) : l.idxOf l[j] = j := by
  exact List.Nodup.idxOf_getElem h j hj
theorem midW_hit {t : List Int} {j : Nat} (hj : j < (varsC t).length) : midW t (j + 1) (varsC t)[j] = -(j : Int) - 1 := by
  have hm : (varsC t)[j] ∈ (varsC t).take (j + 1) := List.mem_take_iff_getElem.2 ⟨j, by omega, rfl⟩
  unfold midW
  rw [if_pos hm, canonW_neg (mem_varsC.1 (List.getElem_mem hj)).2, idxOf_getElem (varsC_nodup t) hj]
theorem midW_miss {t : List Int} {j : Nat} {x : Int} (hj : j < (varsC t).length) (h : x ≠ (varsC t)[j]) : midW t (j + 1) x = midW t j x := by
  unfold midW
  have : x ∈ (varsC t).take (j + 1) ↔ x ∈ (varsC t).take j := by
    rw [List.take_succ_eq_append_getElem hj, List.mem_append, List.mem_singleton]
    exact ⟨fun h' => h'.resolve_right h, .inl⟩
  by_cases hx : x ∈ (varsC t).take j
  · rw [if_pos hx, if_pos (this.2 hx)]
  · rw [if_neg hx, if_neg (fun e => hx (this.1 e))]
theorem midW_all {t : List Int} {j : Nat} {x : Int} (hj : (varsC t).length ≤ j) (hx : x ∈ t) : midW t j x = canonW (varsC t) x := by
  unfold midW
  rw [List.take_of_length_le hj]
  split
  · rfl
  · rename_i h
    have : ¬ x < 0 := fun hn => h (mem_varsC.2 ⟨hx, hn⟩)
    rw [canonW_pos (by omega)]
theorem doneTo_set_same {f : Int → Int} {t : List Int} {k : Nat} (h : k < t.length) : (doneTo f t k).set k t[k] = doneTo f t k := by
  have h' : k < (doneTo f t k).length := by rw [doneTo_length]; exact h
  have := doneTo_get (f := f) h
  rw [← this, List.set_getElem_self]
theorem varsV_get {t : List Int} {j : Nat} (h : j < (varsV t).length) : (varsV t)[j] = vnum ((varsC t)[j]'(by simpa [varsV] using h)) := by
  simp [varsV]
theorem flat_get (x : Int) : (fun n : Int => if n < 0 then -1 else n) x = max x (-1) := by
  simp only []
  split <;> omega
end Go.Proofs.Ytgpfdflpkaeedaa
