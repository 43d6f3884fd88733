/- Walks: Counts, of both; Vars of the reference; slices.Contains. -/
import Derived.Test.YtgkddhakhapjlaaDoorWalkV
import Derived.Test.YtgkddhakhapjlaaDoorWalkI
namespace Go.Proofs.YtgkddhakhapjlaaDoor
open Go Go.RowKit Go.Maps

def varsE (s : Sg) (t : List Int) : List Int × Int := errE s t (varsV t)
/-! ### Counts -/
def cntL (n : Nat) (t : List Int) : List Int := (List.range n).map (fun (j : Nat) => ((t.count ((j : Nat) : Int) : Nat) : Int))
theorem cntL_length (n : Nat) (t : List Int) : (cntL n t).length = n := by simp [cntL]
theorem cntL_nil (n : Nat) : cntL n [] = List.replicate n 0 := by
  apply List.ext_getElem
  · simp [cntL]
  · intro i h1 h2; simp [cntL]
theorem cntL_get {n k : Nat} {t : List Int} (h : k < n) : (cntL n t)[k]'(by rw [cntL_length]; exact h) = ((t.count (k : Int) : Nat) : Int) := by simp [cntL]
theorem cntL_pos {n x k : Nat} {t : List Int} (hk : k < t.length) (hx : t[k] = (x : Int)) (_hn : x < n) : (cntL n (t.take k)).set x (((t.take k).count (x : Int) : Nat) + 1) = cntL n (t.take (k + 1)) := by
  rw [List.take_succ_eq_append_getElem hk]
  apply List.ext_getElem
  · simp [cntL]
  · intro i h1 h2
    rw [List.length_set, cntL_length] at h1
    rw [List.getElem_set, cntL_get h1, cntL_get h1]
    by_cases hi : x = i
    · subst hi
      rw [if_pos rfl, List.count_append, hx]; simp
    · rw [if_neg hi, List.count_append, hx]
      have : ([(x : Int)] : List Int).count (i : Int) = 0 := by rw [List.count_eq_zero]; simp; omega
      rw [this]; simp
theorem cntL_neg {n k : Nat} {t : List Int} (hk : k < t.length) (hx : t[k] < 0) : cntL n (t.take (k + 1)) = cntL n (t.take k) := by
  rw [List.take_succ_eq_append_getElem hk]
  apply List.ext_getElem
  · simp [cntL]
  · intro i h1 h2
    rw [cntL_length] at h1
    rw [cntL_get h1, cntL_get h1, List.count_append]
    have : ([t[k]] : List Int).count (i : Int) = 0 := by rw [List.count_eq_zero]; simp; omega
    rw [this]; simp
theorem okT_codes {s : Sg} {t : List Int} (h : okT s t = true) : ∀ x ∈ t, x < 0 ∨ (0 ≤ x ∧ x < s.length) := by
  intro x hx
  have := skip_codes s 1 t (okT_parts h).2.2.2 x hx
  simp [codeOk] at this
  omega
def cntE (s : Sg) (t : List Int) : List Int × Int := errE s t (cntL s.length t)
def cntRel (n : Nat) (t : List Int) (w : World) (B g cap : Nat) (i : Value) (wr : World) : Prop := ∃ k : Nat, i = .int .i64 k ∧ k ≤ t.length ∧ OwnI wr B (.slice (some ⟨g, 0, none⟩) n cap) (cntL n (t.take k)) ∧ Below B w wr
theorem makeZeros {W : World} (n : Nat) (hn : n ≤ 100) : (Instr.makeSlice 34 (.int .i64 (n : Int)) (.int .i64 (n : Int))).run Tryd.prog W = .ok (.slice (some ⟨W.heap.size, 0, none⟩) n n) (W.alloc (.cells (Array.replicate n (.int .i64 0)) 3)) := by
  obtain ⟨i, hi, hz0, hz1, hz2⟩ := info_parts infoInt
  have := run_make (P := Tryd.prog) W 34 3 i (.int .i64 0) Tryd.underlying34 hi hz0 .i64 .i64 n n (by omega) (by omega) (by rw [hz2]; omega) (by omega)
  rw [this, hz1, Int.toNat_natCast, Nat.mul_one]
  have hm : madeCells (Value.int .i64 0).cells n = Array.replicate n (.int .i64 0) := by
    apply Array.ext
    · simp [madeCells]
    · intro i h1 h2; simp [madeCells, Value.cells, Nat.mod_one]
  rw [hm]
end Go.Proofs.YtgkddhakhapjlaaDoor
