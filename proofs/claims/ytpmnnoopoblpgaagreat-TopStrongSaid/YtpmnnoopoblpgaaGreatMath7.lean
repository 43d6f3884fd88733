/- The parts of a term with their paths, by where they begin. No program is named. -/
import Derived.Test.YtpmnnoopoblpgaaGreatMath6
namespace Go.Proofs.YtpmnnoopoblpgaaGreat

/-- the k-th, (k+1)-th .. of the lists, each path with its number in front -/
def glue (k : Nat) : List (List (List Int × List Int)) → List (List Int × List Int)
  | [] => []
  | x :: r => x.map (fun e => ((k : Int) :: e.1, e.2)) ++ glue (k + 1) r
/-- paths and parts -/
def PL (s : Sg) : Nat → List Int → List (List Int × List Int)
  | 0, _ => []
  | f + 1, u => ([], u) :: glue 0 ((argsT s u).map (PL s f))

theorem glue_get : ∀ {M : List (List (List Int × List Int))} {k j i : Nat} (hj : j < M.length) (hi : i < M[j].length),
    (glue k M)[((M.take j).map List.length).sum + i]? = some ((((k + j : Nat) : Int)) :: M[j][i].1, M[j][i].2)
  | [], _, _, _, hj, _ => by simp at hj
  | x :: r, k, 0, i, hj, hi => by
    simp only [List.getElem_cons_zero] at hi
    rw [glue, List.take_zero, List.map_nil, List.sum_nil, Nat.zero_add, List.getElem?_append_left (by simpa using hi)]
    simp [hi]
  | x :: r, k, j + 1, i, hj, hi => by
    simp only [List.getElem_cons_succ, List.length_cons] at hi hj
    have ih := glue_get (M := r) (k := k + 1) (j := j) (i := i) (by omega) hi
    rw [glue, List.take_succ_cons, List.map_cons, List.sum_cons, List.getElem?_append_right (by simp; omega), List.length_map, show x.length + ((r.take j).map List.length).sum + i - x.length = ((r.take j).map List.length).sum + i by omega, ih]
    simp only [List.getElem_cons_succ]
    rw [show k + 1 + j = k + (j + 1) by omega]
theorem glue_len : ∀ (k : Nat) (M : List (List (List Int × List Int))), (glue k M).length = (M.map List.length).sum
  | _, [] => rfl
  | k, x :: r => by rw [glue, List.length_append, List.length_map, glue_len, List.map_cons, List.sum_cons]
/-- an index below a sum lies in one of the summands -/
theorem sum_find : ∀ {l : List Nat} {i : Nat} (_ : i < l.sum), ∃ j i', ∃ hj : j < l.length, i = (l.take j).sum + i' ∧ i' < l[j]
  | [], i, h => by simp at h
  | x :: r, i, h => by
    by_cases hx : i < x
    · exact ⟨0, i, by simp, by simp, by simpa using hx⟩
    · rw [List.sum_cons] at h
      obtain ⟨j, i', hj, e1, e2⟩ := sum_find (l := r) (i := i - x) (by omega)
      refine ⟨j + 1, i', by simp; exact hj, ?_, by simpa using e2⟩
      rw [List.take_succ_cons, List.sum_cons]; omega
theorem flatten_len_sum (M : List (List Int)) : M.flatten.length = (M.map List.length).sum := by
  induction M with
  | nil => rfl
  | cons x r ih => rw [List.flatten_cons, List.length_append, List.map_cons, List.sum_cons, ih]

theorem PL_spec (s : Sg) (t : List Int) : ∀ (f a : Nat) (rest : List Int), skip s 1 (t.drop a) = some rest → (partAt s (t.drop a)).length ≤ f →
    (PL s f (partAt s (t.drop a))).length = (partAt s (t.drop a)).length ∧ ∀ i (h : i < (PL s f (partAt s (t.drop a))).length), place s t (PL s f (partAt s (t.drop a)))[i].1 a = some (a + i) ∧ (PL s f (partAt s (t.drop a)))[i].2 = partAt s (t.drop (a + i)) ∧ ∃ r', skip s 1 (t.drop (a + i)) = some r'
  | 0, a, rest, h, hl => by have := (partAt_eq h).2.2; omega
  | f + 1, a, rest, h, hl => by
    have hso := step_ok h
    obtain ⟨-, e2, e3⟩ := partAt_eq h
    obtain ⟨n, x, hx, hc, hs⟩ := skip_pos (k := 0) e2
    rw [Nat.zero_add] at hs
    have hfl : (partAt s (t.drop a)).length = 1 + (argsT s (partAt s (t.drop a))).flatten.length := by
      have h1 := (splitK_spec s _ _ _ hs).2.1
      rw [List.append_nil] at h1
      have h2 : argsT s (partAt s (t.drop a)) = splitK s (ar s n) x := by rw [hx]; rfl
      rw [h2, h1, hx, List.length_cons]; omega
    obtain ⟨L, hL⟩ : ∃ L, argsT s (partAt s (t.drop a)) = L := ⟨_, rfl⟩
    rw [hL] at hfl
    simp only [hL] at hso
    have hkid : ∀ j (hj : j < L.length), ∃ z, stepTo s t a j = some z ∧ z = a + 1 + (L.take j).flatten.length ∧ (PL s f L[j]).length = L[j].length ∧ ∀ i (hi : i < (PL s f L[j]).length), place s t (PL s f L[j])[i].1 z = some (z + i) ∧ (PL s f L[j])[i].2 = partAt s (t.drop (z + i)) ∧ ∃ r', skip s 1 (t.drop (z + i)) = some r' := by
      intro j hj
      obtain ⟨z, r', h1, h2, h3, h4, -⟩ := hso j hj
      have hle : L[j].length ≤ L.flatten.length := len_flatten (List.getElem_mem hj)
      have ih := PL_spec s t f z r' h3 (by rw [h4]; omega)
      rw [h4] at ih
      exact ⟨z, h1, h2, ih.1, ih.2⟩
    have hlens : (L.map (PL s f)).map List.length = L.map List.length := by
      apply List.ext_getElem
      · simp
      · intro j h1 h2
        have hj : j < L.length := by simpa using h2
        obtain ⟨z, -, -, h5, -⟩ := hkid j hj
        simpa using h5
    have hPL : PL s (f + 1) (partAt s (t.drop a)) = ([], partAt s (t.drop a)) :: glue 0 (L.map (PL s f)) := by rw [PL, hL]
    have hlen : (PL s (f + 1) (partAt s (t.drop a))).length = (partAt s (t.drop a)).length := by
      rw [hPL, List.length_cons, glue_len, hlens, ← flatten_len_sum, hfl]; omega
    refine ⟨hlen, fun i hi => ?_⟩
    cases i with
    | zero =>
      simp only [hPL, List.getElem_cons_zero]
      exact ⟨rfl, rfl, rest, h⟩
    | succ i =>
      rw [hlen, hfl] at hi
      obtain ⟨j, i', hj, e5, e6⟩ := sum_find (l := L.map List.length) (i := i) (by rw [← flatten_len_sum]; omega)
      have hj' : j < L.length := by simpa using hj
      obtain ⟨z, h1, h2, h5, h6⟩ := hkid j hj'
      have e6' : i' < L[j].length := by simpa using e6
      have hg := glue_get (M := L.map (PL s f)) (k := 0) (j := j) (i := i') (by simpa using hj') (by simp only [List.getElem_map]; omega)
      have hsum : (((L.map (PL s f)).take j).map List.length).sum = ((L.map List.length).take j).sum := by rw [← hlens, List.map_take]
      rw [hsum, ← e5] at hg
      have hget : (PL s (f + 1) (partAt s (t.drop a)))[i + 1]? = some (((j : Nat) : Int) :: (PL s f L[j])[i'].1, (PL s f L[j])[i'].2) := by
        rw [hPL, List.getElem?_cons_succ, hg]
        simp only [List.getElem_map, Nat.zero_add]
      have hsum2 : (L.take j).flatten.length = ((L.map List.length).take j).sum := by rw [flatten_len_sum, List.map_take]
      have hzi : z + i' = a + (i + 1) := by omega
      obtain ⟨g1, g2, g3⟩ := h6 i' (by omega)
      rw [hzi] at g1 g2 g3
      have hgg : ∀ (hh : i + 1 < (PL s (f + 1) (partAt s (t.drop a))).length), (PL s (f + 1) (partAt s (t.drop a)))[i + 1] = (((j : Nat) : Int) :: (PL s f L[j])[i'].1, (PL s f L[j])[i'].2) := by
        intro hh
        rw [List.getElem?_eq_getElem hh] at hget
        exact Option.some.inj hget
      rw [hgg]
      refine ⟨?_, g2, g3⟩
      show place s t (((j : Nat) : Int) :: (PL s f L[j])[i'].1) a = some (a + (i + 1))
      rw [place, h1]; exact g1
end Go.Proofs.YtpmnnoopoblpgaaGreat
