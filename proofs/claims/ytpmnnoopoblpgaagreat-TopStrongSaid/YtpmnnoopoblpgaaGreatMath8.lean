/- Paths are fixed by where they lead. No program is named. -/
import Derived.Test.YtpmnnoopoblpgaaGreatMath7
namespace Go.Proofs.YtpmnnoopoblpgaaGreat

theorem place_bound {s : Sg} {t : List Int} : ∀ {q : List Int} {a j : Nat} {rest : List Int} (_ : skip s 1 (t.drop a) = some rest) (_ : place s t q a = some j), a ≤ j ∧ j < t.length - rest.length
  | [], a, j, rest, h, hp => by
    simp only [place, Option.some.injEq] at hp
    subst hp
    obtain ⟨-, -, g3, -⟩ := endOf_some s t a rest h
    exact ⟨Nat.le_refl _, g3⟩
  | k :: ks, a, j, rest, h, hp => by
    rw [place] at hp
    cases hy : stepTo s t a k with
    | none => rw [hy] at hp; cases hp
    | some y =>
      rw [hy, Option.bind_some] at hp
      obtain ⟨n, rfl, hn, h1, h2, h3, ry, h4, h5⟩ := step_skip h hy
      have ih := place_bound h4 hp
      have := skip_len _ _ _ _ h5
      omega
theorem step_order {s : Sg} {t : List Int} {a : Nat} {rest : List Int} (h : skip s 1 (t.drop a) = some rest) {k k' : Int} {y y' : Nat} (hy : stepTo s t a k = some y) (hy' : stepTo s t a k' = some y') (hlt : k < k') {ry : List Int} (hr : skip s 1 (t.drop y) = some ry) : t.length - ry.length ≤ y' := by
  obtain ⟨n, rfl, hn, h1, h2, h3, r1, h4, h5⟩ := step_skip h hy
  obtain ⟨n', rfl, hn', g1, g2, g3, r2, g4, g5⟩ := step_skip h hy'
  obtain ⟨d, rfl⟩ : ∃ d, n' = n + (1 + d) := ⟨n' - n - 1, by omega⟩
  rw [skip_add, h1, Option.bind_some, skip_add, hr, Option.bind_some] at g1
  have := skip_len _ _ _ _ g1
  rw [List.length_drop] at this
  omega
theorem place_inj {s : Sg} {t : List Int} : ∀ {q q' : List Int} {a j : Nat} {rest : List Int} (_ : skip s 1 (t.drop a) = some rest) (_ : place s t q a = some j) (_ : place s t q' a = some j), q = q'
  | [], [], _, _, _, _, _, _ => rfl
  | [], k :: ks, a, j, rest, h, hp, hp' => by
    simp only [place, Option.some.injEq] at hp
    subst hp
    rw [place] at hp'
    cases hy : stepTo s t a k with
    | none => rw [hy] at hp'; cases hp'
    | some y =>
      rw [hy, Option.bind_some] at hp'
      obtain ⟨n, rfl, hn, h1, h2, h3, ry, h4, h5⟩ := step_skip h hy
      have := (place_bound h4 hp').1
      omega
  | k :: ks, [], a, j, rest, h, hp, hp' => by
    simp only [place, Option.some.injEq] at hp'
    subst hp'
    rw [place] at hp
    cases hy : stepTo s t a k with
    | none => rw [hy] at hp; cases hp
    | some y =>
      rw [hy, Option.bind_some] at hp
      obtain ⟨n, rfl, hn, h1, h2, h3, ry, h4, h5⟩ := step_skip h hy
      have := (place_bound h4 hp).1
      omega
  | k :: ks, k' :: ks', a, j, rest, h, hp, hp' => by
    rw [place] at hp hp'
    cases hy : stepTo s t a k with
    | none => rw [hy] at hp; cases hp
    | some y =>
      cases hy' : stepTo s t a k' with
      | none => rw [hy'] at hp'; cases hp'
      | some y' =>
        rw [hy, Option.bind_some] at hp
        rw [hy', Option.bind_some] at hp'
        obtain ⟨-, -, -, -, -, -, ry, h4, -⟩ := step_skip h hy
        obtain ⟨-, -, -, -, -, -, ry', h4', -⟩ := step_skip h hy'
        have b1 := place_bound h4 hp
        have b2 := place_bound h4' hp'
        rcases Int.lt_trichotomy k k' with hk | hk | hk
        · have := step_order h hy hy' hk h4; omega
        · subst hk
          rw [hy] at hy'
          obtain rfl := Option.some.inj hy'
          rw [place_inj h4 hp hp']
        · have := step_order h hy' hy hk h4'; omega
theorem place_append {s : Sg} {t : List Int} : ∀ (q : List Int) (k : Int) (a : Nat), place s t (q ++ [k]) a = (place s t q a).bind (fun p => stepTo s t p k)
  | [], k, a => by
    simp only [List.nil_append, place, Option.bind_some]
    cases stepTo s t a k <;> rfl
  | x :: q, k, a => by
    rw [List.cons_append, place, place]
    cases stepTo s t a x with
    | none => rfl
    | some y => rw [Option.bind_some, Option.bind_some]; exact place_append q k y
theorem snoc_cases (q : List Int) (h : q ≠ []) : ∃ q0 k, q = q0 ++ [k] := ⟨q.dropLast, q.getLast h, (List.dropLast_concat_getLast h).symm⟩
/-- each place but the first is an argument of one before it -/
theorem place_parent {s : Sg} {t q : List Int} {j : Nat} (h : place s t q 0 = some j) (hj : 0 < j) : ∃ q0 k p, q = q0 ++ [k] ∧ place s t q0 0 = some p ∧ stepTo s t p k = some j := by
  have hq : q ≠ [] := by
    intro e; subst e
    simp only [place, Option.some.injEq] at h
    omega
  obtain ⟨q0, k, rfl⟩ := snoc_cases q hq
  rw [place_append] at h
  cases hp : place s t q0 0 with
  | none => rw [hp] at h; cases h
  | some p => rw [hp, Option.bind_some] at h; exact ⟨q0, k, p, rfl, hp, h⟩
/-- the path to a place -/
def way (s : Sg) (t : List Int) (j : Nat) : List Int := (((PL s t.length t)[j]?).getD ([], [])).1
theorem way_place {s : Sg} {t : List Int} (h : okT s t = true) : (PL s t.length t).length = t.length ∧ ∀ j, j < t.length → place s t (way s t j) 0 = some j ∧ (∃ hj : j < (PL s t.length t).length, (PL s t.length t)[j] = (way s t j, partAt s (t.drop j))) ∧ ∃ r, skip s 1 (t.drop j) = some r := by
  have hp := PL_spec s t t.length 0 [] (okT_skip0 h) (by rw [partAt_all h]; exact Nat.le_refl _)
  rw [partAt_all h] at hp
  refine ⟨hp.1, fun j hj => ?_⟩
  have hj' : j < (PL s t.length t).length := by omega
  obtain ⟨g1, g2, g3⟩ := hp.2 j hj'
  rw [Nat.zero_add] at g1 g2 g3
  have hw : way s t j = (PL s t.length t)[j].1 := by unfold way; rw [List.getElem?_eq_getElem hj']; rfl
  exact ⟨by rw [hw]; exact g1, ⟨hj', Prod.ext hw.symm g2⟩, g3⟩
theorem way_zero {s : Sg} {t : List Int} (h : okT s t = true) : way s t 0 = [] := by
  have hl := (okT_parts h).2.1
  exact place_inj (okT_skip0 h) ((way_place h).2 0 (by omega)).1 rfl
theorem way_step {s : Sg} {t : List Int} (h : okT s t = true) {p j : Nat} {k : Int} (hp : p < t.length) (hs : stepTo s t p k = some j) : j < t.length ∧ p < j ∧ way s t j = way s t p ++ [k] := by
  obtain ⟨g1, -, r, g3⟩ := (way_place h).2 p hp
  obtain ⟨n, rfl, hn, h1, h2, h3, ry, h4, h5⟩ := step_skip g3 hs
  have hl := skip_len _ _ _ _ h4
  rw [List.length_drop] at hl
  have hj : j < t.length := by omega
  refine ⟨hj, h2, place_inj (okT_skip0 h) ((way_place h).2 j hj).1 ?_⟩
  rw [place_append, g1]; exact hs
/-- the parts that are equal to a term: their paths -/
def pathsT (s : Sg) (t v : List Int) : List (List Int) := ((PL s t.length t).filter (fun e => decide (e.2 = v))).map (·.1)
def pathsE (s : Sg) (t v : List Int) : List (List Int) × Int := if okT s t = true ∧ okT s v = true then (pathsT s t v, 0) else ([], 1)
theorem pathsT_at {s : Sg} {t v : List Int} (h : okT s t = true) : ∀ q ∈ pathsT s t v, atE s t q = (v, 0) := by
  intro q hq
  obtain ⟨e, he, rfl⟩ := List.mem_map.1 hq
  rw [List.mem_filter, decide_eq_true_eq] at he
  obtain ⟨he, hv⟩ := he
  obtain ⟨j, hj, rfl⟩ := List.getElem_of_mem he
  obtain ⟨hl, hw⟩ := way_place h
  obtain ⟨g1, ⟨hj', g2⟩, -⟩ := hw j (by omega)
  rw [g2] at hv ⊢
  rw [atE_some h g1]
  simpa using hv
end Go.Proofs.YtpmnnoopoblpgaaGreat
