/- The proof of one statement, its texts joined in build order, part 3 of 3. Each part below begins with its own remark. -/
import Derived.Test.YtgkddhakhapjlaaAb2
import Derived.Test.YtgkddhakhapjlaaAb1
/- The parts of a term with their paths, by where they begin. No program is named. -/
namespace Go.Proofs.Ytgkddhakhapjlaa

/-- the k-th, (k+1)-th .. of the lists, each path with its number in front -/
def glue (k : Nat) : List (List (List Int × List Int)) → List (List Int × List Int)
  | [] => []
  | x :: r => x.map (fun e => ((k : Int) :: e.1, e.2)) ++ glue (k + 1) r
/-- paths and parts -/
def PL (s : Sg) : Nat → List Int → List (List Int × List Int)
  | 0, _ => []
  | f + 1, u => ([], u) :: glue 0 ((argsT s u).map (PL s f))

theorem glue_get : ∀ {M : List (List (List Int × List Int))} {k j i : Nat} (hj : j < M.length) (hi : i < M[j].length),
    (glue k M)[((M.take j).map List.length).sum + i]? = some ((((k + j : Nat) : Int)) :: M[j][i].1, M[j][i].2)
  | [], _, _, _, hj, _ => by simp at hj
  | x :: r, k, 0, i, hj, hi => by
    simp only [List.getElem_cons_zero] at hi
    rw [glue, List.take_zero, List.map_nil, List.sum_nil, Nat.zero_add, List.getElem?_append_left (by simpa using hi)]
    simp [hi]
  | x :: r, k, j + 1, i, hj, hi => by
    simp only [List.getElem_cons_succ, List.length_cons] at hi hj
    have ih := glue_get (M := r) (k := k + 1) (j := j) (i := i) (by omega) hi
    rw [glue, List.take_succ_cons, List.map_cons, List.sum_cons, List.getElem?_append_right (by simp; omega), List.length_map, show x.length + ((r.take j).map List.length).sum + i - x.length = ((r.take j).map List.length).sum + i by omega, ih]
    simp only [List.getElem_cons_succ]
    rw [show k + 1 + j = k + (j + 1) by omega]
theorem glue_len : ∀ (k : Nat) (M : List (List (List Int × List Int))), (glue k M).length = (M.map List.length).sum
  | _, [] => rfl
  | k, x :: r => by rw [glue, List.length_append, List.length_map, glue_len, List.map_cons, List.sum_cons]
/-- an index below a sum lies in one of the summands -/
theorem sum_find : ∀ {l : List Nat} {i : Nat} (_ : i < l.sum), ∃ j i', ∃ hj : j < l.length, i = (l.take j).sum + i' ∧ i' < l[j]
  | [], i, h => by simp at h
  | x :: r, i, h => by
    by_cases hx : i < x
    · exact ⟨0, i, by simp, by simp, by simpa using hx⟩
    · rw [List.sum_cons] at h
      obtain ⟨j, i', hj, e1, e2⟩ := sum_find (l := r) (i := i - x) (by omega)
      refine ⟨j + 1, i', by simp; exact hj, ?_, by simpa using e2⟩
      rw [List.take_succ_cons, List.sum_cons]; omega
theorem flatten_len_sum (M : List (List Int)) : M.flatten.length = (M.map List.length).sum := by
  induction M with
  | nil => rfl
  | cons x r ih => rw [List.flatten_cons, List.length_append, List.map_cons, List.sum_cons, ih]

theorem PL_spec (s : Sg) (t : List Int) : ∀ (f a : Nat) (rest : List Int), skip s 1 (t.drop a) = some rest → (partAt s (t.drop a)).length ≤ f →
    (PL s f (partAt s (t.drop a))).length = (partAt s (t.drop a)).length ∧ ∀ i (h : i < (PL s f (partAt s (t.drop a))).length), place s t (PL s f (partAt s (t.drop a)))[i].1 a = some (a + i) ∧ (PL s f (partAt s (t.drop a)))[i].2 = partAt s (t.drop (a + i)) ∧ ∃ r', skip s 1 (t.drop (a + i)) = some r'
  | 0, a, rest, h, hl => by have := (partAt_eq h).2.2; omega
  | f + 1, a, rest, h, hl => by
    have hso := step_ok h
    obtain ⟨-, e2, e3⟩ := partAt_eq h
    obtain ⟨n, x, hx, hc, hs⟩ := skip_pos (k := 0) e2
    rw [Nat.zero_add] at hs
    have hfl : (partAt s (t.drop a)).length = 1 + (argsT s (partAt s (t.drop a))).flatten.length := by
      have h1 := (splitK_spec s _ _ _ hs).2.1
      rw [List.append_nil] at h1
      have h2 : argsT s (partAt s (t.drop a)) = splitK s (ar s n) x := by rw [hx]; rfl
      rw [h2, h1, hx, List.length_cons]; omega
    obtain ⟨L, hL⟩ : ∃ L, argsT s (partAt s (t.drop a)) = L := ⟨_, rfl⟩
    rw [hL] at hfl
    simp only [hL] at hso
    have hkid : ∀ j (hj : j < L.length), ∃ z, stepTo s t a j = some z ∧ z = a + 1 + (L.take j).flatten.length ∧ (PL s f L[j]).length = L[j].length ∧ ∀ i (hi : i < (PL s f L[j]).length), place s t (PL s f L[j])[i].1 z = some (z + i) ∧ (PL s f L[j])[i].2 = partAt s (t.drop (z + i)) ∧ ∃ r', skip s 1 (t.drop (z + i)) = some r' := by
      intro j hj
      obtain ⟨z, r', h1, h2, h3, h4, -⟩ := hso j hj
      have hle : L[j].length ≤ L.flatten.length := len_flatten (List.getElem_mem hj)
      have ih := PL_spec s t f z r' h3 (by rw [h4]; omega)
      rw [h4] at ih
      exact ⟨z, h1, h2, ih.1, ih.2⟩
    have hlens : (L.map (PL s f)).map List.length = L.map List.length := by
      apply List.ext_getElem
      · simp
      · intro j h1 h2
        have hj : j < L.length := by simpa using h2
        obtain ⟨z, -, -, h5, -⟩ := hkid j hj
        simpa using h5
    have hPL : PL s (f + 1) (partAt s (t.drop a)) = ([], partAt s (t.drop a)) :: glue 0 (L.map (PL s f)) := by rw [PL, hL]
    have hlen : (PL s (f + 1) (partAt s (t.drop a))).length = (partAt s (t.drop a)).length := by
      rw [hPL, List.length_cons, glue_len, hlens, ← flatten_len_sum, hfl]; omega
    refine ⟨hlen, fun i hi => ?_⟩
    cases i with
    | zero =>
      simp only [hPL, List.getElem_cons_zero]
      exact ⟨rfl, rfl, rest, h⟩
    | succ i =>
      rw [hlen, hfl] at hi
      obtain ⟨j, i', hj, e5, e6⟩ := sum_find (l := L.map List.length) (i := i) (by rw [← flatten_len_sum]; omega)
      have hj' : j < L.length := by simpa using hj
      obtain ⟨z, h1, h2, h5, h6⟩ := hkid j hj'
      have e6' : i' < L[j].length := by simpa using e6
      have hg := glue_get (M := L.map (PL s f)) (k := 0) (j := j) (i := i') (by simpa using hj') (by simp only [List.getElem_map]; omega)
      have hsum : (((L.map (PL s f)).take j).map List.length).sum = ((L.map List.length).take j).sum := by rw [← hlens, List.map_take]
      rw [hsum, ← e5] at hg
      have hget : (PL s (f + 1) (partAt s (t.drop a)))[i + 1]? = some (((j : Nat) : Int) :: (PL s f L[j])[i'].1, (PL s f L[j])[i'].2) := by
        rw [hPL, List.getElem?_cons_succ, hg]
        simp only [List.getElem_map, Nat.zero_add]
      have hsum2 : (L.take j).flatten.length = ((L.map List.length).take j).sum := by rw [flatten_len_sum, List.map_take]
      have hzi : z + i' = a + (i + 1) := by omega
      obtain ⟨g1, g2, g3⟩ := h6 i' (by omega)
      rw [hzi] at g1 g2 g3
      have hgg : ∀ (hh : i + 1 < (PL s (f + 1) (partAt s (t.drop a))).length), (PL s (f + 1) (partAt s (t.drop a)))[i + 1] = (((j : Nat) : Int) :: (PL s f L[j])[i'].1, (PL s f L[j])[i'].2) := by
        intro hh
        rw [List.getElem?_eq_getElem hh] at hget
        exact Option.some.inj hget
      rw [hgg]
      refine ⟨?_, g2, g3⟩
      show place s t (((j : Nat) : Int) :: (PL s f L[j])[i'].1) a = some (a + (i + 1))
      rw [place, h1]; exact g1
end Go.Proofs.Ytgkddhakhapjlaa

/- Paths are fixed by where they lead. No program is named. -/
namespace Go.Proofs.Ytgkddhakhapjlaa

theorem place_bound {s : Sg} {t : List Int} : ∀ {q : List Int} {a j : Nat} {rest : List Int} (_ : skip s 1 (t.drop a) = some rest) (_ : place s t q a = some j), a ≤ j ∧ j < t.length - rest.length
  | [], a, j, rest, h, hp => by
    simp only [place, Option.some.injEq] at hp
    subst hp
    obtain ⟨-, -, g3, -⟩ := endOf_some s t a rest h
    exact ⟨Nat.le_refl _, g3⟩
  | k :: ks, a, j, rest, h, hp => by
    rw [place] at hp
    cases hy : stepTo s t a k with
    | none => rw [hy] at hp; cases hp
    | some y =>
      rw [hy, Option.bind_some] at hp
      obtain ⟨n, rfl, hn, h1, h2, h3, ry, h4, h5⟩ := step_skip h hy
      have ih := place_bound h4 hp
      have := skip_len _ _ _ _ h5
      omega
theorem step_order {s : Sg} {t : List Int} {a : Nat} {rest : List Int} (h : skip s 1 (t.drop a) = some rest) {k k' : Int} {y y' : Nat} (hy : stepTo s t a k = some y) (hy' : stepTo s t a k' = some y') (hlt : k < k') {ry : List Int} (hr : skip s 1 (t.drop y) = some ry) : t.length - ry.length ≤ y' := by
  obtain ⟨n, rfl, hn, h1, h2, h3, r1, h4, h5⟩ := step_skip h hy
  obtain ⟨n', rfl, hn', g1, g2, g3, r2, g4, g5⟩ := step_skip h hy'
  obtain ⟨d, rfl⟩ : ∃ d, n' = n + (1 + d) := ⟨n' - n - 1, by omega⟩
  rw [skip_add, h1, Option.bind_some, skip_add, hr, Option.bind_some] at g1
  have := skip_len _ _ _ _ g1
  rw [List.length_drop] at this
  omega
theorem place_inj {s : Sg} {t : List Int} : ∀ {q q' : List Int} {a j : Nat} {rest : List Int} (_ : skip s 1 (t.drop a) = some rest) (_ : place s t q a = some j) (_ : place s t q' a = some j), q = q'
  | [], [], _, _, _, _, _, _ => rfl
  | [], k :: ks, a, j, rest, h, hp, hp' => by
    simp only [place, Option.some.injEq] at hp
    subst hp
    rw [place] at hp'
    cases hy : stepTo s t a k with
    | none => rw [hy] at hp'; cases hp'
    | some y =>
      rw [hy, Option.bind_some] at hp'
      obtain ⟨n, rfl, hn, h1, h2, h3, ry, h4, h5⟩ := step_skip h hy
      have := (place_bound h4 hp').1
      omega
  | k :: ks, [], a, j, rest, h, hp, hp' => by
    simp only [place, Option.some.injEq] at hp'
    subst hp'
    rw [place] at hp
    cases hy : stepTo s t a k with
    | none => rw [hy] at hp; cases hp
    | some y =>
      rw [hy, Option.bind_some] at hp
      obtain ⟨n, rfl, hn, h1, h2, h3, ry, h4, h5⟩ := step_skip h hy
      have := (place_bound h4 hp).1
      omega
  | k :: ks, k' :: ks', a, j, rest, h, hp, hp' => by
    rw [place] at hp hp'
    cases hy : stepTo s t a k with
    | none => rw [hy] at hp; cases hp
    | some y =>
      cases hy' : stepTo s t a k' with
      | none => rw [hy'] at hp'; cases hp'
      | some y' =>
        rw [hy, Option.bind_some] at hp
        rw [hy', Option.bind_some] at hp'
        obtain ⟨-, -, -, -, -, -, ry, h4, -⟩ := step_skip h hy
        obtain ⟨-, -, -, -, -, -, ry', h4', -⟩ := step_skip h hy'
        have b1 := place_bound h4 hp
        have b2 := place_bound h4' hp'
        rcases Int.lt_trichotomy k k' with hk | hk | hk
        · have := step_order h hy hy' hk h4; omega
        · subst hk
          rw [hy] at hy'
          obtain rfl := Option.some.inj hy'
          rw [place_inj h4 hp hp']
        · have := step_order h hy' hy hk h4'; omega
theorem place_append {s : Sg} {t : List Int} : ∀ (q : List Int) (k : Int) (a : Nat), place s t (q ++ [k]) a = (place s t q a).bind (fun p => stepTo s t p k)
  | [], k, a => by
    simp only [List.nil_append, place, Option.bind_some]
    cases stepTo s t a k <;> rfl
  | x :: q, k, a => by
    rw [List.cons_append, place, place]
    cases stepTo s t a x with
    | none => rfl
    | some y => rw [Option.bind_some, Option.bind_some]; exact place_append q k y
theorem snoc_cases (q : List Int) (h : q ≠ []) : ∃ q0 k, q = q0 ++ [k] := ⟨q.dropLast, q.getLast h, (List.dropLast_concat_getLast h).symm⟩
/-- each place but the first is an argument of one before it -/
theorem place_parent {s : Sg} {t q : List Int} {j : Nat} (h : place s t q 0 = some j) (hj : 0 < j) : ∃ q0 k p, q = q0 ++ [k] ∧ place s t q0 0 = some p ∧ stepTo s t p k = some j := by
  have hq : q ≠ [] := by
    intro e; subst e
    simp only [place, Option.some.injEq] at h
    omega
  obtain ⟨q0, k, rfl⟩ := snoc_cases q hq
  rw [place_append] at h
  cases hp : place s t q0 0 with
  | none => rw [hp] at h; cases h
  | some p => rw [hp, Option.bind_some] at h; exact ⟨q0, k, p, rfl, hp, h⟩
/-- the path to a place -/
def way (s : Sg) (t : List Int) (j : Nat) : List Int := (((PL s t.length t)[j]?).getD ([], [])).1
theorem way_place {s : Sg} {t : List Int} (h : okT s t = true) : (PL s t.length t).length = t.length ∧ ∀ j, j < t.length → place s t (way s t j) 0 = some j ∧ (∃ hj : j < (PL s t.length t).length, (PL s t.length t)[j] = (way s t j, partAt s (t.drop j))) ∧ ∃ r, skip s 1 (t.drop j) = some r := by
  have hp := PL_spec s t t.length 0 [] (okT_skip0 h) (by rw [partAt_all h]; exact Nat.le_refl _)
  rw [partAt_all h] at hp
  refine ⟨hp.1, fun j hj => ?_⟩
  have hj' : j < (PL s t.length t).length := by omega
  obtain ⟨g1, g2, g3⟩ := hp.2 j hj'
  rw [Nat.zero_add] at g1 g2 g3
  have hw : way s t j = (PL s t.length t)[j].1 := by unfold way; rw [List.getElem?_eq_getElem hj']; rfl
  exact ⟨by rw [hw]; exact g1, ⟨hj', Prod.ext hw.symm g2⟩, g3⟩
theorem way_zero {s : Sg} {t : List Int} (h : okT s t = true) : way s t 0 = [] := by
  have hl := (okT_parts h).2.1
  exact place_inj (okT_skip0 h) ((way_place h).2 0 (by omega)).1 rfl
theorem way_step {s : Sg} {t : List Int} (h : okT s t = true) {p j : Nat} {k : Int} (hp : p < t.length) (hs : stepTo s t p k = some j) : j < t.length ∧ p < j ∧ way s t j = way s t p ++ [k] := by
  obtain ⟨g1, -, r, g3⟩ := (way_place h).2 p hp
  obtain ⟨n, rfl, hn, h1, h2, h3, ry, h4, h5⟩ := step_skip g3 hs
  have hl := skip_len _ _ _ _ h4
  rw [List.length_drop] at hl
  have hj : j < t.length := by omega
  refine ⟨hj, h2, place_inj (okT_skip0 h) ((way_place h).2 j hj).1 ?_⟩
  rw [place_append, g1]; exact hs
/-- the parts that are equal to a term: their paths -/
def pathsT (s : Sg) (t v : List Int) : List (List Int) := ((PL s t.length t).filter (fun e => decide (e.2 = v))).map (·.1)
def pathsE (s : Sg) (t v : List Int) : List (List Int) × Int := if okT s t = true ∧ okT s v = true then (pathsT s t v, 0) else ([], 1)
theorem pathsT_at {s : Sg} {t v : List Int} (h : okT s t = true) : ∀ q ∈ pathsT s t v, atE s t q = (v, 0) := by
  intro q hq
  obtain ⟨e, he, rfl⟩ := List.mem_map.1 hq
  rw [List.mem_filter, decide_eq_true_eq] at he
  obtain ⟨he, hv⟩ := he
  obtain ⟨j, hj, rfl⟩ := List.getElem_of_mem he
  obtain ⟨hl, hw⟩ := way_place h
  obtain ⟨g1, ⟨hj', g2⟩, -⟩ := hw j (by omega)
  rw [g2] at hv ⊢
  rw [atE_some h g1]
  simpa using hv
end Go.Proofs.Ytgkddhakhapjlaa

/- Walks: lists of paths. -/
namespace Go.Proofs.Ytgkddhakhapjlaa
open Go Go.RowKit Go.Maps

abbrev OwnPs (S : Nat → Prop) (w : World) (base : Nat) (v : Value) (l : List (List Int)) : Prop := OwnL (slE intE) S w base 24 v l
theorem infoPath : (Try.prog.info? 24).map (fun i => (i.zero, i.size, i.bytes)) = some (some (.slice none 0 0), 1, 24) := by kernel_rfl
section
variable {S : Nat → Prop} {w : World} {base g n cap : Nat} {l : List (List Int)}
theorem OwnPs.ones {xs : List (List Value)} {T : Nat → Prop} (hl : xs.length = l.length) (hx : ∀ i (h1 : i < xs.length) (h2 : i < l.length), (slE intE).R T w xs[i] l[i]) : ∀ x ∈ xs, x.length = 1 := by
  intro x hxm
  obtain ⟨i, hi, rfl⟩ := List.getElem_of_mem hxm
  exact (slE intE).len (hx i hi (by omega))
theorem OwnPs.cell (h : OwnPs S w base (.slice (some ⟨g, 0, none⟩) n cap) l) (hn : n = l.length) (i : Nat) (hi : i < l.length) :
    ∃ a c, w.cell? ⟨g, i, none⟩ = some (.slice a l[i].length c) ∧ Ints (Off S (.slice (some ⟨g, 0, none⟩) n cap)) w a c l[i] ∧ w.frozen? ⟨g, i, none⟩ = false := by
  subst hn
  obtain ⟨xs, ho, hl, hx⟩ := h
  have hi' : i < xs.length := by omega
  obtain ⟨a, c, he, hI⟩ := hx i hi' hi
  have h1 := OwnPs.ones hl hx
  refine ⟨a, c, ?_, hI, ho.frozenAt i⟩
  rw [ho.cellAt i (by show i < l.length * 1; omega)]
  have := flatten_get h1 i hi' 0 (by rw [he]; simp)
  rw [Nat.mul_one, Nat.add_zero] at this
  rw [this]; simp [he]
theorem OwnPs.set (h : OwnPs S w base (.slice (some ⟨g, 0, none⟩) n cap) l) (hn : n = l.length) (i : Nat) {a : Option Addr} {c : Nat} {u : List Int} (hu : Ints (Off S (.slice (some ⟨g, 0, none⟩) n cap)) w a c u) :
    OwnPs S (w.setCell ⟨g, i, none⟩ (.slice a u.length c)) base (.slice (some ⟨g, 0, none⟩) n cap) (l.set i u) ∧ w.grownBy (w.setCell ⟨g, i, none⟩ (.slice a u.length c)) (some g) := by
  subst hn
  obtain ⟨xs, ho, hl, hx⟩ := h
  have h1 := OwnPs.ones hl hx
  obtain ⟨r1, r2⟩ := ho.stored i (.slice a u.length c)
  have hA : Agree (Off S (.slice (some ⟨g, 0, none⟩) l.length cap)) w (w.setCell ⟨g, i, none⟩ (.slice a u.length c)) := .of_grown r2 (fun b hb e => hb.2 (by rw [e]; rfl))
  refine ⟨⟨xs.set i [.slice a u.length c], by rw [List.length_set, flatten_set1 h1]; exact r1, by simp [hl], fun j h1 h2 => ?_⟩, r2⟩
  by_cases hj : i = j
  · subst hj
    simp only [List.getElem_set_self]
    exact (slE intE).mono (w := w) (S := Off S (.slice (some ⟨g, 0, none⟩) l.length cap)) ⟨a, c, rfl, hu⟩ (fun _ _ h => h) hA
  · rw [List.getElem_set_ne hj, List.getElem_set_ne hj]
    exact (slE intE).mono (hx j (by simpa using h1) (by simpa using h2)) (fun _ _ h => h) hA
end

end Go.Proofs.Ytgkddhakhapjlaa

/- Walks: Counts, of both; Vars of the reference; slices.Contains. -/
namespace Go.Proofs.Ytgkddhakhapjlaa
open Go Go.RowKit Go.Maps

def varsE (s : Sg) (t : List Int) : List Int × Int := errE s t (varsV t)
/-! ### Counts -/
def cntL (n : Nat) (t : List Int) : List Int := (List.range n).map (fun (j : Nat) => ((t.count ((j : Nat) : Int) : Nat) : Int))
theorem cntL_length (n : Nat) (t : List Int) : (cntL n t).length = n := by simp [cntL]
theorem cntL_nil (n : Nat) : cntL n [] = List.replicate n 0 := by
  apply List.ext_getElem
  · simp [cntL]
  · intro i h1 h2; simp [cntL]
theorem cntL_get {n k : Nat} {t : List Int} (h : k < n) : (cntL n t)[k]'(by rw [cntL_length]; exact h) = ((t.count (k : Int) : Nat) : Int) := by simp [cntL]
theorem cntL_pos {n x k : Nat} {t : List Int} (hk : k < t.length) (hx : t[k] = (x : Int)) (_hn : x < n) : (cntL n (t.take k)).set x (((t.take k).count (x : Int) : Nat) + 1) = cntL n (t.take (k + 1)) := by
  rw [List.take_succ_eq_append_getElem hk]
  apply List.ext_getElem
  · simp [cntL]
  · intro i h1 h2
    rw [List.length_set, cntL_length] at h1
    rw [List.getElem_set, cntL_get h1, cntL_get h1]
    by_cases hi : x = i
    · subst hi
      rw [if_pos rfl, List.count_append, hx]; simp
    · rw [if_neg hi, List.count_append, hx]
      have : ([(x : Int)] : List Int).count (i : Int) = 0 := by rw [List.count_eq_zero]; simp; omega
      rw [this]; simp
theorem cntL_neg {n k : Nat} {t : List Int} (hk : k < t.length) (hx : t[k] < 0) : cntL n (t.take (k + 1)) = cntL n (t.take k) := by
  rw [List.take_succ_eq_append_getElem hk]
  apply List.ext_getElem
  · simp [cntL]
  · intro i h1 h2
    rw [cntL_length] at h1
    rw [cntL_get h1, cntL_get h1, List.count_append]
    have : ([t[k]] : List Int).count (i : Int) = 0 := by rw [List.count_eq_zero]; simp; omega
    rw [this]; simp
theorem okT_codes {s : Sg} {t : List Int} (h : okT s t = true) : ∀ x ∈ t, x < 0 ∨ (0 ≤ x ∧ x < s.length) := by
  intro x hx
  have := skip_codes s 1 t (okT_parts h).2.2.2 x hx
  simp [codeOk] at this
  omega
def cntE (s : Sg) (t : List Int) : List Int × Int := errE s t (cntL s.length t)
def cntRel (n : Nat) (t : List Int) (w : World) (B g cap : Nat) (i : Value) (wr : World) : Prop := ∃ k : Nat, i = .int .i64 k ∧ k ≤ t.length ∧ OwnI wr B (.slice (some ⟨g, 0, none⟩) n cap) (cntL n (t.take k)) ∧ Below B w wr
theorem makeZeros {W : World} (n : Nat) (hn : n ≤ 100) : (Instr.makeSlice 24 (.int .i64 (n : Int)) (.int .i64 (n : Int))).run Try.prog W = .ok (.slice (some ⟨W.heap.size, 0, none⟩) n n) (W.alloc (.cells (Array.replicate n (.int .i64 0)) 3)) := by
  obtain ⟨i, hi, hz0, hz1, hz2⟩ := info_parts infoInt
  have := run_make (P := Try.prog) W 24 3 i (.int .i64 0) Try.underlying24 hi hz0 .i64 .i64 n n (by omega) (by omega) (by rw [hz2]; omega) (by omega)
  rw [this, hz1, Int.toNat_natCast, Nat.mul_one]
  have hm : madeCells (Value.int .i64 0).cells n = Array.replicate n (.int .i64 0) := by
    apply Array.ext
    · simp [madeCells]
    · intro i h1 h2; simp [madeCells, Value.cells, Nat.mod_one]
  rw [hm]
end Go.Proofs.Ytgkddhakhapjlaa

/- Walks: Ways, Paths of the reference. -/
namespace Go.Proofs.Ytgkddhakhapjlaa
open Go Go.RowKit Go.Maps

noncomputable abbrev runApp (x y : Value) (w : World) : Result Value := (Builtin.append_ #[24, 24] 24 #[x, y]).run Try.prog w
theorem app24 {S2 : Nat → Prop} {w : World} {base : Nat} {v : Value} {l l2 : List Int} {a : Option Addr} {c : Nat} (ho : OwnI w base v l) (h2 : Ints S2 w a c l2) (hl : l.length + l2.length ≤ 10000000) (hb : base ≤ w.heap.size) :
    ∃ v' w', runApp v (.slice a l2.length c) w = .ok v' w' ∧ OwnI w' base v' (l ++ l2) ∧ w.grownBy w' v.ownBlock ∧ Below base w w' := by
  obtain ⟨v', w', hrun, ho', hg, -, -⟩ := ho.append_run (P := Try.prog) (t := 24) (ty := 24) Try.underlying24 infoInt rfl h2 (fun _ _ _ h => h) (by omega) (by unfold big; omega) hb
  exact ⟨v', w', hrun, ho', hg, (Below.refl _ _).grown hg hb (fun k e => (ho.lt k e).1)⟩
theorem lit1 {w : World} (m : Int) (hm : inRange m) : Ints (fun b => b = w.heap.size) (w.alloc (.cells #[.int .i64 m] 3)) (some ⟨w.heap.size, 0, none⟩) 1 [m] := by
  have := Sl.new (E := intE) (S := fun _ => False) w [[.int .i64 m]] [m] 3 rfl (by unfold big; simp) (fun i g1 g2 => by
    match i, g1 with
    | 0, _ => exact ⟨rfl, hm⟩)
  exact this.weak (fun b h => h.resolve_left (fun h => h))
theorem lit0 {w : World} (base : Nat) (hb : base ≤ w.heap.size) : OwnI (w.alloc (.cells #[] 3)) base (.slice (some ⟨w.heap.size, 0, none⟩) 0 0) [] := OwnL.made intE _ w base 3 hb
/-- the three orders in which a path with one number more is made -/
theorem ways3 {T : Nat → Prop} {w : World} {a : Option Addr} {c : Nat} {u : List Int} (hu : Ints T w a c u) (m : Int) (hm : inRange m) (hl : u.length ≤ 1000) :
    (∃ x1 w2 x2 w4, RowKit.Hid (Below w.heap.size w w2) ∧ RowKit.Hid (runApp (.slice (some ⟨w.heap.size, 0, none⟩) 0 0) (.slice a u.length c) (w.alloc (.cells #[] 3)) = .ok x1 w2) ∧ RowKit.Hid (runApp x1 (.slice (some ⟨w2.heap.size, 0, none⟩) 1 1) (w2.alloc (.cells #[.int .i64 m] 3)) = .ok x2 w4) ∧ RowKit.Hid (OwnI w4 w.heap.size x2 (u ++ [m])) ∧ RowKit.Hid (Below w.heap.size w w4)) ∧
    (∃ x1 w3 x2 w4, RowKit.Hid (Below w.heap.size w w3) ∧ RowKit.Hid (runApp (.slice (some ⟨w.heap.size, 0, none⟩) 0 0) (.slice a u.length c) ((w.alloc (.cells #[] 3)).alloc (.cells #[.int .i64 m] 3)) = .ok x1 w3) ∧ RowKit.Hid (runApp x1 (.slice (some ⟨w.heap.size + 1, 0, none⟩) 1 1) w3 = .ok x2 w4) ∧ RowKit.Hid (OwnI w4 w.heap.size x2 (u ++ [m])) ∧ RowKit.Hid (Below w.heap.size w w4)) ∧
    (∃ x1 w3 x2 w4, RowKit.Hid (Below w.heap.size w w3) ∧ RowKit.Hid (runApp (.slice (some ⟨w.heap.size + 1, 0, none⟩) 0 0) (.slice a u.length c) ((w.alloc (.cells #[.int .i64 m] 3)).alloc (.cells #[] 3)) = .ok x1 w3) ∧ RowKit.Hid (runApp x1 (.slice (some ⟨w.heap.size, 0, none⟩) 1 1) w3 = .ok x2 w4) ∧ RowKit.Hid (OwnI w4 w.heap.size x2 (u ++ [m])) ∧ RowKit.Hid (Below w.heap.size w w4)) := by
  refine ⟨?_, ?_, ?_⟩
  · have hb0 := below1 w (.cells #[] 3)
    obtain ⟨x1, w2, r1, o1, -, b1⟩ := app24 (lit0 (w := w) w.heap.size (Nat.le_refl _)) (hu.below hb0) (by simp; omega) hb0.size
    have B1 := hb0.trans b1
    have hb2 := below1 w2 (.cells #[.int .i64 m] 3)
    obtain ⟨x2, w4, r2, o2, -, b2⟩ := app24 (o1.call hb2) (lit1 m hm) (by simp; omega) (by have := B1.size; simp; omega)
    exact ⟨x1, w2, x2, w4, Lib.hid B1, Lib.hid r1, Lib.hid r2, Lib.hid (by simpa using o2), Lib.hid ((B1.trans (hb2.mono B1.size)).trans b2)⟩
  · have hb0 := below2 w (.cells #[] 3) (.cells #[.int .i64 m] 3)
    have hI := lit1 (w := w.alloc (.cells #[] 3)) m hm
    obtain ⟨x1, w3, r1, o1, g1, b1⟩ := app24 ((lit0 (w := w) w.heap.size (Nat.le_refl _)).call (below1 _ (.cells #[.int .i64 m] 3))) (hu.below hb0) (by simp; omega) hb0.size
    have B1 := hb0.trans b1
    have hI3 := hI.same (.of_grown g1 (fun b hb e => by simp [Value.ownBlock] at e hb; omega))
    obtain ⟨x2, w4, r2, o2, -, b2⟩ := app24 o1 hI3 (by simp; omega) B1.size
    rw [World.size_alloc] at r2
    exact ⟨x1, w3, x2, w4, Lib.hid B1, Lib.hid r1, Lib.hid r2, Lib.hid (by simpa using o2), Lib.hid (B1.trans b2)⟩
  · have hb0 := below2 w (.cells #[.int .i64 m] 3) (.cells #[] 3)
    have hI := (lit1 (w := w) m hm).below (below1 _ (.cells #[] 3))
    have o0 := lit0 (w := w.alloc (.cells #[.int .i64 m] 3)) w.heap.size (by simp)
    rw [World.size_alloc] at o0
    obtain ⟨x1, w3, r1, o1, g1, b1⟩ := app24 o0 (hu.below hb0) (by simp; omega) hb0.size
    have B1 := hb0.trans b1
    have hI3 := hI.same (.of_grown g1 (fun b hb e => by simp [Value.ownBlock] at e hb; omega))
    obtain ⟨x2, w4, r2, o2, -, b2⟩ := app24 o1 hI3 (by simp; omega) B1.size
    exact ⟨x1, w3, x2, w4, Lib.hid B1, Lib.hid r1, Lib.hid r2, Lib.hid (by simpa using o2), Lib.hid (B1.trans b2)⟩

section
variable {P : Program} {Q : Exit → Act → World → Prop} {md : Region.Mode} {S : World → Prop} {l : List Oper} {listed : Array Bool} {fuel : Nat} {a : Act} {w : World}
/-- two operations either of which may come up -/
theorem region_two (i j : Nat) {o o' : Oper} (hi : l[i]? = some o) (hj : l[j]? = some o') (hr : Region.ready md l.toArray listed = [i, j])
    (h : ∀ K' : Act → World → Prop, Shut (∀ a w, S w → (S w → wpAnyH P md l.toArray Q S fuel (listed.setIfInBounds i true) a w) → K' a w) → if Region.wanted o (yielded l.toArray a.tmps) = true then Oper.wp P o a w K' Q else K' (a.put o.dst undef) w)
    (h' : ∀ K' : Act → World → Prop, Shut (∀ a w, S w → (S w → wpAnyH P md l.toArray Q S fuel (listed.setIfInBounds j true) a w) → K' a w) → if Region.wanted o' (yielded l.toArray a.tmps) = true then Oper.wp P o' a w K' Q else K' (a.put o'.dst undef) w) :
    wpAnyH P md l.toArray Q S (fuel + 1) listed a w :=
  wpAnyH_ready hr (by simp) (AllReadyH.cons (by simpa using hi) h (AllReadyH.cons (by simpa using hj) h' AllReadyH.nil))
end

theorem ite_yes {c : Prop} [Decidable c] {p q : Prop} (h : c) (hp : p) : if c then p else q := by rw [if_pos h]; exact hp
theorem place_len {s : Sg} {t : List Int} : ∀ {q : List Int} {a j : Nat} {rest : List Int} (_ : skip s 1 (t.drop a) = some rest) (_ : place s t q a = some j), a + q.length ≤ j
  | [], a, j, rest, h, hp => by
    simp only [place, Option.some.injEq] at hp
    simp; omega
  | k :: ks, a, j, rest, h, hp => by
    rw [place] at hp
    cases hy : stepTo s t a k with
    | none => rw [hy] at hp; cases hp
    | some y =>
      rw [hy, Option.bind_some] at hp
      obtain ⟨n, rfl, hn, h1, h2, h3, ry, h4, h5⟩ := step_skip h hy
      have ih := place_len h4 hp
      rw [List.length_cons]; omega
def waysOk (s : Sg) (t : List Int) (at_ m : Nat) (L : List (List Int)) : Prop :=
  L.length = t.length ∧ ∀ j (hj : j < L.length), (j = 0 ∨ (∃ (p : Nat) (k : Int), p < at_ ∧ stepTo s t p k = some j) ∨ (∃ k : Nat, k < m ∧ stepTo s t at_ k = some j)) → L[j] = way s t j
theorem waysOk_start {s : Sg} {t : List Int} (h : okT s t = true) : waysOk s t 0 0 (List.replicate t.length []) := by
  refine ⟨by simp, fun j hj hc => ?_⟩
  rcases hc with rfl | ⟨p, k, hp, -⟩ | ⟨k, hk, -⟩
  · simp [way_zero h]
  · omega
  · omega
theorem waysOk_next {s : Sg} {t : List Int} {LL : List (List Int)} {at_ M : Nat} (h : waysOk s t at_ M LL) {r : List Int} (hs : skip s 1 (t.drop at_) = some r) (hM : ar s (t.getD at_ 0) = M) : waysOk s t (at_ + 1) 0 LL := by
  refine ⟨h.1, fun j hj hc => h.2 j hj ?_⟩
  rcases hc with rfl | ⟨p, k, hp, hk⟩ | ⟨k, hk, -⟩
  · exact .inl rfl
  · by_cases hp2 : p < at_
    · exact .inr (.inl ⟨p, k, hp2, hk⟩)
    · obtain rfl : p = at_ := by omega
      obtain ⟨n, rfl, hn, -⟩ := step_skip hs hk
      exact .inr (.inr ⟨n, by omega, hk⟩)
  · omega
theorem waysOk_at {s : Sg} {t : List Int} (h : okT s t = true) {LL : List (List Int)} {at_ m : Nat} (ho : waysOk s t at_ m LL) (ha : at_ < LL.length) : LL[at_] = way s t at_ := by
  have hl : at_ < t.length := by rw [← ho.1]; exact ha
  refine ho.2 at_ ha ?_
  rcases Nat.eq_zero_or_pos at_ with h0 | h0
  · exact .inl h0
  · obtain ⟨q0, k, p, -, hp, hk⟩ := place_parent ((way_place h).2 at_ hl).1 h0
    have hpb := place_bound (okT_skip0 h) hp
    obtain ⟨-, hlt, -⟩ := way_step h (by omega) hk
    exact .inr (.inl ⟨p, k, hlt, hk⟩)
theorem waysOk_set {s : Sg} {t : List Int} (h : okT s t = true) {LL : List (List Int)} {at_ m y : Nat} (ho : waysOk s t at_ m LL) (ha : at_ < t.length) (hy : stepTo s t at_ m = some y) : waysOk s t at_ (m + 1) (LL.set y (way s t at_ ++ [(m : Int)])) := by
  refine ⟨by rw [List.length_set]; exact ho.1, fun j hj hc => ?_⟩
  rw [List.length_set] at hj
  rw [List.getElem_set]
  by_cases hjy : y = j
  · subst hjy
    rw [if_pos rfl, (way_step h ha hy).2.2]
  · rw [if_neg hjy]
    refine ho.2 j hj ?_
    rcases hc with h1 | h1 | ⟨k, hk, h1⟩
    · exact .inl h1
    · exact .inr (.inl h1)
    · by_cases hkm : k = m
      · subst hkm; rw [hy] at h1; exact (hjy (Option.some.inj h1)).elim
      · exact .inr (.inr ⟨k, by omega, h1⟩)
def wayRel1 (s : Sg) (t : List Int) (w : World) (B g : Nat) (i : Value) (wr : World) : Prop :=
  ∃ (at_ : Nat) (L : List (List Int)), i = .int .i64 at_ ∧ at_ ≤ t.length ∧ waysOk s t at_ 0 L ∧ OwnPs (fun _ => True) wr B (.slice (some ⟨g, 0, none⟩) t.length t.length) L ∧ Below B w wr
def wayRel2 (s : Sg) (t : List Int) (w : World) (B g at_ M : Nat) (a4 : Option Addr) (c4 : Nat) (P : List Int) (i : Value) (wr : World) : Prop :=
  ∃ (m : Nat) (L : List (List Int)), i = .int .i64 m ∧ m ≤ M ∧ waysOk s t at_ m L ∧ OwnPs (fun _ => True) wr B (.slice (some ⟨g, 0, none⟩) t.length t.length) L ∧ Below B w wr ∧ Ints (fun b => g < b) wr a4 c4 P
end Go.Proofs.Ytgkddhakhapjlaa

/- Walks of package unify: join. -/
namespace Go.Proofs.Ytgkddhakhapjlaa
open Go Go.RowKit Go.Maps Go.WideMaps

theorem okL_arg {s : Sg} {a u : List Int} (ha : W1 s a) (h : okL a) (hu : u ∈ argsW s a) : okL u := by
  cases a with
  | nil => exact (ha.ne rfl).elim
  | cons n x =>
    have hw := ha.args.2.2.1 u hu
    have hl := argsW_lt ha hu
    refine ⟨fun k hk => h.1 k ?_, hw.len, by have := h.2.2; simp at this; omega⟩
    rw [List.mem_cons]
    right
    rw [← ha.args.2.1]
    exact List.mem_flatten.2 ⟨u, hu, hk⟩
theorem jn_pair {s : Sg} {f : Nat} {a b : List Int} (h : a.headD 0 < 0 ∨ a.headD 0 ≠ b.headD 0) : jn s (f + 1) a b = [.inr (a, b)] := by rw [jn, if_pos h]
theorem jn_more {s : Sg} {f : Nat} {a b : List Int} (h : ¬ (a.headD 0 < 0 ∨ a.headD 0 ≠ b.headD 0)) : jn s (f + 1) a b = .inl (a.headD 0) :: jnArgs s f a b (argsW s a).length := by
  rw [jn, if_neg h]
  unfold jnArgs
  rw [List.take_of_length_le (by rw [List.length_zip]; omega)]
theorem mem_zip_get {s : Sg} {a b : List Int} (ha : W1 s a) (hb : W1 s b) (oa : okL a) (ob : okL b) {N m : Nat} (h1 : (argsW s a).length = N) (h2 : (argsW s b).length = N) (hm : m < N) :
    W1 s ((argsW s a)[m]'(by omega)) ∧ W1 s ((argsW s b)[m]'(by omega)) ∧ okL ((argsW s a)[m]'(by omega)) ∧ okL ((argsW s b)[m]'(by omega)) ∧ ((argsW s a)[m]'(by omega)).length + 1 ≤ a.length := by
  have e1 := List.getElem_mem (l := argsW s a) (n := m) (by omega)
  have e2 := List.getElem_mem (l := argsW s b) (n := m) (by omega)
  refine ⟨?_, ?_, okL_arg ha oa e1, okL_arg hb ob e2, ?_⟩
  · cases a with
    | nil => exact (ha.ne rfl).elim
    | cons n x => exact ha.args.2.2.1 _ e1
  · cases b with
    | nil => exact (hb.ne rfl).elim
    | cons n x => exact hb.args.2.2.1 _ e2
  · cases a with
    | nil => exact (ha.ne rfl).elim
    | cons n x => have := argsW_lt ha e1; simp at this ⊢; omega
theorem appT {S2 : Nat → Prop} {w : World} {base : Nat} {v : Value} {l l2 : List Int} {a : Option Addr} {c : Nat} (ho : OwnI w base v l) (h2 : Ints S2 w a c l2) (hl : l.length + l2.length ≤ 10000000) (hb : base ≤ w.heap.size) :
    ∃ v' w', RowKit.Hid ((Builtin.append_ #[25, 25] 25 #[v, .slice a l2.length c]).run Try.prog w = .ok v' w') ∧ RowKit.Hid (OwnI w' base v' (l ++ l2)) ∧ RowKit.Hid (w.grownBy w' v.ownBlock) := by
  obtain ⟨v', w', hrun, ho', hg, -, -⟩ := ho.append_run (P := Try.prog) (t := 25) (ty := 25) Try.underlying25 infoInt rfl h2 (fun _ _ _ h => h) (by omega) (by unfold big; omega) hb
  exact ⟨v', w', Lib.hid hrun, Lib.hid ho', Lib.hid hg⟩
def jnOut (s : Sg) (f : Nat) (a b : List Int) (x0 : Int) (D : Prs) (m : Nat) : List Int := x0 :: (jnArgs s f a b m).map (codeP ((jnArgs s f a b m).foldl addP D))
theorem jnOut_succ {s : Sg} {f : Nat} {a b : List Int} {x0 : Int} {D : Prs} {m : Nat} (h1 : m < (argsW s a).length) (h2 : m < (argsW s b).length) :
    (jnArgs s f a b (m + 1)).foldl addP D = (jn s f (argsW s a)[m] (argsW s b)[m]).foldl addP ((jnArgs s f a b m).foldl addP D) ∧
    jnOut s f a b x0 D (m + 1) = jnOut s f a b x0 D m ++ (jn s f (argsW s a)[m] (argsW s b)[m]).map (codeP ((jn s f (argsW s a)[m] (argsW s b)[m]).foldl addP ((jnArgs s f a b m).foldl addP D))) := by
  have e : (jnArgs s f a b (m + 1)).foldl addP D = (jn s f (argsW s a)[m] (argsW s b)[m]).foldl addP ((jnArgs s f a b m).foldl addP D) := by rw [jnArgs_succ h1 h2, List.foldl_append]
  refine ⟨e, ?_⟩
  unfold jnOut
  rw [e, jnArgs_succ h1 h2, List.map_append, List.cons_append]
  congr 2
  exact map_codeP_pre (addP_prefix _ _) (fun x hx p e => fold_mem x hx p e)
theorem args_pair {s : Sg} {a b : List Int} {f : Nat} {x0 : Int} {D : Prs} (ha : W1 s a) (hb : W1 s b) (oa : okL a) (ob : okL b) (hf : a.length ≤ f + 1) (hx0 : a.headD 0 = x0) (hy0 : b.headD 0 = x0) {N m : Nat} (h1 : (argsW s a).length = N) (h2 : (argsW s b).length = N) (hm : m < N) :
    ∃ am bm i i' j j', apos s a m = i ∧ apos s a (m + 1) = i' ∧ apos s b m = j ∧ apos s b (m + 1) = j' ∧
      (skw s 1 (a.drop i) = some (a.drop i') ∧ i < i' ∧ i' ≤ a.length ∧ (a.drop i).take (i' - i) = am ∧ am.length = i' - i) ∧ (skw s 1 (b.drop j) = some (b.drop j') ∧ j < j' ∧ j' ≤ b.length ∧ (b.drop j).take (j' - j) = bm ∧ bm.length = j' - j) ∧
      (W1 s am ∧ W1 s bm ∧ okL am ∧ okL bm ∧ am.length + 1 ≤ a.length) ∧ ((jnArgs s f a b (m + 1)).foldl addP D = (jn s f am bm).foldl addP ((jnArgs s f a b m).foldl addP D) ∧
      jnOut s f a b x0 D (m + 1) = jnOut s f a b x0 D m ++ (jn s f am bm).map (codeP ((jn s f am bm).foldl addP ((jnArgs s f a b m).foldl addP D)))) ∧ (jnArgs s f a b m).length + 1 ≤ i := by
  obtain ⟨-, -, hP⟩ := args_all ha hx0
  obtain ⟨-, -, hQ⟩ := args_all hb hy0
  have m1 : m < (argsW s a).length := by omega
  have m2 : m < (argsW s b).length := by omega
  obtain ⟨p1, p2, p3, p4⟩ := hP m m1
  obtain ⟨q1, q2, q3, q4⟩ := hQ m m2
  have hz := mem_zip_get ha hb oa ob h1 h2 hm
  have hl := jnArgs_len (s := s) (f := f) ha hb hf (by rw [h1, h2]) m (by omega)
  exact ⟨_, _, _, _, _, _, rfl, rfl, rfl, rfl, ⟨p1, p2, p3, p4, by rw [← p4]; simp; omega⟩, ⟨q1, q2, q3, q4, by rw [← q4]; simp; omega⟩, hz, jnOut_succ m1 m2, by unfold apos; omega⟩
def joinRel (s : Sg) (f : Nat) (a b : List Int) (x0 : Int) (mm : Nat) (D : Prs) (N : Nat) (w : World) (out iv jv cv : Value) (wr : World) : Prop :=
  ∃ m : Nat, cv = .int .i64 m ∧ m ≤ N ∧ iv = .int .i64 (apos s a m : Nat) ∧ jv = .int .i64 (apos s b m : Nat) ∧ OwnI wr w.heap.size out (jnOut s f a b x0 D m) ∧ NamP wr mm ((jnArgs s f a b m).foldl addP D) ∧ w.grownBy wr (some mm)
set_option maxRecDepth 20000 in
set_option maxHeartbeats 4000000 in
theorem join1_any {w0 : World} {nb sb wb mm : Nat} {a1 : Option Addr} {c1 : Nat} {s : Sg} (hok : okSign s = true) : ∀ (f : Nat) (a b : List Int) (a2 a3 : Option Addr) (c2 c3 : Nat) (D : Prs) (w : World), W1 s a → W1 s b → okL a → okL b → a.length ≤ f → T0 w0 a2 c2 a → T0 w0 a3 c3 b →
      JW w0 w nb sb wb mm a1 c1 s → NamP w mm D → D.length + a.length ≤ 1000 →
      Calls Try.prog 36 #[.slice a2 a.length c2, .slice a3 b.length c3, .pointer (some ⟨nb, 0, none⟩), .pointer (some ⟨sb, 0, none⟩), .pointer (some ⟨wb, 0, none⟩)] w (joinRet s f a b mm D w)
  | 0, a, _, _, _, _, _, _, _, ha, _, _, _, hf, _, _, _, _, _ => by have := ha.len; omega
  | f + 1, a, b, a2, a3, c2, c3, D, w, ha, hb, oa, ob, hf, hTa, hTb, hJ, hN, hD => by
    have ih := join1_any (w0 := w0) (nb := nb) (sb := sb) (wb := wb) (mm := mm) (a1 := a1) (c1 := c1) hok f
    have m2 := hTa.le
    have m3 := hTb.le
    have la := ha.len
    have lb := hb.len
    obtain ⟨ba, ofa, rfl, hba, qa, ra⟩ := (hTa.below hJ.bel).int 0 (by omega)
    obtain ⟨bb, ofb, rfl, hbb, qb, rb⟩ := (hTb.below hJ.bel).int 0 (by omega)
    rw [Nat.add_zero] at qa qb
    have ha0 : a[0] = a.headD 0 := by cases a with | nil => simp at la | cons _ _ => rfl
    have hb0 : b[0] = b.headD 0 := by cases b with | nil => simp at lb | cons _ _ => rfl
    rw [ha0] at qa
    rw [hb0] at qb
    obtain ⟨x0, hx0⟩ : ∃ x, a.headD 0 = x := ⟨_, rfl⟩
    obtain ⟨y0, hy0⟩ : ∃ x, b.headD 0 = x := ⟨_, rfl⟩
    rw [hx0] at qa
    rw [hy0] at qb
    have hmlt := hN.lt
    have hz := hJ.bel.size
    by_cases hp : a.headD 0 < 0 ∨ a.headD 0 ≠ b.headD 0
    · have hjn := jn_pair (s := s) (f := f) hp
      rw [hx0, hy0] at hp
      have hpr : x0 < 0 ∧ decide (x0 < 0) = true ∨ (decide (x0 < 0) = false ∧ (x0 != y0) = true) := by
        by_cases h0 : x0 < 0
        · exact .inl ⟨h0, by simpa using h0⟩
        · exact .inr ⟨by simpa using h0, by simp; rcases hp with h | h; exact (h0 h).elim; exact h⟩
      have ck1 := fun W (hb : Below w.heap.size w W) => key_any (some ⟨ba, ofa, none⟩) c2 a W ((hTa.below hJ.bel).below hb) oa
      have ck2 := fun W (hb : Below w.heap.size w W) => key_any (some ⟨bb, ofb, none⟩) c3 b W ((hTb.below hJ.bel).below hb) ob
      have hxD : D.length ≤ 1000 := by omega
      have ck1H := Lib.hid ck1
      have ck2H := Lib.hid ck2
      have hjnH := Lib.hid hjn
      have hJH := Lib.hid hJ
      have hNH := Lib.hid hN
      clear ck1 ck2 hjn hJ hN ih hp hTa hTb ha0 hb0 hx0 hy0 ha hb hf ra rb
      have key : ∀ (W3 : World), Below w.heap.size w W3 → True := fun _ _ => trivial
      go_enter Try.func36, Try.ntmps36
      go_wp2_with fail
      have hpq : (x0 < 0 ∧ decide (x0 < 0) = true ∨ (decide (x0 < 0) = false ∧ (x0 != y0) = true)) := hpr
      clear hpr
      rcases hpq with ⟨-, hd⟩ | ⟨hd, hne⟩
      all_goals
        go_quiet (fail)
        go_wp2_with fail
        have hb0 : Below w.heap.size w (w.drewN nq) := (Drew.mk _ _).below _
        clear qa qb
        refine (ck1H.out _ hb0).mono ?_
        rintro e w1 ⟨rfl, hb1⟩
        have hb1 := bcall hb0 hb1
        clear hb0
        go_wp2_with fail
        refine (ck2H.out _ hb1).mono ?_
        rintro e w2 ⟨rfl, hb2⟩
        have hb2 := bcall hb1 hb2
        clear hb1 ck1H ck2H
        have hB3 := bcall hb2 (below1 w2 (.cells #[.string (keyS a), .string (keyS b)] 74))
        have q0 : (w2.alloc (.cells #[.string (keyS a), .string (keyS b)] 74)).cell? ⟨w2.heap.size, 0, none⟩ = some (.string (keyS a)) := by go_simp
        have q1 : (w2.alloc (.cells #[.string (keyS a), .string (keyS b)] 74)).cell? ⟨w2.heap.size, 1, none⟩ = some (.string (keyS b)) := by go_simp
        have hN3 := hNH.out.below hB3
        have hJ3 := hJH.out.grown (grown_bel (grown_refl _ _) hB3)
        have cn := hJ3.cn
        by_cases hm : (a, b) ∈ D
        · have hlk := hN3.look_old ⟨(a, b), oa, ob⟩ hm true
          have hlk2 := hN3.look_old ⟨(a, b), oa, ob⟩ hm false
          rw [if_pos rfl] at hlk
          rw [if_neg (by decide)] at hlk2
          have hfin : joinRet s (f + 1) a b mm D w (.returned (.slice (some ⟨(w2.alloc (.cells #[.string (keyS a), .string (keyS b)] 74)).heap.size, 0, none⟩) 1 1)) ((w2.alloc (.cells #[.string (keyS a), .string (keyS b)] 74)).alloc (.cells #[.int .i64 (-(D.idxOf (a, b) : Int) - 1)] 3)) := by
            have hl := List.idxOf_lt_length_of_mem hm
            have hfold : (jn s (f + 1) a b).foldl addP D = D := by rw [hjnH.out]; show addP D (.inr (a, b)) = D; unfold addP; exact if_pos hm
            have ho := OwnL.lit (S := fun _ => False) (w2.alloc (.cells #[.string (keyS a), .string (keyS b)] 74)) [-(D.idxOf (a, b) : Int) - 1] 3 (fun x hx => by rw [List.mem_singleton] at hx; rw [hx]; unfold inRange; omega) (by unfold maxLen; simp)
            refine ⟨_, rfl, ?_, ?_, ?_⟩
            · rw [hfold, hjnH.out]; exact OwnL.baseMono ho hB3.size
            · rw [hfold]; exact hN3.below (below1 _ _)
            · exact grown_bel (grown_refl _ _) (bcall hB3 (below1 _ _))
          have hfinH := Lib.hid hfin
          simp only [World.size_alloc] at hfinH
          clear hfin hN3 hJ3 hB3 hb2 hm
          go_wp2_with fail
          go_ret
          exact hfinH.out
        · have hlk := hN3.look_new ⟨(a, b), oa, ob⟩ hm
          obtain ⟨W3, hW3⟩ : ∃ W, w2.alloc (.cells #[.string (keyS a), .string (keyS b)] 74) = W := ⟨_, rfl⟩
          rw [hW3] at hlk hN3 hJ3 hB3 cn q0 q1
          have hBd : Below W3.heap.size W3 W3.drew := (Below.refl _ _).drew
          obtain ⟨w5, hst, hN5, hg5⟩ := (hN3.below hBd).store ⟨(a, b), oa, ob⟩ hm (by omega)
          have hst2 := hst.out
          have hlen := (hN3.below hBd).len 3
          have cnd : W3.drew.cell? ⟨nb, 0, none⟩ = some (.map (some mm)) := cn
          have q0d : W3.drew.cell? ⟨w2.heap.size, 0, none⟩ = some (.string (keyS a)) := q0
          have q1d : W3.drew.cell? ⟨w2.heap.size, 1, none⟩ = some (.string (keyS b)) := q1
          have hne2 : (some w2.heap.size : Option Nat) ≠ some mm := fun e => by injection e with e; have := hb2.size; omega
          have c5 : ∀ {i : Nat} {v : Value}, W3.drew.cell? ⟨w2.heap.size, i, none⟩ = some v → w5.cell? ⟨w2.heap.size, i, none⟩ = some v := fun h => (World.cell?_of_block (w := W3.drew) (hg5.out.block _ (World.block_lt_of_cell? _ _ h) hne2)).trans h
          have q05 := c5 q0d
          have q15 := c5 q1d
          have hJ5 := (hJ3.grown (grown_bel (grown_refl _ _) hBd)).grown hg5.out
          have cn5 := hJ5.cn
          have hlk5 := hN5.out.look_old ⟨(a, b), oa, ob⟩ (by simp) false
          rw [if_neg (by decide), List.idxOf_append, if_neg hm, List.idxOf_cons_self, Nat.zero_add] at hlk5
          have hcode := fun W => code_any (D.length : Int) W (by omega) (by omega)
          have hg35 : w.grownBy w5 (some mm) := by
            have h1 := grown_bel (grown_bel (grown_refl w (some mm)) hB3) hBd
            exact ⟨hg5.out.os.trans h1.os, hg5.out.tape.trans h1.tape, hg5.out.output.trans h1.output, Nat.le_trans h1.size hg5.out.size, fun x hx hne => (hg5.out.block x (Nat.lt_of_lt_of_le hx h1.size) hne).trans (h1.block x hx hne)⟩
          have hfin : joinRet s (f + 1) a b mm D w (.returned (.slice (some ⟨w5.heap.size, 0, none⟩) 1 1)) (w5.alloc (.cells #[.int .i64 (-(D.length : Int) - 1)] 3)) := by
            have hfold : (jn s (f + 1) a b).foldl addP D = D ++ [(a, b)] := by rw [hjnH.out]; show addP D (.inr (a, b)) = D ++ [(a, b)]; unfold addP; exact if_neg hm
            have ho := OwnL.lit (S := fun _ => False) w5 [-(D.length : Int) - 1] 3 (fun x hx => by rw [List.mem_singleton] at hx; rw [hx]; unfold inRange; omega) (by unfold maxLen; simp)
            refine ⟨_, rfl, ?_, ?_, ?_⟩
            · rw [hfold, hjnH.out]
              have : codeP (D ++ [(a, b)]) (.inr (a, b)) = -(D.length : Int) - 1 := by unfold codeP; simp only; rw [List.idxOf_append, if_neg hm, List.idxOf_cons_self, Nat.zero_add]
              show OwnI _ _ _ [codeP (D ++ [(a, b)]) (.inr (a, b))]
              rw [this]
              exact OwnL.baseMono ho hg35.size
            · rw [hfold]; exact hN5.out.below (below1 _ _)
            · exact grown_bel hg35 (below1 _ _)
          have hfinH := Lib.hid hfin
          have hcodeH := Lib.hid hcode
          clear hfin hN3 hJ3 hB3 hb2 hm hN5 hg5 hg35 hne2 hJ5 hBd hst hcode c5
          go_wp2_with fail
          clear hlk
          refine wp_region_held_drew (S := fun w' => w' = W3.drew ∨ w' = w5) (by kernel_rfl) (.inl rfl) (fun hS => ?_)
          refine region_take 0 (some 42) (v := ?_) rfl rfl (by kernel_rfl) (by kernel_rfl) (by kernel_rfl) (fun _ _ _ h => h) rfl ?_ hS ?_
          rotate_left
          · (intro w9 hS9; rcases hS9 with rfl | rfl <;> (go_simp; try (with_reducible rfl)))
          simp only [Act.put, List.setIfInBounds_toArray, List.set_cons_zero, List.set_cons_succ]
          refine region_take 1 (some 43) (v := ?_) rfl rfl (by kernel_rfl) (by kernel_rfl) (by kernel_rfl) (fun _ _ _ h => h) rfl ?_ hS ?_
          rotate_left
          · (intro w9 hS9; rcases hS9 with rfl | rfl <;> (go_simp; try (with_reducible rfl)))
          simp only [Act.put, List.setIfInBounds_toArray, List.set_cons_zero, List.set_cons_succ]
          refine region_take 2 (some 44) (v := ?_) rfl rfl (by kernel_rfl) (by kernel_rfl) (by kernel_rfl) (fun _ _ _ h => h) rfl ?_ hS ?_
          rotate_left
          · (intro w9 hS9; rcases hS9 with rfl | rfl <;> (go_simp; try (with_reducible rfl)))
          simp only [Act.put, List.setIfInBounds_toArray, List.set_cons_zero, List.set_cons_succ]
          refine region_call 3 rfl (by kernel_rfl) (fun K hK => ?_)
          go_simp
          refine hK.out _ _ hS ?_
          clear hS hK
          intro hS
          refine region_call 4 rfl (by kernel_rfl) (fun K hK => ?_)
          go_simp
          (with_reducible refine (hcodeH.out _).mono ?_)
          rintro e w8 ⟨rfl, rfl⟩
          refine hK.out _ _ hS ?_
          clear hS hK
          intro hS
          refine region_call 5 rfl (by kernel_rfl) (fun K hK => ?_)
          go_simp
          refine hK.out _ _ (.inr rfl) ?_
          clear hS hK
          intro hS
          refine wpAnyH_done (by kernel_rfl) ?_ _
          clear hS
          go_wp2_with fail
          go_ret
          exact hfinH.out
    · obtain ⟨n0, x, y, hn0, hae, hbe, hll⟩ := jn_sym ha hb hp
      have hjn := jn_more (s := s) (f := f) hp
      have hxy : y0 = x0 := by rw [hae] at hx0; rw [hbe] at hy0; simp only [List.headD_cons] at hx0 hy0; omega
      have hx00 : x0 = n0 := by rw [hae] at hx0; simp only [List.headD_cons] at hx0; omega
      rw [hxy] at hy0 qb
      obtain ⟨hlP, hms0, -⟩ := args_all ha hx0
      obtain ⟨hlQ, -, -⟩ := args_all hb hy0
      obtain ⟨m0, hm0⟩ := Int.eq_ofNat_of_zero_le (show 0 ≤ x0 by omega)
      have hms : m0 < s.length := by omega
      obtain ⟨bs, os, has, -, -, qs, -, -⟩ := (hJ.sg.below hJ.bel).sym m0 hms
      have har := okSign_ars hok m0 hms
      rw [arW_sym hms har.1] at qs
      have har3 := har.2
      rw [arW_sym hms har.1] at har3
      rw [hm0] at hlP hlQ
      obtain ⟨N, hN'⟩ : ∃ N, arW s (m0 : Int) = N := ⟨_, rfl⟩
      rw [hN'] at qs har3 hlP hlQ
      have hpr := fun m (h1 : m < N) => args_pair (D := D) ha hb oa ob hf hx0 hy0 hlP hlQ h1
      have hprH := Lib.hid hpr
      have hd : decide (x0 < 0) = false := by simp; omega
      have hne : (x0 != x0) = false := by simp
      have hdv2 : ¬ x0 < 0 := by omega
      have cs := hJ.cs
      rw [has] at cs
      have hasH := Lib.hid has
      have hcpP : a.length ≤ c2 := hTa.cap
      have hcpQ : b.length ≤ c3 := hTb.cap
      rw [hlP, hx0] at hjn
      have hsl12 := (okSign_len hok).2
      have hjnH := Lib.hid hjn
      have hJH := Lib.hid hJ
      have hNH := Lib.hid hN
      have ihH := Lib.hid ih
      have hTaH := Lib.hid hTa
      have hTbH := Lib.hid hTb
      have hokH := Lib.hid hok
      have haH := Lib.hid ha
      have hx0H := Lib.hid hx0
      have hla60 := oa.2.2
      have hlb60 := ob.2.2
      subst hm0
      clear hjn hJ hN ih hp hTa hTb ha0 hb0 hx0 hy0 ha hb ra rb hlP hlQ hae hbe hxy hx00 hn0 hll has har hN' hms0 oa ob hpr
      go_enter Try.func36, Try.ntmps36
      go_wp2_with fail
      go_quiet (fail)
      go_wp2_with fail
      obtain ⟨W1, hW1⟩ : ∃ W, (w.drewN nq).alloc (.cells #[.int .i64 (m0 : Int)] 3) = W := ⟨_, rfl⟩
      have hb1 : Below w.heap.size w W1 := by rw [← hW1]; exact ((Drew.mk w nq).below _).trans (below1 (w.drewN nq) _)
      have ho1 : OwnI W1 w.heap.size (.slice (some ⟨w.heap.size, 0, none⟩) 1 1) [(m0 : Int)] := by
        rw [← hW1]
        exact OwnL.lit (S := fun _ => False) (w.drewN nq) [(m0 : Int)] 3 (fun x hx => by rw [List.mem_singleton] at hx; rw [hx]; unfold inRange; omega) (by unfold maxLen; simp)
      have qa1 := cell_later hb1 qa
      have cs1 := cell_later hb1 cs
      have qs1 := cell_later hb1 qs
      rw [hW1]
      have ho1H := Lib.hid ho1
      have hb1H := Lib.hid hb1
      clear hW1 ho1 hb1 qa qb cs qs
      go_quiet (fail)
      all_goals go_wp2_with fail
      obtain ⟨W2, hW2⟩ : ∃ W, W1.drewN nq = W := ⟨_, rfl⟩
      rw [hW2]
      have hb2 : Below W1.heap.size W1 W2 := by rw [← hW2]; exact (Drew.mk _ _).below _
      have hst2 : joinRel s f a b (m0 : Int) mm D N w (.slice (some ⟨w.heap.size, 0, none⟩) 1 1) (.int .i64 1) (.int .i64 1) (.int .i64 0) W2 :=
        ⟨0, rfl, Nat.zero_le _, rfl, rfl, OwnL.call ho1H.out hb2, (hNH.out.below hb1H.out).below hb2, grown_bel (grown_bel (grown_refl _ _) hb1H.out) hb2⟩
      have hst2H := Lib.hid hst2
      clear hst2 hb2 hW2 ho1H hb1H qa1 cs1 qs1
      go_loopw [11, 12, 13, 62] (fun out iv jv cv wr => joinRel s f a b (m0 : Int) mm D N w out iv jv cv wr) (fun _ _ _ cv _ => N - (intOf cv).toNat)
      case atStart => exact hst2H.out
      case round =>
        obtain ⟨m, rfl, hm, rfl, rfl, hor, hNr, hgr⟩ := hrel
        have hJr := hJH.out.grown hgr
        by_cases hmN : m < N
        · obtain ⟨am, bm, i, i', j, j', e1, e2, e3, e4, ⟨p1, p2, p3, p4, p5⟩, ⟨r1, r2, r3, r4, r5⟩, ⟨z1, z2, z3, z4, z5⟩, ⟨y1, y2⟩, y3⟩ := hprH.out m hmN
          rw [e1, e3]
          have caP := fun n => after_any a1 (some ⟨ba, ofa, none⟩) c1 c2 s a i _ (wr.drewN n) (hJr.sg.below (hJr.bel.trans ((Drew.mk wr n).below _))) (hTaH.out.below (hJr.bel.trans ((Drew.mk wr n).below _))) hokH.out p1
          have caQ := fun n => after_any a1 (some ⟨bb, ofb, none⟩) c1 c3 s b j _ (wr.drewN n) (hJr.sg.below (hJr.bel.trans ((Drew.mk wr n).below _))) (hTbH.out.below (hJr.bel.trans ((Drew.mk wr n).below _))) hokH.out r1
          simp only [drop_len p3] at caP
          simp only [drop_len r3] at caQ
          have cs := hJr.cs
          have caPH := Lib.hid caP
          have caQH := Lib.hid caQ
          have hJrH := Lib.hid hJr
          have horH := Lib.hid hor
          have hNrH := Lib.hid hNr
          have hgrH := Lib.hid hgr
          have z1H := Lib.hid z1
          have y1H := Lib.hid y1
          have y2H := Lib.hid y2
          clear caP caQ hJr hor hNr hgr p1 r1 z1 y1 y2
          go_wp2_with fail
          go_quiet ((go_at_call 31; first | (with_reducible exact quiet_left (caPH.out _)) | (with_reducible exact quiet_left (caQH.out _))))
          all_goals go_wp2_with fail
          obtain ⟨W4, hW4⟩ : ∃ W, wr.drewN nq = W := ⟨_, rfl⟩
          have hb4 : Below wr.heap.size wr W4.drew := by rw [← hW4]; exact (Drew.mk wr (nq + 1)).below _
          rw [hW4]
          have hJ4 := hJrH.out.grown (grown_bel (grown_refl _ _) hb4)
          have hN4 := hNrH.out.below hb4
          have cw := hJ4.cw
          have hfl := fold_len (jnArgs s f a b m) D
          have ci := ihH.out am bm (some ⟨ba, ofa + i, none⟩) (some ⟨bb, ofb + j, none⟩) (c2 - i) (c3 - j) _ W4.drew z1H.out z2 z3 z4 (by omega)
            (by rw [← p4]; exact Ints.part hTaH.out i i' (c2 - i) (by omega) p3 (by omega) (by omega)) (by rw [← r4]; exact Ints.part hTbH.out j j' (c3 - j) (by omega) r3 (by omega) (by omega)) hJ4 hN4 (by omega)
          rw [p5, r5] at ci
          have hwb : wb < w.heap.size := World.block_lt_of_cell? _ _ hJH.out.cw
          have hwm := hJ4.nes.2.2
          have hown : ∀ k, u11.ownBlock = some k → w.heap.size ≤ k := fun k hk => (OwnL.lt horH.out k hk).1
          have hbm4 : mm < W4.drew.heap.size := hN4.lt
          have hjl := jn_len (s := s) f z1H.out z2 (by omega)
          have hlo : (jnOut s f a b (m0 : Int) D m).length ≤ 60 := by unfold jnOut; rw [List.length_cons, List.length_map]; omega
          have hli : ((jn s f am bm).map (codeP ((jn s f am bm).foldl addP ((jnArgs s f a b m).foldl addP D)))).length ≤ 60 := by rw [List.length_map]; omega
          have ciH := Lib.hid ci
          have hor4H := Lib.hid (OwnL.call horH.out hb4)
          have hgr4H := Lib.hid (grown_bel hgrH.out hb4)
          have hownH := Lib.hid hown
          have hnii : ¬ i' = i := by omega
          have hnci : ¬ c2 = i := by omega
          have hncj : ¬ c3 = j := by omega
          have hnjj : ¬ j' = j := by omega
          have hii : i ≤ i' := by omega
          have hjj : j ≤ j' := by omega
          have hic : i' ≤ c2 := by omega
          have hjc : j' ≤ c3 := by omega
          have e2H := Lib.hid e2
          have e4H := Lib.hid e4
          have hsz4 := Nat.le_trans hgrH.out.size hb4.size
          clear ci hJ4 hN4 hown p4 p5 r4 r5 hfl hb4 z2 z3 z4 z5 z1H caPH caQH horH hgrH hNrH e1 e2 e3 e4 hW4 cs hjl hJrH
          obtain ⟨L2, hL2⟩ : ∃ L, (jn s f am bm).map (codeP ((jn s f am bm).foldl addP ((jnArgs s f a b m).foldl addP D))) = L := ⟨_, rfl⟩
          have hL2H := Lib.hid hL2
          refine wp_region_held_drew (S := fun w' => w'.cell? ⟨wb, 0, none⟩ = some (.func (.func 36) #[] #[.pointer (some ⟨nb, 0, none⟩), .pointer (some ⟨sb, 0, none⟩), .pointer (some ⟨wb, 0, none⟩)])) (by kernel_rfl) cw (fun hS => ?_)
          refine region_take 0 (some 72) (v := ?_) rfl rfl (by kernel_rfl) (by kernel_rfl) (by kernel_rfl) (fun _ _ _ h => h) rfl ?_ hS ?_
          rotate_left
          · (intro w9 hS9; go_simp; try (with_reducible rfl))
          simp only [Act.put, List.setIfInBounds_toArray, List.set_cons_zero, List.set_cons_succ]
          refine region_take 1 (some 73) (v := ?_) rfl rfl (by kernel_rfl) (by kernel_rfl) (by kernel_rfl) (fun _ _ _ h => h) rfl ?_ hS ?_
          rotate_left
          · (intro w9 hS9; go_simp; try (with_reducible rfl))
          simp only [Act.put, List.setIfInBounds_toArray, List.set_cons_zero, List.set_cons_succ]
          refine region_take 2 (some 74) (v := ?_) rfl rfl (by kernel_rfl) (by kernel_rfl) (by kernel_rfl) (fun _ _ _ h => h) rfl ?_ hS ?_
          rotate_left
          · (intro w9 hS9; go_simp; try (with_reducible rfl))
          simp only [Act.put, List.setIfInBounds_toArray, List.set_cons_zero, List.set_cons_succ]
          refine region_take 3 (some 75) (v := ?_) rfl rfl (by kernel_rfl) (by kernel_rfl) (by kernel_rfl) (fun _ _ _ h => h) rfl ?_ hS ?_
          rotate_left
          · (intro w9 hS9; go_simp; try (with_reducible rfl))
          simp only [Act.put, List.setIfInBounds_toArray, List.set_cons_zero, List.set_cons_succ]
          refine region_take 4 (some 76) (v := ?_) rfl rfl (by kernel_rfl) (by kernel_rfl) (by kernel_rfl) (fun _ _ _ h => h) rfl ?_ hS ?_
          rotate_left
          · (intro w9 hS9; go_simp; try (with_reducible rfl))
          simp only [Act.put, List.setIfInBounds_toArray, List.set_cons_zero, List.set_cons_succ]
          refine region_take 5 (some 77) (v := ?_) rfl rfl (by kernel_rfl) (by kernel_rfl) (by kernel_rfl) (fun _ _ _ h => h) rfl ?_ hS ?_
          rotate_left
          · (intro w9 hS9; go_simp; try (with_reducible rfl))
          simp only [Act.put, List.setIfInBounds_toArray, List.set_cons_zero, List.set_cons_succ]
          refine region_take 6 (some 78) (v := ?_) rfl rfl (by kernel_rfl) (by kernel_rfl) (by kernel_rfl) (fun _ _ _ h => h) rfl ?_ hS ?_
          rotate_left
          · (intro w9 hS9; go_simp; try (with_reducible rfl))
          simp only [Act.put, List.setIfInBounds_toArray, List.set_cons_zero, List.set_cons_succ]
          refine region_take 7 (some 79) (v := ?_) rfl rfl (by kernel_rfl) (by kernel_rfl) (by kernel_rfl) (fun _ _ _ h => h) rfl ?_ hS ?_
          rotate_left
          · (intro w9 hS9; go_simp; try (with_reducible rfl))
          simp only [Act.put, List.setIfInBounds_toArray, List.set_cons_zero, List.set_cons_succ]
          refine region_take 8 (some 80) (v := ?_) rfl rfl (by kernel_rfl) (by kernel_rfl) (by kernel_rfl) (fun _ _ _ h => h) rfl ?_ hS ?_
          rotate_left
          · (intro w9 hS9; go_simp; try (with_reducible rfl))
          simp only [Act.put, List.setIfInBounds_toArray, List.set_cons_zero, List.set_cons_succ]
          refine region_take 9 (some 81) (v := ?_) rfl rfl (by kernel_rfl) (by kernel_rfl) (by kernel_rfl) (fun _ _ _ h => h) rfl ?_ hS ?_
          rotate_left
          · (intro w9 hS9; go_simp; try (with_reducible rfl))
          simp only [Act.put, List.setIfInBounds_toArray, List.set_cons_zero, List.set_cons_succ]
          refine region_call 10 rfl (by kernel_rfl) (fun K hK => ?_)
          go_simp
          (with_reducible refine ciH.out.mono ?_)
          rintro e w5 ⟨v5, rfl, ho5, hN5, hg5⟩
          rw [hL2H.out] at ho5
          obtain ⟨a5, c5, rfl, hI5⟩ := OwnI.ints ho5
          have cw5 := (World.cell?_of_block (w := W4.drew) (hg5.block wb (by omega) (fun e => hwm (by injection e)))).trans cw
          refine hK.out _ _ cw5 ?_
          clear hS hK
          intro hS
          refine region_call 11 rfl (by kernel_rfl) (fun K hK => ?_)
          have ho5' := OwnL.grown hor4H.out hg5 (fun k hk e => by have := hownH.out k hk; injection e with e; omega) (fun b hb _ => hb.elim)
          obtain ⟨v6, w6, hr6, ho6, hg6⟩ := appT ho5' hI5 (by rw [← hL2H.out]; omega) (Nat.le_trans hsz4 hg5.size)
          rw [if_pos (by kernel_rfl)]
          refine oper_append_run (vs := u11) (vx := .slice a5 L2.length c5) (v' := v6) (w' := w6) (.tmp 72) (.tmp 82) 25 rfl rfl rfl hr6.out ?_
          have cw6 := (World.cell?_of_block (w := w5) (hg6.out.block wb (World.block_lt_of_cell? _ _ cw5) (fun e => by have := hownH.out wb e.symm; omega))).trans cw5
          refine hK.out _ _ cw6 ?_
          clear hS hK
          intro hS
          refine region_take 12 (some 11) (v := ?_) rfl rfl (by kernel_rfl) (by kernel_rfl) (by kernel_rfl) (fun _ _ _ h => h) rfl ?_ hS ?_
          rotate_left
          · (intro w9 hS9; go_simp; try (with_reducible rfl))
          simp only [Act.put, List.setIfInBounds_toArray, List.set_cons_zero, List.set_cons_succ]
          refine wpAnyH_done (by kernel_rfl) ?_ _
          have hst : joinRel s f a b (m0 : Int) mm D N w v6 (.int .i64 i') (.int .i64 j') (.int .i64 ((m + 1 : Nat) : Int)) w6 := by
            refine ⟨m + 1, rfl, by omega, by rw [e2H.out], by rw [e4H.out], ?_, ?_, ?_⟩
            · rw [y2H.out, hL2H.out]; exact ho6.out
            · rw [y1H.out]; exact hN5.same (hg6.out.block mm hN5.lt (fun e => by have := hownH.out mm e.symm; omega))
            · exact grown_new (grown_by' hgr4H.out hg5) hg6.out hownH.out
          have hstH := Lib.hid hst
          clear hst hS cw cw5 cw6 ho5 ho5' hN5 hg5 ho6 hr6 hg6 hI5 hL2
          go_wp2_with fail
          go_roundw
          case rel => exact hstH.out
          case measure => simp [intOf]; omega
        · obtain rfl : m = N := by omega
          have hfin : joinRet s (f + 1) a b mm D w (.returned u11) wr := by
            refine ⟨_, rfl, ?_, ?_, hgr⟩
            · rw [hjnH.out]; exact hor
            · rw [hjnH.out]; exact hNr
          have hfinH := Lib.hid hfin
          clear hfin hor hNr hgr hJr
          go_wp2_with fail
          go_ret
          exact hfinH.out
end Go.Proofs.Ytgkddhakhapjlaa

/- Walks of package unify: join, Join. -/
namespace Go.Proofs.Ytgkddhakhapjlaa
open Go Go.RowKit Go.Maps Go.WideMaps

theorem jw_made {w W : World} {a1 : Option Addr} {c1 : Nat} {s : Sg} (hsg : Sign (fun b => b < w.heap.size) w a1 c1 s) (t1 t2 t3 : TypeId)
    (hW : (((w.alloc (.cells #[.slice a1 s.length c1] t1)).alloc (.map #[] 0)).alloc (.cells #[.map (some (w.heap.size + 1))] t2)).alloc (.cells #[.func (.func 36) #[] #[.pointer (some ⟨w.heap.size + 1 + 1, 0, none⟩), .pointer (some ⟨w.heap.size, 0, none⟩), .pointer (some ⟨w.heap.size + 1 + 1 + 1, 0, none⟩)]] t3) = W) :
    JW w W (w.heap.size + 1 + 1) w.heap.size (w.heap.size + 1 + 1 + 1) (w.heap.size + 1) a1 c1 s ∧ NamP W (w.heap.size + 1) [] ∧ Below w.heap.size w W := by
  have hb : Below w.heap.size w W := by
    rw [← hW]
    exact ((((Below.refl _ w).alloc (by simp) _).alloc (by simp <;> omega) _).alloc (by simp <;> omega) _).alloc (by simp <;> omega) _
  have e1 : W.cell? ⟨w.heap.size + 1 + 1, 0, none⟩ = some (.map (some (w.heap.size + 1))) := by rw [← hW]; clear hW; go_simp
  have e2 : W.cell? ⟨w.heap.size, 0, none⟩ = some (.slice a1 s.length c1) := by rw [← hW]; clear hW; go_simp
  have e3 : W.cell? ⟨w.heap.size + 1 + 1 + 1, 0, none⟩ = some (.func (.func 36) #[] #[.pointer (some ⟨w.heap.size + 1 + 1, 0, none⟩), .pointer (some ⟨w.heap.size, 0, none⟩), .pointer (some ⟨w.heap.size + 1 + 1 + 1, 0, none⟩)]) := by rw [← hW]; clear hW; go_simp
  refine ⟨⟨e1, e2, e3, ⟨by omega, by omega, by omega⟩, hsg, by omega, hb⟩, ?_, hb⟩
  have h := NamP.made (w.alloc (.cells #[.slice a1 s.length c1] t1))
  have h2 := h.below (below2 _ (.cells #[.map (some (w.heap.size + 1))] t2) (.cells #[.func (.func 36) #[] #[.pointer (some ⟨w.heap.size + 1 + 1, 0, none⟩), .pointer (some ⟨w.heap.size, 0, none⟩), .pointer (some ⟨w.heap.size + 1 + 1 + 1, 0, none⟩)]] t3))
  rw [hW] at h2
  simpa using h2
theorem okT_okL {s : Sg} {t : List Int} (h : okT s t = true) : okL t := ⟨fun n hn => codeOk_bd (okT_parts h).1 (skip_codes s 1 t (okT_parts h).2.2.2 n hn), (okT_parts h).2.1, (okT_parts h).2.2.1⟩
set_option maxRecDepth 20000 in
set_option maxHeartbeats 4000000 in
theorem join_any {S1 S2 S3 : Nat → Prop} (a1 a2 a3 : Option Addr) (c1 c2 c3 : Nat) (s : Sg) (a b : List Int) (w : World) (h1 : Sign S1 w a1 c1 s) (h2 : Ints S2 w a2 c2 a) (h3 : Ints S3 w a3 c3 b) (ha : okT s a = true) (hb : okT s b = true) :
    Calls Try.prog 23 #[.slice a1 s.length c1, .slice a2 a.length c2, .slice a3 b.length c3] w (retOwn w (joinT s a b)) := by
  have hmm := @run_makeMap Try.prog
  have h1' : Sign (fun b => b < w.heap.size) w a1 c1 s := h1.lt.weak (fun _ h => h.2)
  have h2' : T0 w a2 c2 a := h2.lt.weak (fun _ h => h.2)
  have h3' : T0 w a3 c3 b := h3.lt.weak (fun _ h => h.2)
  have m2 := h2.le
  have m3 := h3.le
  have l60 := (okT_parts ha).2.2.1
  have key := fun nb sb wb mm W hJ hN => join1_any (w0 := w) (nb := nb) (sb := sb) (wb := wb) (mm := mm) (a1 := a1) (c1 := c1) (okT_parts ha).1 a.length a b a2 a3 c2 c3 [] W (okT_w1 ha) (okT_w1 hb) (okT_okL ha) (okT_okL hb) (Nat.le_refl _) h2' h3' hJ hN (by simp; omega)
  have keyH := Lib.hid key
  have h1H := Lib.hid h1'
  clear key h1 h2 h3 h1' h2' h3' ha hb
  go_enter Try.func23, Try.ntmps23
  go_wp2_with fail
  obtain ⟨hJ, hN, hB⟩ := jw_made h1H.out _ _ _ rfl
  (with_reducible refine (keyH.out _ _ _ _ _ hJ hN).mono ?_)
  rintro e w3 ⟨v, rfl, ho, -, hg⟩
  have hoH := Lib.hid (OwnL.baseMono (base' := w.heap.size) ho hB.size)
  have hBH := Lib.hid (hB.grown hg hB.size (fun j e => by injection e with e; omega))
  clear ho hg hJ hN hB
  go_wp2_with fail
  go_ret
  exact ⟨v, rfl, hoH.out, hBH.out⟩
set_option maxHeartbeats 2000000 in
theorem Join_any {S1 S2 S3 : Nat → Prop} (a1 a2 a3 : Option Addr) (c1 c2 c3 : Nat) (s : Sg) (a b : List Int) (w : World) (h1 : Sign S1 w a1 c1 s) (h2 : Ints S2 w a2 c2 a) (h3 : Ints S3 w a3 c3 b) :
    Calls Try.prog 11 #[.slice a1 s.length c1, .slice a2 a.length c2, .slice a3 b.length c3] w (retE (joinE s a b) w) := by
  have m2 := h2.le
  have m3 := h3.le
  have v1 := Valid_any a1 a2 c1 c2 s a w h1 h2
  have v2 := fun W (hb : Below w.heap.size w W) => Valid_any a1 a3 c1 c3 s b W (h1.below hb) (h3.below hb)
  have v3 : okT s a = true → okT s b = true → ∀ W, Below w.heap.size w W → _ := fun e1 e2 W hb => join_any a1 a2 a3 c1 c2 c3 s a b W (h1.below hb) (h2.below hb) (h3.below hb) e1 e2
  have v4 : okT s a = true → okT s b = true → (joinT s a b).length ≤ 60 := fun e1 e2 => Nat.le_trans (join_inst (okT_w1 e1) (okT_w1 e2)).2.2.2 (okT_parts e1).2.2.1
  unfold joinE
  generalize okT s a = x at *
  generalize okT s b = y at *
  generalize joinT s a b = t at *
  have v1H := Lib.hid v1
  have v2H := Lib.hid v2
  have v3H := Lib.hid v3
  have v4H := Lib.hid v4
  clear v1 v2 v3 v4 h1 h2 h3
  cases x with
  | false =>
    rw [if_neg (by simp)]
    go_enter Try.func11, Try.ntmps11
    go_wp2_with (go_at_call 15; refine v1H.out.mono ?_; rintro e w1 ⟨rfl, hb1⟩)
    go_ret2
    exact ⟨_, rfl, .nil _ _ _ _ _, hb1⟩
  | true =>
    cases y with
    | false =>
      rw [if_neg (by simp)]
      go_enter Try.func11, Try.ntmps11
      go_wp2_with fail
      refine v1H.out.mono ?_
      rintro e w1 ⟨rfl, hb1⟩
      go_wp2_with fail
      refine (v2H.out _ hb1).mono ?_
      rintro e w2 ⟨rfl, hb2⟩
      go_wp2_with fail
      go_ret2
      exact ⟨_, rfl, .nil _ _ _ _ _, bcall hb1 hb2⟩
    | true =>
      rw [if_pos ⟨rfl, rfl⟩]
      have h60 := v4H.out rfl rfl
      have v3T := v3H.out rfl rfl
      have v3TH := Lib.hid v3T
      clear v3T v3H v4H
      by_cases h12 : (varsC t).length ≤ 12
      · rw [if_pos h12]
        have cn := fun W a4 c4 (hI : Ints (fun b => w.heap.size ≤ b) W a4 c4 t) => named_any a4 c4 t W hI (by unfold lim; omega)
        rw [decide_eq_true h12] at cn
        have cnH := Lib.hid cn
        clear cn h12 h60
        go_enter Try.func11, Try.ntmps11
        go_wp2_with fail
        refine v1H.out.mono ?_
        rintro e w1 ⟨rfl, hb1⟩
        go_wp2_with fail
        refine (v2H.out _ hb1).mono ?_
        rintro e w2 ⟨rfl, hb2⟩
        have hbb := bcall hb1 hb2
        clear hb1 hb2
        go_wp2_with fail
        refine (v3TH.out _ hbb).mono ?_
        rintro e w3 ⟨v, rfl, ho, hb3⟩
        obtain ⟨a4, c4, rfl, hI⟩ := OwnI.ints (OwnL.baseMono (base' := w.heap.size) ho hbb.size)
        have hbb := bcall hbb hb3
        clear hb3 ho
        go_wp2_with fail
        refine (cnH.out _ _ _ hI).mono ?_
        rintro e w4 ⟨v, rfl, ho, hb4⟩
        have hoH := Lib.hid (OwnL.baseMono (base' := w.heap.size) ho hbb.size)
        clear ho cnH hI
        go_wp2_with fail
        go_ret2
        exact ⟨_, rfl, hoH.out, bcall hbb hb4⟩
      · rw [if_neg h12]
        have cn := fun W a4 c4 (hI : Ints (fun b => w.heap.size ≤ b) W a4 c4 t) => named_any a4 c4 t W hI (by unfold lim; omega)
        rw [decide_eq_false h12] at cn
        have cnH := Lib.hid cn
        clear cn h12 h60
        go_enter Try.func11, Try.ntmps11
        go_wp2_with fail
        refine v1H.out.mono ?_
        rintro e w1 ⟨rfl, hb1⟩
        go_wp2_with fail
        refine (v2H.out _ hb1).mono ?_
        rintro e w2 ⟨rfl, hb2⟩
        have hbb := bcall hb1 hb2
        clear hb1 hb2
        go_wp2_with fail
        refine (v3TH.out _ hbb).mono ?_
        rintro e w3 ⟨v, rfl, ho, hb3⟩
        obtain ⟨a4, c4, rfl, hI⟩ := OwnI.ints (OwnL.baseMono (base' := w.heap.size) ho hbb.size)
        have hbb := bcall hbb hb3
        clear hb3 ho
        go_wp2_with fail
        refine (cnH.out _ _ _ hI).mono ?_
        rintro e w4 ⟨v, rfl, ho, hb4⟩
        clear ho cnH hI
        go_wp2_with fail
        go_ret2
        exact ⟨_, rfl, .nil _ _ _ _ _, bcall hbb hb4⟩
end Go.Proofs.Ytgkddhakhapjlaa

/- Walks: awake5 of the laws over the layers: two terms that do not unify meet. -/
namespace Go.Proofs.Ytgkddhakhapjlaa
open Go Go.RowKit Go.Maps

theorem aw5m : meetB awS [-1] [1, -1] = true := by
  have h1 : okT awS [-1] = true := by decide +kernel
  have h2 : okT awS [1, -1] = true := by decide +kernel
  unfold meetB
  rw [h1, h2, Bool.true_and, Bool.true_and]
  have hw : Wsub awS (fun n => if n = -1 then [1, -13] else [n]) := fun n hn => by
    show W1 awS (if n = -1 then [1, -13] else [n])
    split
    · decide +kernel
    · exact W1.var hn
  exact (uniB_iff (okT_parts h1).1 (okT_w1 h1) (apartT_w (okT_w1 h2)) (okT_Rg h1) (apartT_rg h2)).2 ⟨_, hw, by decide +kernel⟩
theorem aw5u : unifB awS [-1] [1, -1] = false := by
  unfold unifB
  have : uniB awS [-1] [1, -1] = false := uniB_none fun η hw h => by
    rw [ap_one (by decide), ap_pos (by decide), ap_one (by decide)] at h
    have := congrArg List.length h
    simp at this
  rw [this, Bool.and_false]
set_option maxHeartbeats 1000000 in
theorem awake5_any (w : World) :
    Calls Try.prog 6 #[] w fun e w' => e = .returned (.bool true) ∧ Below w.heap.size w w' := by
  have hS := awSign w
  go_enter Try.func6, Try.ntmps6
  go_wp2_with fail
  have hB0 := below1 w (.cells #[.string ⟨#[67]⟩, .int .i64 2, .string ⟨#[78]⟩, .int .i64 1] 39)
  have hT := Ints.new (w.alloc (.cells #[.string ⟨#[67]⟩, .int .i64 2, .string ⟨#[78]⟩, .int .i64 1] 39)) [-1] 3 (by decide) (by unfold inRange; decide)
  have hU := Ints.new ((w.alloc (.cells #[.string ⟨#[67]⟩, .int .i64 2, .string ⟨#[78]⟩, .int .i64 1] 39)).alloc (.cells ([-1].map (Value.int .i64)).toArray 3)) [1, -1] 3 (by decide) (by unfold inRange; decide)
  have hT1 := hT.below (below1 _ (.cells ([1, -1].map (Value.int .i64)).toArray 3))
  have hS1 := hS.below (below2 _ (.cells ([-1].map (Value.int .i64)).toArray 3) (.cells ([1, -1].map (Value.int .i64)).toArray 3))
  have hB1 := bcall hB0 (below2 _ (.cells ([-1].map (Value.int .i64)).toArray 3) (.cells ([1, -1].map (Value.int .i64)).toArray 3))
  rw [World.size_alloc] at hT1 hU
  rw [World.size_alloc] at hU
  refine (Meets_any (some ⟨w.heap.size, 0, none⟩) (some ⟨w.heap.size + 1, 0, none⟩) (some ⟨w.heap.size + 1 + 1, 0, none⟩) 2 1 2 awS [-1] [1, -1] _ hS1 hT1 hU).mono ?_
  rw [aw5m]
  rintro e w1 ⟨rfl, hb1⟩
  have hS2 := hS1.below hb1
  have hB2 := bcall hB1 hb1
  clear hS hS1 hT hT1 hU hB0 hB1 hb1
  go_wp2_with fail
  have hT := Ints.new w1 [-1] 3 (by decide) (by unfold inRange; decide)
  have hU := Ints.new (w1.alloc (.cells ([-1].map (Value.int .i64)).toArray 3)) [1, -1] 3 (by decide) (by unfold inRange; decide)
  have hT1 := hT.below (below1 _ (.cells ([1, -1].map (Value.int .i64)).toArray 3))
  have hb2 := below2 w1 (.cells ([-1].map (Value.int .i64)).toArray 3) (.cells ([1, -1].map (Value.int .i64)).toArray 3)
  rw [World.size_alloc] at hU
  refine (Unifiable_any (some ⟨w.heap.size, 0, none⟩) (some ⟨w1.heap.size, 0, none⟩) (some ⟨w1.heap.size + 1, 0, none⟩) 2 1 2 awS [-1] [1, -1] _ (hS2.below hb2) hT1 hU).mono ?_
  rw [aw5u]
  rintro e w2 ⟨rfl, hb3⟩
  have hB3 := bcall (bcall hB2 hb2) hb3
  clear hS2 hT hT1 hU hB2 hb2 hb3
  go_wp2_with fail
  go_ret
  exact ⟨rfl, hB3⟩
end Go.Proofs.Ytgkddhakhapjlaa

/- The law TopAbsorbs, walked. -/
namespace Go.Proofs.Ytgkddhakhapjlaa
open Go Go.RowKit Go.Maps

theorem alike_canon {s : Sg} {a : List Int} (h : okT s a = true) : alikeT s (canon a) a = true := by
  unfold alikeT
  rw [okT_canon h, h, canon_canon]; simp
set_option maxRecDepth 20000 in
set_option maxHeartbeats 8000000 in
theorem TopAbsorbs_walk {S S1 S2 : Nat → Prop} (p : Option Addr) (k : Nat) (s : Sg) (a0 : Option Addr) (c0 : Nat) (t0 : List Int) (a1 : Option Addr) (c1 : Nat) (t1 : List Int) (w : World) (hs : Sign S w p k s) (h0 : Ints S1 w a0 c0 t0) (h1 : Ints S2 w a1 c1 t1) :
    Calls Try.prog 4 #[.slice p s.length k, .slice a0 t0.length c0, .slice a1 t1.length c1] w fun e w' => e = .returned (.bool true) ∧ Below w.heap.size w w' := by
  have m1 := h1.le
  have m0 := h0.le
  have hB := below1 w (.cells #[.slice a0 t0.length c0, .slice a1 t1.length c1] 25)
  have hTs := Sl.new (E := slE intE) (S := fun _ => True) w [[.slice a0 t0.length c0], [.slice a1 t1.length c1]] [t0, t1] 25 rfl (by unfold big; simp) (fun i g1 g2 => by
      match i, g1 with
      | 0, _ => exact ⟨_, _, rfl, h0.weak (fun _ _ => trivial)⟩
      | 1, _ => exact ⟨_, _, rfl, h1.weak (fun _ _ => trivial)⟩)
  have csm := Small_any p (some ⟨w.heap.size, 0, none⟩) k 2 s [t0, t1] (w.alloc (.cells #[.slice a0 t0.length c0, .slice a1 t1.length c1] 25)) (hs.below hB) hTs.any
  have csmH := Lib.hid csm
  have hBH := Lib.hid hB
  have hsH := Lib.hid (hs.below hB)
  have h0H := Lib.hid (h0.below hB)
  have h1H := Lib.hid (h1.below hB)
  clear csm hTs hs h0 h1 hB
  go_enter Try.func4, Try.ntmps4
  go_wp2_with fail
  refine csmH.out.mono ?_
  clear csmH
  generalize (w.alloc (.cells #[.slice a0 t0.length c0, .slice a1 t1.length c1] 25)) = W at *
  generalize smallT s [t0, t1] = sm
  rintro e w' ⟨rfl, rfl⟩
  cases sm with
  | false =>
    go_wp2_with fail
    refine (awake5_any W).mono ?_
    rintro e w1 ⟨rfl, hb1⟩
    go_wp2_with fail
    go_ret
    exact ⟨rfl, hBH.out.trans (hb1.mono hBH.out.size)⟩
  | true =>
    have k1 := Meet_any p a0 a1 k c0 c1 s t0 t1 W hsH.out h0H.out h1H.out
    have kj := fun W' (hb : Below W.heap.size W W') T a4 c4 u (hu : Ints T W' a4 c4 u) => Join_any p a0 a4 k c0 c4 s t0 u W' (hsH.out.below hb) (h0H.out.below hb) hu
    have km := fun W' (hb : Below W.heap.size W W') T a4 c4 u (hu : Ints T W' a4 c4 u) => Meet_any p a0 a4 k c0 c4 s t0 u W' (hsH.out.below hb) (h0H.out.below hb) hu
    have ka := fun W' (hb : Below W.heap.size W W') T a4 c4 u (hu : Ints T W' a4 c4 u) => Alike_any p a4 a0 k c4 c0 s u t0 W' (hsH.out.below hb) hu (h0H.out.below hb)
    have ab1 := absorb1 (s := s) (a := t0) (b := t1)
    have ab2 := absorb2 (s := s) (a := t0) (b := t1)
    obtain ⟨⟨ml, mn⟩, hme⟩ : ∃ r, meetE s t0 t1 = r := ⟨_, rfl⟩
    obtain ⟨⟨jl, jn'⟩, hje⟩ : ∃ r, joinE s t0 t1 = r := ⟨_, rfl⟩
    rw [hme] at k1 ab1
    rw [hje] at ab2
    simp only at ab1 ab2
    have kj1 := fun W' hb => kj W' hb _ a1 c1 t1 (h1H.out.below hb)
    rw [hje] at kj1
    have k1H := Lib.hid k1
    have kjH := Lib.hid kj
    have kj1H := Lib.hid kj1
    have kmH := Lib.hid km
    have kaH := Lib.hid ka
    have ab1H := Lib.hid ab1
    have ab2H := Lib.hid ab2
    clear k1 kj km ka ab1 ab2 hme hje kj1
    -- what follows behind the first part
    go_wp2_with fail
    refine k1H.out.mono ?_
    rintro e w1 ⟨v1, rfl, o1, b1⟩
    obtain ⟨a3, c3, rfl, i3⟩ := OwnI.ints o1
    clear o1 k1H
    by_cases hmn : mn = 0
    · subst hmn
      obtain ⟨hok, hj1⟩ := ab1H.out rfl
      have k2 := kjH.out w1 b1 _ _ _ _ i3
      have hal := alike_canon hok
      rw [hj1] at k2
      have k2H := Lib.hid k2
      have halH := Lib.hid hal
      clear k2 hj1 hok hal i3
      go_wp2_with fail
      refine k2H.out.mono ?_
      rintro e w2 ⟨v2, rfl, o2, b2⟩
      obtain ⟨a4, c4, rfl, i4⟩ := OwnI.ints o2
      have b2 := bcall b1 b2
      have k3 := kaH.out w2 b2 _ _ _ _ i4
      rw [halH.out] at k3
      have k3H := Lib.hid k3
      clear o2 k2H k3 i4
      go_wp2_with fail
      refine k3H.out.mono ?_
      rintro e w3 ⟨rfl, b3⟩
      have b3 := bcall b2 b3
      clear k3H
      go_wp2_with fail
      refine (kj1H.out _ b3).mono ?_
      rintro e w4 ⟨v4, rfl, o4, b4⟩
      obtain ⟨a5, c5, rfl, i5⟩ := OwnI.ints o4
      have b4 := bcall b3 b4
      clear o4 b1 b2 b3
      by_cases hjn : jn' = 0
      · subst hjn
        obtain ⟨hok, hj2⟩ := ab2H.out rfl
        have k5 := kmH.out w4 b4 _ _ _ _ i5
        rw [hj2] at k5
        have k5H := Lib.hid k5
        clear k5 hj2 hok i5
        go_wp2_with fail
        refine k5H.out.mono ?_
        rintro e w5 ⟨v5, rfl, o5, b5⟩
        obtain ⟨a6, c6, rfl, i6⟩ := OwnI.ints o5
        have b5 := bcall b4 b5
        have k6 := kaH.out w5 b5 _ _ _ _ i6
        rw [halH.out] at k6
        have k6H := Lib.hid k6
        clear o5 k5H k6 i6
        go_wp2_with fail
        refine k6H.out.mono ?_
        rintro e w6 ⟨rfl, b6⟩
        have b6 := bcall b5 b6
        clear k6H
        go_wp2_with fail
        refine (awake5_any _).mono ?_
        rintro e w9 ⟨rfl, b9⟩
        go_wp2_with fail
        go_ret
        exact ⟨rfl, bcall hBH.out (bcall b6 b9)⟩
      · have hjn2 : (jn' != 0) = true := by simpa using hjn
        clear i5
        go_wp2_with fail
        refine (awake5_any _).mono ?_
        rintro e w9 ⟨rfl, b9⟩
        go_wp2_with fail
        go_ret
        exact ⟨rfl, bcall hBH.out (bcall b4 b9)⟩
    · have hmn2 : (mn == 0) = false := by simpa using hmn
      clear i3
      go_wp2_with fail
      refine (kj1H.out _ b1).mono ?_
      rintro e w4 ⟨v4, rfl, o4, b4⟩
      obtain ⟨a5, c5, rfl, i5⟩ := OwnI.ints o4
      have b4 := bcall b1 b4
      clear o4 b1
      by_cases hjn : jn' = 0
      · subst hjn
        obtain ⟨hok, hj2⟩ := ab2H.out rfl
        have k5 := kmH.out w4 b4 _ _ _ _ i5
        have hal := alike_canon hok
        rw [hj2] at k5
        have k5H := Lib.hid k5
        have halH := Lib.hid hal
        clear k5 hj2 hok i5 hal
        go_wp2_with fail
        refine k5H.out.mono ?_
        rintro e w5 ⟨v5, rfl, o5, b5⟩
        obtain ⟨a6, c6, rfl, i6⟩ := OwnI.ints o5
        have b5 := bcall b4 b5
        have k6 := kaH.out w5 b5 _ _ _ _ i6
        rw [halH.out] at k6
        have k6H := Lib.hid k6
        clear o5 k5H k6 i6
        go_wp2_with fail
        refine k6H.out.mono ?_
        rintro e w6 ⟨rfl, b6⟩
        have b6 := bcall b5 b6
        clear k6H
        go_wp2_with fail
        refine (awake5_any _).mono ?_
        rintro e w9 ⟨rfl, b9⟩
        go_wp2_with fail
        go_ret
        exact ⟨rfl, bcall hBH.out (bcall b6 b9)⟩
      · have hjn2 : (jn' != 0) = true := by simpa using hjn
        clear i5
        go_wp2_with fail
        refine (awake5_any _).mono ?_
        rintro e w9 ⟨rfl, b9⟩
        go_wp2_with fail
        go_ret
        exact ⟨rfl, bcall hBH.out (bcall b4 b9)⟩
end Go.Proofs.Ytgkddhakhapjlaa

/- The statement TopAbsorbsSaid: for every input TopAbsorbs returns true and leaves its arguments as they were. No condition. -/
namespace Go.Proofs.Ytgkddhakhapjlaa
open Go Go.RowKit Go.ChangeShapes Go.WideShapes Go.ChangeAt

set_option maxRecDepth 100000 in
theorem topAbsorbs_lifted (os : Os) (started : os.Started) (H : Type) (enc : TypeId × Value → H) :
    ReturnsInHanded {} Try.checked os 4 .any (Rows.topAbsorbsSpec.pre6 enc Try.prog Try.f4 Rows.topAbsorbsRow.domain false) (Rows.topAbsorbsSpec.post enc Try.prog Try.f4 false true false false) := by
  refine returnsInHanded_of_change (C := Try.checked) Try.own started (by kernel_rfl) Try.func4
    (ChangeSpec.witness6 (enc := enc) (C := Try.checked) false ⟨#[], #[.slice none 0 0, .slice none 0 0, .slice none 0 0], []⟩ 8 (by kernel_rfl) (by kernel_rfl) (by kernel_rfl) (by kernel_rfl)) ?_
  intro W base args ds gs before hval0 hW hcnd _
  have hval : ∀ (j : Nat) t v, Try.f4.params[j]? = some t → args[j]? = some v → Value.okWide Try.prog W .any base t v := hval0
  have hW' := hW
  obtain ⟨p, q, hA0, hV, rfl, hfz, hnd⟩ := hW
  have hA : DataW.TrodAll enc Try.prog W 0 (fun _ => true) true Try.f4.params.toList args.toList ds p := hA0
  rw [Try.params4] at hA hval
  obtain ⟨v0, v1, v2, d0, d1, d2, p0, p1, p2, rfl, rfl, rfl, h0, h1, h2⟩ := trodAll_three hA
  obtain ⟨rfl, rfl⟩ := trodVars_none hV
  clear hA0 hval0
  simp only [List.append_nil] at hW'
  have hlt : ∀ x ∈ p0 ++ (p1 ++ p2), x.block < W.heap.size := fun x hx => hW'.lt x (by simpa using hx)
  have keep0 := fun (W' : World) (hn : Below W.heap.size W W') => Below.trod Try.laidOut (by kernel_rfl) (of_decide_eq_true (by kernel_rfl)) h0 hn (fun x hx => hlt x (by simp [hx]))
  have keep1 := fun (W' : World) (hn : Below W.heap.size W W') => Below.trod Try.laidOut (by kernel_rfl) (of_decide_eq_true (by kernel_rfl)) h1 hn (fun x hx => hlt x (by simp [hx]))
  have keep2 := fun (W' : World) (hn : Below W.heap.size W W') => Below.trod Try.laidOut (by kernel_rfl) (of_decide_eq_true (by kernel_rfl)) h2 hn (fun x hx => hlt x (by simp [hx]))
  obtain ⟨l0, a0, c0, rfl, r0⟩ := gSign.arg h0 (okWide_slice Try.underlying23 (hval 0 23 v0 rfl rfl))
  obtain ⟨l1, a1, c1, rfl, r1⟩ := gTerm.arg h1 (okWide_slice Try.underlying25 (hval 1 25 v1 rfl rfl))
  obtain ⟨l2, a2, c2, rfl, r2⟩ := gTerm.arg h2 (okWide_slice Try.underlying25 (hval 2 25 v2 rfl rfl))
  refine (TopAbsorbs_walk _ _ _ _ _ _ _ _ _ W r0 r1 r2).mono fun e W' ⟨he, hB⟩ => ?_
  subst he
  exact ⟨_, rfl, _, _, _, [], p0 ++ (p1 ++ p2), [], hW', trodAll_mk1 (shut_bool Try.underlying4 true), trodAll_mk3 (keep0 _ hB) (keep1 _ hB) (keep2 _ hB), rfl, hB.frame _, fun h => by cases h⟩

/-- TopAbsorbs: for every input it returns true, and each argument reads as it did. -/
theorem topAbsorbs_holds : Rows.TopAbsorbsSaid :=
  OpenClaim.holds_of_wide 4 Try.f4 rfl rfl rfl rfl rfl rfl rfl ⟨rfl, rfl, rfl, rfl, rfl⟩ rfl rfl rfl rfl rfl (by kernel_rfl) Try.func4 (by kernel_rfl)
    (of_decide_eq_true (by kernel_rfl)) (by unfold Func.isWrapper; rw [if_neg (of_decide_eq_false (by kernel_rfl))]; exact ⟨rfl, rfl⟩)
    (fun os started H enc _ => topAbsorbs_lifted os started H enc)
end Go.Proofs.Ytgkddhakhapjlaa
