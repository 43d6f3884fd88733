/- Paths in terms. No program is named. -/
import Derived.Test.YtpmnnoopoblpgaaGreatMath4
namespace Go.Proofs.YtpmnnoopoblpgaaGreat

theorem skip_pos {s : Sg} {k : Nat} {l r : List Int} (h : skip s (k + 1) l = some r) : ∃ n x, l = n :: x ∧ codeOk s n = true ∧ skip s (k + ar s n) x = some r := by
  cases l with
  | nil => simp [skip_nil] at h
  | cons n x =>
    rw [skip_cons] at h
    split at h
    · exact ⟨n, x, rfl, ‹_›, h⟩
    · cases h
theorem skip_drop {s : Sg} {k p : Nat} {t r : List Int} (h : skip s (k + 1) (t.drop p) = some r) : ∃ hp : p < t.length, codeOk s t[p] = true ∧ skip s (k + ar s t[p]) (t.drop (p + 1)) = some r := by
  obtain ⟨n, x, hx, hc, hs⟩ := skip_pos h
  have hp : p < t.length := by
    rcases Nat.lt_or_ge p t.length with h | h
    · exact h
    · rw [List.drop_eq_nil_of_le h] at hx; cases hx
  rw [List.drop_eq_getElem_cons hp] at hx
  simp only [List.cons.injEq] at hx
  obtain ⟨rfl, rfl⟩ := hx
  exact ⟨hp, hc, hs⟩
theorem posK_length (s : Sg) (n : Nat) : ∀ k l, (posK s n k l).length = k
  | 0, _ => rfl
  | k + 1, l => by unfold posK; rw [List.length_cons, posK_length s n k]
theorem splitK_append {s : Sg} {k : Nat} {l x : List Int} (h : skip s k l = some []) : splitK s k (l ++ x) = splitK s k l := by
  obtain ⟨h1, h2, h3⟩ := splitK_spec s k l [] h
  rw [List.append_nil] at h2
  have := splitK_flatten (s := s) (splitK s k l) x (fun u hu => (h3 u hu).1)
  rw [h1, h2] at this
  exact this
/-- where a term's arguments begin, and what they are -/
theorem posK_at (s : Sg) (t : List Int) : ∀ (k q : Nat) (r : List Int), q ≤ t.length → skip s k (t.drop q) = some r → ∀ j, j < k →
    ∃ z rest, (posK s t.length k (t.drop q))[j]? = some ((z : Nat) : Int) ∧ skip s 1 (t.drop z) = some rest ∧ (splitK s k (t.drop q))[j]? = some (partAt s (t.drop z)) ∧ z = q + ((splitK s k (t.drop q)).take j).flatten.length
  | 0, _, _, _, _, j, hj => by omega
  | k + 1, q, r, hq, hs, j, hj => by
    obtain ⟨m, h1, h2⟩ := skip_one hs
    cases j with
    | zero =>
      refine ⟨q, m, ?_, h1, ?_, by simp⟩
      · simp [posK]; omega
      · simp [splitK]
    | succ j =>
      obtain ⟨-, g2, g3, g4⟩ := endOf_some s t q m h1
      have hpl := partAt_len h1
      rw [List.length_drop] at hpl
      have ih := posK_at s t k (t.length - m.length) r g4 (by rw [g2]; exact h2) j (by omega)
      rw [g2] at ih
      obtain ⟨z, rest, e1, e2, e3, e4⟩ := ih
      refine ⟨z, rest, ?_, e2, ?_, ?_⟩
      · rw [posK, h1]; simpa using e1
      · rw [splitK, h1]; simpa using e3
      · rw [splitK, h1, List.take_succ_cons, List.flatten_cons, List.length_append, hpl, Option.getD_some, e4]; omega

/-- the index of an argument of the part at an index -/
def stepTo (s : Sg) (t : List Int) (a : Nat) (k : Int) : Option Nat :=
  if 0 ≤ k ∧ k < ar s (t.getD a 0) then some ((posK s t.length (ar s (t.getD a 0)) (t.drop (a + 1))).getD k.toNat 0).toNat else none
/-- the index to which a path leads -/
def place (s : Sg) (t : List Int) : List Int → Nat → Option Nat
  | [], a => some a
  | k :: ks, a => (stepTo s t a k).bind (place s t ks)
/-- the part at a path -/
def sub (s : Sg) : List Int → List Int → Option (List Int)
  | [], u => some u
  | k :: ks, u => if 0 ≤ k then ((argsT s u)[k.toNat]?).bind (sub s ks) else none

theorem part_args {s : Sg} {t rest : List Int} {a : Nat} (h : skip s 1 (t.drop a) = some rest) :
    argsT s (partAt s (t.drop a)) = splitK s (ar s (t.getD a 0)) (t.drop (a + 1)) ∧ skip s (ar s (t.getD a 0)) (t.drop (a + 1)) = some rest ∧ (argsT s (partAt s (t.drop a))).length = ar s (t.getD a 0) ∧ a < t.length := by
  obtain ⟨hlt, hc, hs⟩ := skip_drop (k := 0) h
  have hgd : t.getD a 0 = t[a] := by simp [hlt]
  rw [hgd]
  rw [Nat.zero_add] at hs
  obtain ⟨e1, e2, -⟩ := partAt_eq h
  obtain ⟨n, x, hx, -, hs2⟩ := skip_pos (k := 0) e2
  rw [Nat.zero_add] at hs2
  rw [hx, List.cons_append, List.drop_eq_getElem_cons hlt] at e1
  simp only [List.cons.injEq] at e1
  obtain ⟨hn, hd⟩ := e1
  have h1 : argsT s (partAt s (t.drop a)) = splitK s (ar s t[a]) (t.drop (a + 1)) := by
    rw [hx, hn, hd, splitK_append hs2]; rfl
  refine ⟨h1, hs, ?_, hlt⟩
  rw [h1]; exact (splitK_spec s _ _ _ hs).1
theorem step_ok {s : Sg} {t rest : List Int} {a : Nat} (h : skip s 1 (t.drop a) = some rest) (k : Nat) (hk : k < (argsT s (partAt s (t.drop a))).length) :
    ∃ z rest', stepTo s t a k = some z ∧ z = a + 1 + ((argsT s (partAt s (t.drop a))).take k).flatten.length ∧ skip s 1 (t.drop z) = some rest' ∧ partAt s (t.drop z) = (argsT s (partAt s (t.drop a)))[k] ∧
      (posK s t.length (ar s (t.getD a 0)) (t.drop (a + 1)))[k]? = some (z : Int) := by
  obtain ⟨h1, h2, h3, h4⟩ := part_args h
  rw [h3] at hk
  obtain ⟨z, r', e1, e2, e3, e4⟩ := posK_at s t _ (a + 1) rest (by omega) h2 k hk
  refine ⟨z, r', ?_, by rw [h1]; exact e4, e2, ?_, e1⟩
  · rw [stepTo, if_pos ⟨by omega, by omega⟩, List.getD_eq_getElem?_getD, Int.toNat_natCast, e1]; rfl
  · rw [← h1, List.getElem?_eq_getElem (by omega)] at e3
    exact (Option.some.inj e3).symm
theorem step_no {s : Sg} {t rest : List Int} {a : Nat} (h : skip s 1 (t.drop a) = some rest) (k : Int) (hk : ¬ (0 ≤ k ∧ k < (argsT s (partAt s (t.drop a))).length)) : stepTo s t a k = none := by
  obtain ⟨h1, h2, h3, h4⟩ := part_args h
  rw [h3] at hk
  rw [stepTo, if_neg hk]
theorem place_sub {s : Sg} {t : List Int} : ∀ (p : List Int) {rest : List Int} {a : Nat} (_ : skip s 1 (t.drop a) = some rest),
    (∀ z, place s t p a = some z → ∃ r', skip s 1 (t.drop z) = some r' ∧ sub s p (partAt s (t.drop a)) = some (partAt s (t.drop z))) ∧ (place s t p a = none → sub s p (partAt s (t.drop a)) = none)
  | [], rest, a, h => ⟨fun z hz => by cases hz; exact ⟨rest, h, rfl⟩, fun hz => by cases hz⟩
  | k :: ks, rest, a, h => by
    by_cases hk : 0 ≤ k ∧ k < (argsT s (partAt s (t.drop a))).length
    · obtain ⟨n, rfl⟩ := Int.eq_ofNat_of_zero_le hk.1
      have hk2 : n < (argsT s (partAt s (t.drop a))).length := by omega
      obtain ⟨z, r', e1, -, e3, e4, -⟩ := step_ok h n hk2
      have ih := place_sub ks e3
      have hs : sub s ((n : Int) :: ks) (partAt s (t.drop a)) = sub s ks (partAt s (t.drop z)) := by
        rw [sub, if_pos hk.1, Int.toNat_natCast, List.getElem?_eq_getElem hk2, e4]; rfl
      rw [place, e1, hs]; exact ih
    · have hs : sub s (k :: ks) (partAt s (t.drop a)) = none := by
        rw [sub]
        split
        · rw [List.getElem?_eq_none (by omega)]; rfl
        · rfl
      rw [place, step_no h k hk, hs]
      exact ⟨fun z hz => (by cases hz), fun _ => rfl⟩
theorem partAt_all {s : Sg} {t : List Int} (h : okT s t = true) : partAt s (t.drop 0) = t := by
  have := (okT_parts h).2.2.2
  rw [List.drop_zero]; unfold partAt; rw [this]; simp
theorem okT_skip0 {s : Sg} {t : List Int} (h : okT s t = true) : skip s 1 (t.drop 0) = some [] := (okT_parts h).2.2.2
theorem okT_part {s : Sg} {t rest : List Int} {a : Nat} (h : okT s t = true) (hs : skip s 1 (t.drop a) = some rest) : okT s (partAt s (t.drop a)) = true ∧ (partAt s (t.drop a)).length = t.length - a - rest.length := by
  obtain ⟨h1, h2, h3, -⟩ := okT_parts h
  have hl := partAt_len hs
  rw [List.length_drop] at hl
  exact ⟨okT_of_skip h1 (partAt_eq hs).2.1 (by omega), hl⟩
/-- what At answers -/
def atE (s : Sg) (t p : List Int) : List Int × Int :=
  if okT s t then (match place s t p 0 with | some z => (partAt s (t.drop z), 0) | none => ([], 8)) else ([], 1)
theorem atE_no {s : Sg} {t p : List Int} (h : okT s t = false) : atE s t p = ([], 1) := by rw [atE, h]; rfl
theorem atE_some {s : Sg} {t p : List Int} {z : Nat} (h : okT s t = true) (hp : place s t p 0 = some z) : atE s t p = (partAt s (t.drop z), 0) := by rw [atE, if_pos h, hp]
theorem atE_none {s : Sg} {t p : List Int} (h : okT s t = true) (hp : place s t p 0 = none) : atE s t p = ([], 8) := by rw [atE, if_pos h, hp]
theorem atE_sub {s : Sg} {t p : List Int} (h : okT s t = true) : atE s t p = match sub s p t with | some u => (u, 0) | none => ([], 8) := by
  obtain ⟨h1, h2⟩ := place_sub p (okT_skip0 h)
  rw [partAt_all h] at h1 h2
  cases hp : place s t p 0 with
  | none => rw [atE_none h hp, h2 hp]
  | some z => obtain ⟨r, -, e⟩ := h1 z hp; rw [atE_some h hp, e]
/-- what is at a path below an argument is at the rest of it in that argument -/
theorem atE_down {s : Sg} {t ks : List Int} {k : Int} (h : (atE s t (k :: ks)).2 = 0) : okT s t = true ∧ 0 ≤ k ∧ ∃ hk : k.toNat < (argsT s t).length, atE s (argsT s t)[k.toNat] ks = atE s t (k :: ks) := by
  cases hx : okT s t with
  | false => rw [atE_no hx] at h; cases h
  | true =>
    rw [atE_sub hx] at h
    by_cases hk : 0 ≤ k
    · by_cases hk2 : k.toNat < (argsT s t).length
      · refine ⟨rfl, hk, hk2, ?_⟩
        rw [atE_sub ((argsT_spec hx).2.2 _ (List.getElem_mem hk2)), atE_sub hx, sub, if_pos hk, List.getElem?_eq_getElem hk2]; rfl
      · rw [sub, if_pos hk, List.getElem?_eq_none (by omega)] at h; cases h
    · rw [sub, if_neg hk] at h; cases h
end Go.Proofs.YtpmnnoopoblpgaaGreat
