/- Arguments and parts of terms as lists. No program is named. -/
import Derived.Test.YtpmnnoopoblpgaaGreatMath2
namespace Go.Proofs.YtpmnnoopoblpgaaGreat

/-- the first term of a list -/
def partAt (s : Sg) (l : List Int) : List Int := l.take (l.length - ((skip s 1 l).getD []).length)
/-- the first k terms of a list -/
def splitK (s : Sg) : Nat → List Int → List (List Int)
  | 0, _ => []
  | k + 1, l => partAt s l :: splitK s k ((skip s 1 l).getD [])
/-- where they begin -/
def posK (s : Sg) (n : Nat) : Nat → List Int → List Int
  | 0, _ => []
  | k + 1, l => ((n - l.length : Nat) : Int) :: posK s n k ((skip s 1 l).getD [])
def argsT (s : Sg) (t : List Int) : List (List Int) := match t with | [] => [] | n :: r => splitK s (ar s n) r

theorem partAt_eq {s : Sg} {l r : List Int} (h : skip s 1 l = some r) : l = partAt s l ++ r ∧ skip s 1 (partAt s l) = some [] ∧ 1 ≤ (partAt s l).length := by
  obtain ⟨u, rfl, hu, hl⟩ := skip_split s 1 l r h
  have : partAt s (u ++ r) = u := by
    unfold partAt
    rw [h]; simp
  rw [this]; exact ⟨rfl, hu, hl⟩
theorem partAt_len {s : Sg} {l r : List Int} (h : skip s 1 l = some r) : (partAt s l).length = l.length - r.length := by
  obtain ⟨h1, _, _⟩ := partAt_eq h
  have : l.length = (partAt s l).length + r.length := by rw [← List.length_append, ← h1]
  omega
theorem skip_one {s : Sg} {k : Nat} {l r : List Int} (h : skip s (k + 1) l = some r) : ∃ m, skip s 1 l = some m ∧ skip s k m = some r := by
  rw [Nat.add_comm, skip_add] at h
  cases hm : skip s 1 l with
  | none => rw [hm] at h; cases h
  | some m => rw [hm] at h; exact ⟨m, rfl, h⟩
theorem splitK_spec (s : Sg) : ∀ (k : Nat) (l r : List Int), skip s k l = some r → (splitK s k l).length = k ∧ (splitK s k l).flatten ++ r = l ∧ ∀ u ∈ splitK s k l, skip s 1 u = some [] ∧ 1 ≤ u.length
  | 0, l, r, h => by
    rw [skip_zero] at h
    simp only [Option.some.injEq] at h
    exact ⟨rfl, by rw [← h]; rfl, fun u hu => by simp [splitK] at hu⟩
  | k + 1, l, r, h => by
    obtain ⟨m, h1, h2⟩ := skip_one h
    obtain ⟨a1, a2, a3⟩ := splitK_spec s k m r h2
    obtain ⟨b1, b2, b3⟩ := partAt_eq h1
    unfold splitK
    rw [h1]
    refine ⟨by simp [a1], ?_, ?_⟩
    · rw [List.flatten_cons, List.append_assoc, Option.getD_some, a2]; exact b1.symm
    · intro u hu
      rcases List.mem_cons.1 hu with rfl | hu
      · exact ⟨b2, b3⟩
      · exact a3 u hu
/-- a valid term is its head and its arguments -/
theorem okT_head {s : Sg} {t : List Int} (h : okT s t = true) : ∃ n r, t = n :: r ∧ codeOk s n = true ∧ skip s (ar s n) r = some [] := by
  obtain ⟨h1, h2, h3, h4⟩ := okT_parts h
  cases t with
  | nil => simp at h2
  | cons n r =>
    rw [skip_cons] at h4
    split at h4
    · rename_i hc; exact ⟨n, r, rfl, hc, by simpa using h4⟩
    · cases h4
theorem len_flatten {l : List (List Int)} {u : List Int} (h : u ∈ l) : u.length ≤ l.flatten.length := by
  induction l with
  | nil => simp at h
  | cons x r ih =>
    rw [List.flatten_cons, List.length_append]
    rcases List.mem_cons.1 h with rfl | h
    · omega
    · have := ih h; omega
theorem argsT_spec {s : Sg} {t : List Int} (h : okT s t = true) : (argsT s t).length = ar s (t.headD 0) ∧ t = t.headD 0 :: (argsT s t).flatten ∧ ∀ u ∈ argsT s t, okT s u = true := by
  obtain ⟨n, r, rfl, hc, hs⟩ := okT_head h
  obtain ⟨h1, h2, h3, h4⟩ := okT_parts h
  obtain ⟨a1, a2, a3⟩ := splitK_spec s (ar s n) r [] hs
  refine ⟨a1, ?_, ?_⟩
  · show n :: r = n :: (splitK s (ar s n) r).flatten
    rw [List.append_nil] at a2; rw [a2]
  · intro u hu
    obtain ⟨b1, b2⟩ := a3 u hu
    have hl : u.length ≤ r.length := by
      rw [List.append_nil] at a2
      rw [← a2]
      exact len_flatten hu
    simp at h3
    unfold okT
    rw [h1, decide_eq_true b2, decide_eq_true (by omega), decide_eq_true b1]; rfl
theorem okT_of_skip {s : Sg} {u : List Int} (hs : okSign s = true) (h : skip s 1 u = some []) (hl : u.length ≤ 60) : okT s u = true := by
  have h1 : 1 ≤ u.length := by have := skip_len s 1 u [] h; simpa using this
  unfold okT
  rw [hs, decide_eq_true h1, decide_eq_true hl, decide_eq_true h]; rfl
/-- a symbol built of arguments -/
theorem skip_flatten {s : Sg} : ∀ (l : List (List Int)), (∀ u ∈ l, skip s 1 u = some []) → skip s l.length l.flatten = some []
  | [], _ => rfl
  | u :: l, h => by
    rw [List.length_cons, Nat.add_comm, skip_add, List.flatten_cons]
    have := skip_append s 1 u l.flatten [] (h u (by simp))
    rw [this]
    exact skip_flatten l (fun v hv => h v (by simp [hv]))
theorem splitK_flatten {s : Sg} : ∀ (l : List (List Int)) (x : List Int), (∀ u ∈ l, skip s 1 u = some []) → splitK s l.length (l.flatten ++ x) = l
  | [], _, _ => rfl
  | u :: l, x, h => by
    have hu := h u (by simp)
    have h1 := skip_append s 1 u (l.flatten ++ x) [] hu
    rw [List.nil_append] at h1
    rw [List.length_cons, splitK, List.flatten_cons, List.append_assoc, h1, Option.getD_some, splitK_flatten l x (fun v hv => h v (by simp [hv]))]
    congr 1
    unfold partAt
    rw [h1]; simp
end Go.Proofs.YtpmnnoopoblpgaaGreat
