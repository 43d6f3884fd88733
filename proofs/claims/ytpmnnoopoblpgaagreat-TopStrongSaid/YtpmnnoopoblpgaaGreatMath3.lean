/- The order of lists: by length, then by their numbers. No program is named. -/
namespace Go.Proofs.YtpmnnoopoblpgaaGreat
def cmpI (x y : Int) : Int := if x < y then -1 else if y < x then 1 else 0
def lexc : List Int → List Int → Int
  | [], [] => 0
  | [], _ :: _ => -1
  | _ :: _, [] => 1
  | x :: r, y :: s => if x < y then -1 else if y < x then 1 else lexc r s
def compareT (a b : List Int) : Int := if a.length < b.length then -1 else if b.length < a.length then 1 else lexc a b

theorem cmpI_cases (x y : Int) : cmpI x y = -1 ∧ x < y ∨ cmpI x y = 1 ∧ y < x ∨ cmpI x y = 0 ∧ x = y := by
  unfold cmpI
  split
  · exact .inl ⟨rfl, ‹_›⟩
  · split
    · exact .inr (.inl ⟨rfl, ‹_›⟩)
    · exact .inr (.inr ⟨rfl, by omega⟩)
theorem lexc_drop {a b : List Int} {k : Nat} (h1 : k < a.length) (h2 : k < b.length) : lexc (a.drop k) (b.drop k) = if cmpI a[k] b[k] ≠ 0 then cmpI a[k] b[k] else lexc (a.drop (k + 1)) (b.drop (k + 1)) := by
  rw [List.drop_eq_getElem_cons h1, List.drop_eq_getElem_cons h2, lexc]
  rcases cmpI_cases a[k] b[k] with ⟨h, h'⟩ | ⟨h, h'⟩ | ⟨h, h'⟩ <;> rw [h]
  · rw [if_pos h']; rfl
  · rw [if_neg (by omega), if_pos h']; rfl
  · rw [if_neg (by omega), if_neg (by omega)]; rfl
theorem lexc_range (a b : List Int) : -1 ≤ lexc a b ∧ lexc a b ≤ 1 := by
  induction a generalizing b with
  | nil => cases b <;> simp [lexc]
  | cons x r ih => cases b with
    | nil => simp [lexc]
    | cons y s => rw [lexc]; split <;> (try split) <;> first | omega | exact ih s
theorem lexc_anti (a b : List Int) : lexc b a = -lexc a b := by
  induction a generalizing b with
  | nil => cases b <;> simp [lexc]
  | cons x r ih => cases b with
    | nil => simp [lexc]
    | cons y s =>
      rw [lexc, lexc]
      by_cases h : x < y
      · rw [if_pos h, if_neg (by omega), if_pos h]; rfl
      · by_cases h' : y < x
        · rw [if_pos h', if_neg h, if_pos h']
        · rw [if_neg h, if_neg h', if_neg h, if_neg h']; exact ih s
theorem lexc_zero (a b : List Int) : lexc a b = 0 ↔ a = b := by
  induction a generalizing b with
  | nil => cases b <;> simp [lexc]
  | cons x r ih => cases b with
    | nil => simp [lexc]
    | cons y s =>
      rw [lexc, List.cons.injEq]
      by_cases h : x < y
      · rw [if_pos h]; constructor
        · intro e; omega
        · intro e; omega
      · by_cases h' : y < x
        · rw [if_neg h, if_pos h']; constructor
          · intro e; omega
          · intro e; omega
        · rw [if_neg h, if_neg h', ih s]; exact ⟨fun e => ⟨by omega, e⟩, fun e => e.2⟩
theorem lexc_trans (a b c : List Int) (h1 : lexc a b ≤ 0) (h2 : lexc b c ≤ 0) : lexc a c ≤ 0 := by
  induction a generalizing b c with
  | nil => cases c <;> simp [lexc]
  | cons x r ih => cases b with
    | nil => simp [lexc] at h1
    | cons y s => cases c with
      | nil => simp [lexc] at h2
      | cons z t =>
        rw [lexc] at h1 h2 ⊢
        split at h1
        · split at h2
          · rw [if_pos (by omega)]; omega
          · split at h2
            · omega
            · rw [if_pos (by omega)]; omega
        · split at h1
          · omega
          · split at h2
            · rw [if_pos (by omega)]; omega
            · split at h2
              · omega
              · rw [if_neg (by omega), if_neg (by omega)]; exact ih s t h1 h2
theorem compareT_range (a b : List Int) : -1 ≤ compareT a b ∧ compareT a b ≤ 1 := by
  unfold compareT
  split
  · omega
  · split
    · omega
    · exact lexc_range a b
theorem compareT_anti (a b : List Int) : compareT b a = -compareT a b := by
  unfold compareT
  by_cases h : a.length < b.length
  · rw [if_neg (by omega), if_pos h, if_pos h]; rfl
  · by_cases h' : b.length < a.length
    · rw [if_pos h', if_neg h, if_pos h']
    · rw [if_neg h', if_neg h, if_neg h, if_neg h']; exact lexc_anti a b
theorem compareT_zero (a b : List Int) : compareT a b = 0 ↔ a = b := by
  unfold compareT
  by_cases h : a.length < b.length
  · rw [if_pos h]; exact ⟨fun e => by omega, fun e => by subst e; omega⟩
  · by_cases h' : b.length < a.length
    · rw [if_neg h, if_pos h']; exact ⟨fun e => by omega, fun e => by subst e; omega⟩
    · rw [if_neg h, if_neg h']; exact lexc_zero a b
theorem compareT_trans (a b c : List Int) (h1 : compareT a b ≤ 0) (h2 : compareT b c ≤ 0) : compareT a c ≤ 0 := by
  unfold compareT at *
  split at h1
  · split at h2
    · rw [if_pos (by omega)]; omega
    · split at h2
      · omega
      · rw [if_pos (by omega)]; omega
  · split at h1
    · omega
    · split at h2
      · rw [if_pos (by omega)]; omega
      · split at h2
        · omega
        · rw [if_neg (by omega), if_neg (by omega)]; exact lexc_trans a b c h1 h2
/-- the first that is not 0 -/
theorem compareT_or (a b : List Int) : (if cmpI a.length b.length ≠ 0 then cmpI a.length b.length else lexc a b) = compareT a b := by
  unfold compareT
  rcases cmpI_cases (a.length : Int) b.length with ⟨h, h'⟩ | ⟨h, h'⟩ | ⟨h, h'⟩ <;> rw [h]
  · rw [if_pos (by omega : a.length < b.length)]; rfl
  · rw [if_neg (by omega : ¬ a.length < b.length), if_pos (by omega : b.length < a.length)]; rfl
  · rw [if_neg (by omega : ¬ a.length < b.length), if_neg (by omega : ¬ b.length < a.length)]; rfl
end Go.Proofs.YtpmnnoopoblpgaaGreat
