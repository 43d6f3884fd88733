/- Putting terms in place of variables, and most general ones: terms are lists of numbers written head first; a number below 0 is a variable. No program is named. -/
import Derived.Test.YtpmnnoopoblpgaaGreatMath5
import Derived.Test.YtpmnnoopoblpgaaGreatMath2
namespace Go.Proofs.YtpmnnoopoblpgaaGreat

/-! ### terms with any variables -/
def cw (s : Sg) (n : Int) : Bool := decide (n < s.length)
def arW (s : Sg) (n : Int) : Nat := if n < 0 then 0 else (s.getD n.toNat default).2.toNat
def skw (s : Sg) : Nat → List Int → Option (List Int)
  | 0, l => some l
  | _ + 1, [] => none
  | k + 1, n :: r => if cw s n then skw s (k + arW s n) r else none
theorem skw_zero (s : Sg) (l : List Int) : skw s 0 l = some l := by cases l <;> rfl

theorem skw_nil (s : Sg) (k : Nat) : skw s (k + 1) [] = none := rfl

theorem skw_cons (s : Sg) (k : Nat) (n : Int) (r : List Int) : skw s (k + 1) (n :: r) = if cw s n then skw s (k + arW s n) r else none := rfl

theorem skw_add (s : Sg) (j k : Nat) (l : List Int) : skw s (j + k) l = (skw s j l).bind (skw s k) := by
  induction l generalizing j with
  | nil => cases j with
    | zero => simp [skw_zero]
    | succ j => rw [show j + 1 + k = (j + k) + 1 by omega]; rfl
  | cons n r ih => cases j with
    | zero => simp [skw_zero]
    | succ j =>
      rw [show j + 1 + k = (j + k) + 1 by omega, skw_cons, skw_cons]
      split
      · rw [show j + k + arW s n = j + arW s n + k by omega, ih]
      · rfl

theorem skw_append (s : Sg) (k : Nat) (l x : List Int) (r : List Int) (h : skw s k l = some r) : skw s k (l ++ x) = some (r ++ x) := by
  induction l generalizing k with
  | nil => cases k with
    | zero => simp only [skw_zero, Option.some.injEq] at h ⊢; rw [← h]
    | succ k => simp [skw_nil] at h
  | cons n t ih => cases k with
    | zero => simp only [skw_zero, Option.some.injEq] at h ⊢; rw [← h]
    | succ k =>
      rw [skw_cons] at h
      rw [List.cons_append, skw_cons]
      split at h
      · rw [if_pos ‹_›]; exact ih _ h
      · cases h

theorem skw_split (s : Sg) (k : Nat) (l r : List Int) (h : skw s k l = some r) : ∃ u, l = u ++ r ∧ skw s k u = some [] ∧ k ≤ u.length := by
  induction l generalizing k with
  | nil => cases k with
    | zero => simp only [skw_zero, Option.some.injEq] at h; subst h; exact ⟨[], rfl, rfl, Nat.le_refl _⟩
    | succ k => simp [skw_nil] at h
  | cons n t ih => cases k with
    | zero => simp only [skw_zero, Option.some.injEq] at h; subst h; exact ⟨[], rfl, rfl, Nat.zero_le _⟩
    | succ k =>
      rw [skw_cons] at h
      split at h
      · rename_i hc
        obtain ⟨u, rfl, hu, hl⟩ := ih _ h
        exact ⟨n :: u, rfl, by rw [skw_cons, if_pos hc, hu], by simp; omega⟩
      · cases h

theorem skw_len (s : Sg) (k : Nat) (l r : List Int) (h : skw s k l = some r) : r.length + k ≤ l.length := by
  obtain ⟨u, rfl, _, hl⟩ := skw_split s k l r h
  simp; omega

def partW (s : Sg) (l : List Int) : List Int := l.take (l.length - ((skw s 1 l).getD []).length)

def splitW (s : Sg) : Nat → List Int → List (List Int)
  | 0, _ => []
  | k + 1, l => partW s l :: splitW s k ((skw s 1 l).getD [])

def argsW (s : Sg) (t : List Int) : List (List Int) := match t with | [] => [] | n :: r => splitW s (arW s n) r

theorem partW_eq {s : Sg} {l r : List Int} (h : skw s 1 l = some r) : l = partW s l ++ r ∧ skw s 1 (partW s l) = some [] ∧ 1 ≤ (partW s l).length := by
  obtain ⟨u, rfl, hu, hl⟩ := skw_split s 1 l r h
  have : partW s (u ++ r) = u := by
    unfold partW
    rw [h]; simp
  rw [this]; exact ⟨rfl, hu, hl⟩

theorem partW_len {s : Sg} {l r : List Int} (h : skw s 1 l = some r) : (partW s l).length = l.length - r.length := by
  obtain ⟨h1, _, _⟩ := partW_eq h
  have : l.length = (partW s l).length + r.length := by rw [← List.length_append, ← h1]
  omega

theorem skw_one {s : Sg} {k : Nat} {l r : List Int} (h : skw s (k + 1) l = some r) : ∃ m, skw s 1 l = some m ∧ skw s k m = some r := by
  rw [Nat.add_comm, skw_add] at h
  cases hm : skw s 1 l with
  | none => rw [hm] at h; cases h
  | some m => rw [hm] at h; exact ⟨m, rfl, h⟩

theorem splitW_spec (s : Sg) : ∀ (k : Nat) (l r : List Int), skw s k l = some r → (splitW s k l).length = k ∧ (splitW s k l).flatten ++ r = l ∧ ∀ u ∈ splitW s k l, skw s 1 u = some [] ∧ 1 ≤ u.length
  | 0, l, r, h => by
    rw [skw_zero] at h
    simp only [Option.some.injEq] at h
    exact ⟨rfl, by rw [← h]; rfl, fun u hu => by simp [splitW] at hu⟩
  | k + 1, l, r, h => by
    obtain ⟨m, h1, h2⟩ := skw_one h
    obtain ⟨a1, a2, a3⟩ := splitW_spec s k m r h2
    obtain ⟨b1, b2, b3⟩ := partW_eq h1
    unfold splitW
    rw [h1]
    refine ⟨by simp [a1], ?_, ?_⟩
    · rw [List.flatten_cons, List.append_assoc, Option.getD_some, a2]; exact b1.symm
    · intro u hu
      rcases List.mem_cons.1 hu with rfl | hu
      · exact ⟨b2, b3⟩
      · exact a3 u hu

theorem skw_flatten {s : Sg} : ∀ (l : List (List Int)), (∀ u ∈ l, skw s 1 u = some []) → skw s l.length l.flatten = some []
  | [], _ => rfl
  | u :: l, h => by
    rw [List.length_cons, Nat.add_comm, skw_add, List.flatten_cons]
    have := skw_append s 1 u l.flatten [] (h u (by simp))
    rw [this]
    exact skw_flatten l (fun v hv => h v (by simp [hv]))

theorem splitW_flatten {s : Sg} : ∀ (l : List (List Int)) (x : List Int), (∀ u ∈ l, skw s 1 u = some []) → splitW s l.length (l.flatten ++ x) = l
  | [], _, _ => rfl
  | u :: l, x, h => by
    have hu := h u (by simp)
    have h1 := skw_append s 1 u (l.flatten ++ x) [] hu
    rw [List.nil_append] at h1
    rw [List.length_cons, splitW, List.flatten_cons, List.append_assoc, h1, Option.getD_some, splitW_flatten l x (fun v hv => h v (by simp [hv]))]
    congr 1
    unfold partW
    rw [h1]; simp

theorem skw_pos {s : Sg} {k : Nat} {l r : List Int} (h : skw s (k + 1) l = some r) : ∃ n x, l = n :: x ∧ cw s n = true ∧ skw s (k + arW s n) x = some r := by
  cases l with
  | nil => simp [skw_nil] at h
  | cons n x =>
    rw [skw_cons] at h
    split at h
    · exact ⟨n, x, rfl, ‹_›, h⟩
    · cases h

theorem skw_drop {s : Sg} {k p : Nat} {t r : List Int} (h : skw s (k + 1) (t.drop p) = some r) : ∃ hp : p < t.length, cw s t[p] = true ∧ skw s (k + arW s t[p]) (t.drop (p + 1)) = some r := by
  obtain ⟨n, x, hx, hc, hs⟩ := skw_pos h
  have hp : p < t.length := by
    rcases Nat.lt_or_ge p t.length with h | h
    · exact h
    · rw [List.drop_eq_nil_of_le h] at hx; cases hx
  rw [List.drop_eq_getElem_cons hp] at hx
  simp only [List.cons.injEq] at hx
  obtain ⟨rfl, rfl⟩ := hx
  exact ⟨hp, hc, hs⟩

theorem splitW_append {s : Sg} {k : Nat} {l x : List Int} (h : skw s k l = some []) : splitW s k (l ++ x) = splitW s k l := by
  obtain ⟨h1, h2, h3⟩ := splitW_spec s k l [] h
  rw [List.append_nil] at h2
  have := splitW_flatten (s := s) (splitW s k l) x (fun u hu => (h3 u hu).1)
  rw [h1, h2] at this
  exact this

abbrev W1 (s : Sg) (t : List Int) : Prop := skw s 1 t = some []
theorem codeOk_w {s : Sg} {n : Int} (h : codeOk s n = true) : cw s n = true ∧ ar s n = arW s n := by
  simp [codeOk] at h
  unfold cw arW ar arC
  rcases h with h | h
  · refine ⟨by simp; omega, ?_⟩
    rw [if_pos h, if_pos (by omega)]; rfl
  · refine ⟨by simp; omega, ?_⟩
    rw [if_neg (by omega), if_pos h, if_neg (by omega)]
theorem skw_of_skip {s : Sg} : ∀ {k : Nat} {l r : List Int}, skip s k l = some r → skw s k l = some r
  | 0, l, r, h => by rw [skip_zero] at h; rw [skw_zero]; exact h
  | k + 1, [], r, h => by simp [skip_nil] at h
  | k + 1, n :: l, r, h => by
    rw [skip_cons] at h
    split at h
    · rename_i hc
      obtain ⟨h1, h2⟩ := codeOk_w hc
      rw [h2] at h
      rw [skw_cons, if_pos h1]; exact skw_of_skip h
    · cases h
theorem okT_w1 {s : Sg} {t : List Int} (h : okT s t = true) : W1 s t := skw_of_skip (okT_parts h).2.2.2
theorem W1.ne {s : Sg} {t : List Int} (h : W1 s t) : t ≠ [] := by intro e; subst e; simp [W1, skw_nil] at h
theorem W1.len {s : Sg} {t : List Int} (h : W1 s t) : 1 ≤ t.length := by have := skw_len s 1 t [] h; simpa using this
theorem W1.var {s : Sg} {n : Int} (h : n < 0) : W1 s [n] := by
  unfold W1
  rw [skw_cons, if_pos (by unfold cw; simp; omega), Nat.zero_add, arW, if_pos h, skw_zero]
theorem W1.uniq {s : Sg} {x y r r' : List Int} (hx : W1 s x) (hy : W1 s y) (h : x ++ r = y ++ r') : x = y ∧ r = r' := by
  have h1 := skw_append s 1 x r [] hx
  have h2 := skw_append s 1 y r' [] hy
  rw [h, h2, List.nil_append, List.nil_append, Option.some.injEq] at h1
  subst h1
  exact ⟨List.append_cancel_right h, rfl⟩
/-- a head with its arguments -/
theorem W1.args {s : Sg} {n : Int} {x : List Int} (h : W1 s (n :: x)) : (argsW s (n :: x)).length = arW s n ∧ (argsW s (n :: x)).flatten = x ∧ (∀ u ∈ argsW s (n :: x), W1 s u) ∧ n < s.length := by
  unfold W1 at h
  rw [skw_cons] at h
  split at h
  · rename_i hc
    rw [Nat.zero_add] at h
    obtain ⟨a1, a2, a3⟩ := splitW_spec s (arW s n) x [] h
    rw [List.append_nil] at a2
    exact ⟨a1, a2, fun u hu => (a3 u hu).1, by simpa [cw] using hc⟩
  · cases h
theorem W1.leaf {s : Sg} {n : Int} {x : List Int} (h : W1 s (n :: x)) (hn : n < 0) : x = [] := by
  unfold W1 at h
  rw [skw_cons] at h
  split at h
  · rw [Nat.zero_add, arW, if_pos hn, skw_zero] at h; simpa using h
  · cases h

/-! ### putting in -/
def ap (θ : Int → List Int) (t : List Int) : List Int := t.flatMap (fun n => if n < 0 then θ n else [n])
theorem ap_nil (θ : Int → List Int) : ap θ [] = [] := rfl
theorem ap_neg {θ : Int → List Int} {n : Int} {r : List Int} (h : n < 0) : ap θ (n :: r) = θ n ++ ap θ r := by unfold ap; rw [List.flatMap_cons, if_pos h]
theorem ap_pos {θ : Int → List Int} {n : Int} {r : List Int} (h : ¬ n < 0) : ap θ (n :: r) = n :: ap θ r := by unfold ap; rw [List.flatMap_cons, if_neg h]; rfl
theorem ap_one {θ : Int → List Int} {n : Int} (h : n < 0) : ap θ [n] = θ n := by rw [ap_neg h, ap_nil, List.append_nil]
theorem ap_append (θ : Int → List Int) (a b : List Int) : ap θ (a ++ b) = ap θ a ++ ap θ b := by unfold ap; rw [List.flatMap_append]
theorem ap_flatten (θ : Int → List Int) (l : List (List Int)) : ap θ l.flatten = (l.map (ap θ)).flatten := by
  induction l with
  | nil => rfl
  | cons x r ih => rw [List.flatten_cons, ap_append, ih, List.map_cons, List.flatten_cons]
theorem ap_congr {θ η : Int → List Int} : ∀ {t : List Int}, (∀ n ∈ t, n < 0 → θ n = η n) → ap θ t = ap η t
  | [], _ => rfl
  | n :: r, h => by
    have ih := ap_congr (t := r) (fun m hm => h m (by simp [hm]))
    by_cases hn : n < 0
    · rw [ap_neg hn, ap_neg hn, ih, h n (by simp) hn]
    · rw [ap_pos hn, ap_pos hn, ih]
theorem ap_id {θ : Int → List Int} : ∀ {t : List Int}, (∀ n ∈ t, n < 0 → θ n = [n]) → ap θ t = t
  | [], _ => rfl
  | n :: r, h => by
    have ih := ap_id (t := r) (fun m hm => h m (by simp [hm]))
    by_cases hn : n < 0
    · rw [ap_neg hn, ih, h n (by simp) hn]; rfl
    · rw [ap_pos hn, ih]
theorem ap_ap (θ η : Int → List Int) (t : List Int) : ap η (ap θ t) = ap (fun n => ap η (θ n)) t := by
  induction t with
  | nil => rfl
  | cons n r ih =>
    by_cases hn : n < 0
    · rw [ap_neg hn, ap_append, ih, ap_neg hn]
    · rw [ap_pos hn, ap_pos hn, ih, ap_pos hn]
theorem mem_ap {θ : Int → List Int} {m : Int} : ∀ {t : List Int}, m ∈ ap θ t ↔ (m ∈ t ∧ ¬ m < 0) ∨ ∃ n ∈ t, n < 0 ∧ m ∈ θ n
  | [] => by simp [ap_nil]
  | n :: r => by
    by_cases hn : n < 0
    · rw [ap_neg hn, List.mem_append, mem_ap]
      constructor
      · rintro (h | ⟨h1, h2⟩ | ⟨k, h1, h2, h3⟩)
        · exact .inr ⟨n, by simp, hn, h⟩
        · exact .inl ⟨by simp [h1], h2⟩
        · exact .inr ⟨k, by simp [h1], h2, h3⟩
      · rintro (⟨h1, h2⟩ | ⟨k, h1, h2, h3⟩)
        · rcases List.mem_cons.1 h1 with e | e
          · subst e; exact (h2 hn).elim
          · exact .inr (.inl ⟨e, h2⟩)
        · rcases List.mem_cons.1 h1 with e | e
          · subst e; exact .inl h3
          · exact .inr (.inr ⟨k, e, h2, h3⟩)
    · rw [ap_pos hn, List.mem_cons, mem_ap]
      constructor
      · rintro (h | ⟨h1, h2⟩ | ⟨k, h1, h2, h3⟩)
        · subst h; exact .inl ⟨by simp, hn⟩
        · exact .inl ⟨by simp [h1], h2⟩
        · exact .inr ⟨k, by simp [h1], h2, h3⟩
      · rintro (⟨h1, h2⟩ | ⟨k, h1, h2, h3⟩)
        · rcases List.mem_cons.1 h1 with e | e
          · exact .inl e
          · exact .inr (.inl ⟨e, h2⟩)
        · rcases List.mem_cons.1 h1 with e | e
          · subst e; exact (hn h2).elim
          · exact .inr (.inr ⟨k, e, h2, h3⟩)
def Wsub (s : Sg) (θ : Int → List Int) : Prop := ∀ n, n < 0 → W1 s (θ n)
theorem skw_ap {s : Sg} {θ : Int → List Int} (hθ : Wsub s θ) : ∀ {t : List Int} {k : Nat} {r : List Int}, skw s k t = some r → skw s k (ap θ t) = some (ap θ r)
  | t, 0, r, h => by rw [skw_zero, Option.some.injEq] at h ⊢; rw [h]
  | [], k + 1, r, h => by simp [skw_nil] at h
  | n :: t, k + 1, r, h => by
    rw [skw_cons] at h
    split at h
    · rename_i hc
      have ih := skw_ap hθ h
      by_cases hn : n < 0
      · rw [arW, if_pos hn, Nat.add_zero] at ih
        rw [ap_neg hn, Nat.add_comm, skw_add, skw_append s 1 (θ n) (ap θ t) [] (hθ n hn)]
        exact ih
      · rw [ap_pos hn, skw_cons, if_pos hc]; exact ih
    · cases h
theorem W1.ap {s : Sg} {θ : Int → List Int} (hθ : Wsub s θ) {t : List Int} (h : W1 s t) : W1 s (ap θ t) := skw_ap hθ h
theorem ap_len {s : Sg} {θ : Int → List Int} (hθ : Wsub s θ) : ∀ (t : List Int), t.length ≤ (ap θ t).length
  | [] => Nat.le_refl _
  | n :: r => by
    have ih := ap_len hθ r
    by_cases hn : n < 0
    · rw [ap_neg hn, List.length_append, List.length_cons]; have := (hθ n hn).len; omega
    · rw [ap_pos hn, List.length_cons, List.length_cons]; omega
theorem ap_len_mem {s : Sg} {θ : Int → List Int} (hθ : Wsub s θ) : ∀ {t : List Int} {v : Int}, v ∈ t → v < 0 → (θ v).length + t.length ≤ (ap θ t).length + 1
  | [], v, h, _ => by simp at h
  | n :: r, v, h, hv => by
    by_cases hn : n < 0
    · rw [ap_neg hn, List.length_append, List.length_cons]
      rcases List.mem_cons.1 h with e | e
      · subst e; have := ap_len hθ r; omega
      · have := ap_len_mem hθ e hv; have := (hθ n hn).len; omega
    · rw [ap_pos hn, List.length_cons, List.length_cons]
      rcases List.mem_cons.1 h with e | e
      · subst e; exact (hn hv).elim
      · have := ap_len_mem hθ e hv; omega
theorem flatten_uniq {s : Sg} : ∀ {l m : List (List Int)}, l.length = m.length → (∀ u ∈ l, W1 s u) → (∀ u ∈ m, W1 s u) → l.flatten = m.flatten → l = m
  | [], [], _, _, _, _ => rfl
  | x :: l, y :: m, h1, h2, h3, h4 => by
    rw [List.flatten_cons, List.flatten_cons] at h4
    obtain ⟨e1, e2⟩ := W1.uniq (h2 x (by simp)) (h3 y (by simp)) h4
    rw [e1, flatten_uniq (by simpa using h1) (fun u hu => h2 u (by simp [hu])) (fun u hu => h3 u (by simp [hu])) e2]
/-- two terms with one head become equal exactly if their arguments do -/
theorem ap_eq_args {s : Sg} {θ : Int → List Int} (hθ : Wsub s θ) {n : Int} {x y : List Int} (hx : W1 s (n :: x)) (hy : W1 s (n :: y)) (hn : 0 ≤ n) :
    ap θ (n :: x) = ap θ (n :: y) ↔ (argsW s (n :: x)).map (ap θ) = (argsW s (n :: y)).map (ap θ) := by
  obtain ⟨a1, a2, a3, -⟩ := hx.args
  obtain ⟨b1, b2, b3, -⟩ := hy.args
  have hn' : ¬ n < 0 := by omega
  rw [ap_pos hn', ap_pos hn', List.cons.injEq]
  constructor
  · rintro ⟨-, h⟩
    rw [← a2, ← b2, ap_flatten, ap_flatten] at h
    refine flatten_uniq (s := s) (by simp [a1, b1]) (fun u hu => ?_) (fun u hu => ?_) h
    · obtain ⟨v, hv, rfl⟩ := List.mem_map.1 hu; exact (a3 v hv).ap hθ
    · obtain ⟨v, hv, rfl⟩ := List.mem_map.1 hu; exact (b3 v hv).ap hθ
  · intro h
    refine ⟨rfl, ?_⟩
    rw [← a2, ← b2, ap_flatten, ap_flatten, h]

/-! ### what is bound -/
abbrev Bd := Int → Option (List Int)
def Sat (B : Bd) (η : Int → List Int) : Prop := ∀ n u, B n = some u → η n = ap η u
/-- variables are bound without a circle; θ puts in all that is bound, and ρ counts down -/
structure Slv (s : Sg) (B : Bd) (θ : Int → List Int) (ρ : Int → Nat) : Prop where
  wf : ∀ n u, B n = some u → W1 s u ∧ n < 0
  free : ∀ n, n < 0 → B n = none → θ n = [n]
  bnd : Sat B θ
  idem : ∀ n, n < 0 → ∀ m ∈ θ n, m < 0 → B m = none
  rk : ∀ n u, B n = some u → ∀ m ∈ u, m < 0 → ρ m < ρ n
  th : Wsub s θ
theorem Slv.empty (s : Sg) : Slv s (fun _ => none) (fun n => [n]) (fun _ => 0) :=
  ⟨fun _ _ h => (by cases h), fun _ _ _ => rfl, fun _ _ h => (by cases h), fun _ _ _ _ _ => rfl, fun _ _ h => (by cases h), fun _ h => W1.var h⟩
section
variable {s : Sg} {B : Bd} {θ : Int → List Int} {ρ : Int → Nat}
theorem Slv.most_var (h : Slv s B θ ρ) {η : Int → List Int} (hη : Sat B η) : ∀ (k : Nat) (n : Int), n < 0 → ρ n ≤ k → ap η (θ n) = η n
  | k, n, hn, hk => by
    cases hB : B n with
    | none => rw [h.free n hn hB, ap_one hn]
    | some u =>
      rw [h.bnd n u hB, hη n u hB, ap_ap]
      refine ap_congr (fun m hm hm0 => ?_)
      have hr := h.rk n u hB m hm hm0
      cases k with
      | zero => omega
      | succ k => exact h.most_var hη k m hm0 (by omega)
/-- all that fits what is bound fits it through θ -/
theorem Slv.most (h : Slv s B θ ρ) {η : Int → List Int} (hη : Sat B η) (t : List Int) : ap η (ap θ t) = ap η t := by
  rw [ap_ap]
  exact ap_congr (fun n _ hn => h.most_var hη (ρ n) n hn (Nat.le_refl _))
theorem Slv.idem_ap (h : Slv s B θ ρ) (t : List Int) : ∀ m ∈ ap θ t, m < 0 → B m = none := by
  intro m hm hm0
  rcases mem_ap.1 hm with ⟨-, h2⟩ | ⟨n, -, hn, hmn⟩
  · exact (h2 hm0).elim
  · exact h.idem n hn m hmn hm0
def upB (B : Bd) (v : Int) (q : List Int) : Bd := fun n => if n = v then some q else B n
/-- one more variable is bound -/
theorem Slv.bind (h : Slv s B θ ρ) {v : Int} {q : List Int} (hv : v < 0) (hB : B v = none) (hq : W1 s q) (hocc : v ∉ ap θ q) :
    ∃ θ' ρ', Slv s (upB B v q) θ' ρ' := by
  obtain ⟨M, hM⟩ : ∃ M, ∀ m ∈ q, m < 0 → ρ m < M := by
    clear hq hocc
    induction q with
    | nil => exact ⟨0, fun m hm => by simp at hm⟩
    | cons x r ih =>
      obtain ⟨M, hM⟩ := ih
      refine ⟨M + ρ x + 1, fun m hm hm0 => ?_⟩
      rcases List.mem_cons.1 hm with e | e
      · subst e; omega
      · have := hM m e hm0; omega
  have hσ : ∀ x : List Int, v ∉ x → ap (fun n => if n = v then ap θ q else [n]) x = x := fun x hx => ap_id (fun n hn _ => by
    rw [if_neg]
    intro e; subst e; exact hx hn)
  have hvv := h.free v hv hB
  refine ⟨fun n => ap (fun n => if n = v then ap θ q else [n]) (θ n), fun n => if v ∈ θ n then ρ n + M + 1 else ρ n, ?_, ?_, ?_, ?_, ?_, ?_⟩
  · intro n u hn
    unfold upB at hn
    split at hn
    · cases hn; rename_i e; subst e; exact ⟨hq, hv⟩
    · exact h.wf n u hn
  · intro n hn hBn
    unfold upB at hBn
    split at hBn
    · cases hBn
    · rename_i hne
      rw [h.free n hn hBn, ap_one hn, if_neg hne]
  · intro n u hn
    unfold upB at hn
    split at hn
    · rename_i e
      subst e
      cases hn
      show ap _ (θ n) = _
      rw [hvv, ap_one hv, if_pos rfl, ← ap_ap, hσ _ hocc]
    · show ap _ (θ n) = _
      rw [← ap_ap, h.bnd n u hn]
  · intro n hn m hm hm0
    have key : m ≠ v ∧ B m = none := by
      rcases mem_ap.1 hm with ⟨-, h2⟩ | ⟨k, hk, hk0, hmk⟩
      · exact (h2 hm0).elim
      · by_cases hkv : k = v
        · rw [if_pos hkv] at hmk
          exact ⟨fun e => hocc (e ▸ hmk), h.idem_ap q m hmk hm0⟩
        · rw [if_neg hkv, List.mem_singleton] at hmk
          subst hmk
          exact ⟨hkv, h.idem n hn m hk hm0⟩
    unfold upB
    rw [if_neg key.1]; exact key.2
  · intro n u hn m hm hm0
    unfold upB at hn
    split at hn
    · rename_i e
      subst e
      cases hn
      have hmv : n ∉ θ m := fun e => hocc (mem_ap.2 (.inr ⟨m, hm, hm0, e⟩))
      have := hM m hm hm0
      rw [if_neg hmv, if_pos (by rw [hvv]; simp)]; omega
    · have hr := h.rk n u hn m hm hm0
      have himp : v ∈ θ m → v ∈ θ n := fun e => by rw [h.bnd n u hn]; exact mem_ap.2 (.inr ⟨m, hm, hm0, e⟩)
      by_cases h1 : v ∈ θ m
      · rw [if_pos h1, if_pos (himp h1)]; omega
      · rw [if_neg h1]; split <;> omega
  · intro n hn
    refine (h.th n hn).ap (fun k hk => ?_)
    by_cases hkv : k = v
    · simp only [if_pos hkv]; exact hq.ap h.th
    · simp only [if_neg hkv]; exact W1.var hk
theorem sat_upB {v : Int} {q : List Int} (hB : B v = none) {η : Int → List Int} : Sat (upB B v q) η ↔ Sat B η ∧ η v = ap η q := by
  constructor
  · intro h
    refine ⟨fun n u hn => h n u ?_, h v q (by simp [upB])⟩
    unfold upB
    rw [if_neg (fun e => by rw [e, hB] at hn; cases hn)]; exact hn
  · rintro ⟨h1, h2⟩ n u hn
    unfold upB at hn
    split at hn
    · rename_i e; subst e; cases hn; exact h2
    · exact h1 n u hn
/-- a variable never becomes what it comes in -/
theorem Slv.occurs_no (h : Slv s B θ ρ) {v : Int} {q : List Int} (hv : v < 0) (hocc : v ∈ ap θ q) (hne : ap θ q ≠ [v]) {η : Int → List Int} (hw : Wsub s η) (hη : Sat B η) : η v ≠ ap η q := by
  intro e
  have h1 := ap_len_mem hw hocc hv
  rw [h.most hη q, ← e] at h1
  cases hx : ap θ q with
  | nil => rw [hx] at hocc; simp at hocc
  | cons x r =>
    cases r with
    | nil =>
      rw [hx] at hocc hne
      simp at hocc
      subst hocc
      exact hne rfl
    | cons y r =>
      rw [hx] at h1
      simp at h1
end

/-! ### two most general ones differ in names only -/
theorem ap_map_of_len {s : Sg} {θ : Int → List Int} (hθ : Wsub s θ) : ∀ {t : List Int}, (ap θ t).length = t.length → ∀ n ∈ t, n < 0 → (θ n).length = 1
  | [], _, n, hn, _ => by simp at hn
  | x :: r, h, n, hn, hn0 => by
    have h1 := ap_len_mem hθ hn hn0
    have h2 := (hθ n hn0).len
    omega
def varOf (θ : Int → List Int) (n : Int) : Int := if n < 0 then (θ n).headD 0 else n
theorem ap_as_map {s : Sg} {θ : Int → List Int} (hθ : Wsub s θ) : ∀ {t : List Int}, (∀ n ∈ t, n < 0 → (θ n).length = 1) → ap θ t = t.map (varOf θ)
  | [], _ => rfl
  | x :: r, h => by
    have ih := ap_as_map hθ (t := r) (fun n hn => h n (by simp [hn]))
    by_cases hx : x < 0
    · have h1 := h x (by simp) hx
      rw [ap_neg hx, ih, List.map_cons, varOf, if_pos hx]
      match hθx : θ x, h1 with
      | [y], _ => rfl
    · rw [ap_pos hx, ih, List.map_cons, varOf, if_neg hx]
theorem canon_two {s : Sg} {θ1 θ2 : Int → List Int} (h1 : Wsub s θ1) (h2 : Wsub s θ2) {u1 u2 : List Int} (e1 : ap θ2 u1 = u2) (e2 : ap θ1 u2 = u1) : canon u1 = canon u2 ∧ u1.length = u2.length ∧ (varsC u1).length = (varsC u2).length := by
  have l1 := ap_len h2 u1
  have l2 := ap_len h1 u2
  rw [e1] at l1
  rw [e2] at l2
  have hl : u1.length = u2.length := by omega
  have m1 := ap_as_map h2 (ap_map_of_len h2 (t := u1) (by rw [e1]; exact hl.symm))
  have m2 := ap_as_map h1 (ap_map_of_len h1 (t := u2) (by rw [e2]; exact hl))
  rw [e1] at m1
  rw [e2] at m2
  have hid : ∀ n ∈ u1, varOf θ1 (varOf θ2 n) = n := by
    have : u1.map (fun n => varOf θ1 (varOf θ2 n)) = u1.map id := by
      rw [List.map_id, ← Function.comp_def, ← List.map_map, ← m1, ← m2]
    intro n hn
    obtain ⟨i, hi, rfl⟩ := List.getElem_of_mem hn
    have := congrArg (fun l => l[i]?) this
    simpa [hi] using this
  have hneg : ∀ x ∈ u1, x < 0 → varOf θ2 x < 0 := by
    intro x hx hx0
    rcases Int.lt_or_le (varOf θ2 x) 0 with h | h
    · exact h
    · have h3 := hid x hx
      rw [varOf, if_neg (by omega)] at h3
      omega
  have hpos : ∀ x ∈ u1, 0 ≤ x → varOf θ2 x = x := fun x _ h => by rw [varOf, if_neg (by omega)]
  have hinj : ∀ x ∈ u1, ∀ y ∈ u1, varOf θ2 x = varOf θ2 y → x = y := fun x hx y hy e => by rw [← hid x hx, ← hid y hy, e]
  refine ⟨?_, hl, ?_⟩
  · rw [m1]; exact (canon_map (varOf θ2) u1 hpos hneg (fun x hx y hy _ _ e => hinj x hx y hy e)).symm
  · rw [m1, varsC_map (varOf θ2) u1 (fun x hx => ⟨hneg x hx, fun h => by
      rcases Int.lt_or_le x 0 with g | g
      · exact g
      · rw [hpos x hx g] at h; exact h⟩) (fun x hx y hy _ _ e => hinj x hx y hy e), List.length_map]
theorem Slv.two {s : Sg} {B1 B2 : Bd} {θ1 θ2 : Int → List Int} {ρ1 ρ2 : Int → Nat} (h1 : Slv s B1 θ1 ρ1) (h2 : Slv s B2 θ2 ρ2) (h12 : Sat B2 θ1) (h21 : Sat B1 θ2) (t : List Int) :
    canon (ap θ1 t) = canon (ap θ2 t) ∧ (ap θ1 t).length = (ap θ2 t).length ∧ (varsC (ap θ1 t)).length = (varsC (ap θ2 t)).length :=
  canon_two h1.th h2.th (h1.most h21 t) (h2.most h12 t)

/-! ### the unifier -/
/-- θ makes a and b equal, and whatever does so does it through θ -/
def IsMgu (s : Sg) (a b : List Int) (θ : Int → List Int) : Prop := ∃ B ρ, Slv s B θ ρ ∧ ∀ η, Wsub s η → (Sat B η ↔ ap η a = ap η b)
open Classical in
noncomputable def mgu (s : Sg) (a b : List Int) : Option (Int → List Int) := if h : ∃ θ, IsMgu s a b θ then some (Classical.choose h) else none
theorem IsMgu.eq {s : Sg} {a b : List Int} {θ : Int → List Int} (h : IsMgu s a b θ) : ap θ a = ap θ b := by
  obtain ⟨B, ρ, h1, h2⟩ := h; exact (h2 θ h1.th).1 h1.bnd
theorem IsMgu.most {s : Sg} {a b : List Int} {θ : Int → List Int} (h : IsMgu s a b θ) {η : Int → List Int} (hw : Wsub s η) (he : ap η a = ap η b) (t : List Int) : ap η (ap θ t) = ap η t := by
  obtain ⟨B, ρ, h1, h2⟩ := h; exact h1.most ((h2 η hw).2 he) t
theorem IsMgu.th {s : Sg} {a b : List Int} {θ : Int → List Int} (h : IsMgu s a b θ) : Wsub s θ := by obtain ⟨B, ρ, h1, -⟩ := h; exact h1.th
theorem IsMgu.two {s : Sg} {a b : List Int} {θ1 θ2 : Int → List Int} (h1 : IsMgu s a b θ1) (h2 : IsMgu s a b θ2) (t : List Int) :
    canon (ap θ1 t) = canon (ap θ2 t) ∧ (ap θ1 t).length = (ap θ2 t).length ∧ (varsC (ap θ1 t)).length = (varsC (ap θ2 t)).length :=
  canon_two h1.th h2.th (h1.most h2.th h2.eq t) (h2.most h1.th h1.eq t)
theorem mgu_some {s : Sg} {a b : List Int} {θ : Int → List Int} (h : mgu s a b = some θ) : IsMgu s a b θ := by
  unfold mgu at h
  split at h
  · rename_i hx; cases h; exact Classical.choose_spec hx
  · cases h
theorem mgu_none {s : Sg} {a b : List Int} (h : ∀ η, Wsub s η → ap η a ≠ ap η b) : mgu s a b = none := by
  unfold mgu
  rw [dif_neg]
  rintro ⟨θ, hθ⟩
  exact h θ hθ.th hθ.eq
/-- what becomes of t: its canonical form, if it is not too long and has not too many variables -/
def madeE (θ : Int → List Int) (t : List Int) : List Int × Int := if (ap θ t).length ≤ 60 ∧ (varsC (ap θ t)).length ≤ 12 then (canon (ap θ t), 0) else ([], 4)
noncomputable def uniE (s : Sg) (a b t : List Int) : List Int × Int := match mgu s a b with | some θ => madeE θ t | none => ([], 8)
theorem uniE_some {s : Sg} {a b : List Int} {θ : Int → List Int} (h : IsMgu s a b θ) (t : List Int) : uniE s a b t = madeE θ t := by
  unfold uniE
  cases hm : mgu s a b with
  | none => unfold mgu at hm; rw [dif_pos ⟨θ, h⟩] at hm; cases hm
  | some θ' =>
    obtain ⟨e1, e2, e3⟩ := h.two (mgu_some hm) t
    simp only [madeE, e1, e2, e3]
theorem uniE_none {s : Sg} {a b : List Int} (h : ∀ η, Wsub s η → ap η a ≠ ap η b) (t : List Int) : uniE s a b t = ([], 8) := by unfold uniE; rw [mgu_none h]
noncomputable def uniB (s : Sg) (a b : List Int) : Bool := (mgu s a b).isSome
theorem uniB_some {s : Sg} {a b : List Int} {θ : Int → List Int} (h : IsMgu s a b θ) : uniB s a b = true := by
  unfold uniB mgu; rw [dif_pos ⟨θ, h⟩]; rfl
theorem uniB_none {s : Sg} {a b : List Int} (h : ∀ η, Wsub s η → ap η a ≠ ap η b) : uniB s a b = false := by unfold uniB; rw [mgu_none h]; rfl
end Go.Proofs.YtpmnnoopoblpgaaGreat
