/- More on terms as lists: renaming one number after the other. No program is named. -/
import Derived.Test.YtpmnnoopoblpgaaGreatMath
namespace Go.Proofs.YtpmnnoopoblpgaaGreat

/-- the i-th number while its name is looked for among the first j variables -/
def midW (t : List Int) (j : Nat) (x : Int) : Int := if x ∈ (varsC t).take j then canonW (varsC t) x else x
theorem midW_zero (t : List Int) (x : Int) : midW t 0 x = x := by simp [midW]
theorem idxOf_getElem {l : List Int} (h : l.Nodup) {j : Nat} (hj : j < l.length) : l.idxOf l[j] = j := by
  exact List.Nodup.idxOf_getElem h j hj
theorem midW_hit {t : List Int} {j : Nat} (hj : j < (varsC t).length) : midW t (j + 1) (varsC t)[j] = -(j : Int) - 1 := by
  have hm : (varsC t)[j] ∈ (varsC t).take (j + 1) := List.mem_take_iff_getElem.2 ⟨j, by omega, rfl⟩
  unfold midW
  rw [if_pos hm, canonW_neg (mem_varsC.1 (List.getElem_mem hj)).2, idxOf_getElem (varsC_nodup t) hj]
theorem midW_miss {t : List Int} {j : Nat} {x : Int} (hj : j < (varsC t).length) (h : x ≠ (varsC t)[j]) : midW t (j + 1) x = midW t j x := by
  unfold midW
  have : x ∈ (varsC t).take (j + 1) ↔ x ∈ (varsC t).take j := by
    rw [List.take_succ_eq_append_getElem hj, List.mem_append, List.mem_singleton]
    exact ⟨fun h' => h'.resolve_right h, .inl⟩
  by_cases hx : x ∈ (varsC t).take j
  · rw [if_pos hx, if_pos (this.2 hx)]
  · rw [if_neg hx, if_neg (fun e => hx (this.1 e))]
theorem midW_all {t : List Int} {j : Nat} {x : Int} (hj : (varsC t).length ≤ j) (hx : x ∈ t) : midW t j x = canonW (varsC t) x := by
  unfold midW
  rw [List.take_of_length_le hj]
  split
  · rfl
  · rename_i h
    have : ¬ x < 0 := fun hn => h (mem_varsC.2 ⟨hx, hn⟩)
    rw [canonW_pos (by omega)]
theorem doneTo_set_same {f : Int → Int} {t : List Int} {k : Nat} (h : k < t.length) : (doneTo f t k).set k t[k] = doneTo f t k := by
  have h' : k < (doneTo f t k).length := by rw [doneTo_length]; exact h
  have := doneTo_get (f := f) h
  rw [← this, List.set_getElem_self]
theorem varsV_get {t : List Int} {j : Nat} (h : j < (varsV t).length) : (varsV t)[j] = vnum ((varsC t)[j]'(by simpa [varsV] using h)) := by
  simp [varsV]
theorem flat_get (x : Int) : (fun n : Int => if n < 0 then -1 else n) x = max x (-1) := by
  simp only []
  split <;> omega

/-! ### results with an error -/
def errE (s : Sg) (t : List Int) (l : List Int) : List Int × Int := if okT s t then (l, 0) else ([], 1)
theorem errE_ok {s : Sg} {t l : List Int} (h : okT s t = true) : errE s t l = (l, 0) := by rw [errE, if_pos h]
theorem errE_no {s : Sg} {t l : List Int} (h : okT s t = false) : errE s t l = ([], 1) := by rw [errE, h]; rfl

/-! ### the canonical form is canonical -/
theorem canonW_lt {v : List Int} {n : Int} (h : n < 0) : canonW v n < 0 := by rw [canonW_neg h]; omega
theorem canonW_inj {v : List Int} {a b : Int} (ha : a ∈ v ∨ 0 ≤ a) (hb : b ∈ v ∨ 0 ≤ b) (hv : ∀ x ∈ v, x < 0) (h : canonW v a = canonW v b) : a = b := by
  rcases ha with ha | ha <;> rcases hb with hb | hb
  · rw [canonW_neg (hv a ha), canonW_neg (hv b hb)] at h
    have e : v.idxOf a = v.idxOf b := by omega
    have h1 := List.getElem_idxOf (List.idxOf_lt_length_iff.2 ha)
    have h2 := List.getElem_idxOf (List.idxOf_lt_length_iff.2 hb)
    rw [← h1, ← h2]; simp only [e]
  · have := canonW_lt (v := v) (hv a ha); rw [canonW_pos hb] at h; omega
  · have := canonW_lt (v := v) (hv b hb); rw [canonW_pos ha] at h; omega
  · rw [canonW_pos ha, canonW_pos hb] at h; exact h
/-- renaming by a map that is one to one on the variables and keeps signs renames the list of variables -/
theorem foldl_addV_map (f : Int → Int) (t : List Int) (hneg : ∀ x ∈ t, (x < 0 ↔ f x < 0)) (acc : List Int) (hinj : ∀ x ∈ t, ∀ y, (y ∈ acc ∨ y ∈ t) → x < 0 → y < 0 → f x = f y → x = y) (hacc : ∀ y ∈ acc, y < 0) :
    (t.map f).foldl addV (acc.map f) = (t.foldl addV acc).map f := by
  induction t generalizing acc with
  | nil => rfl
  | cons n r ih =>
    rw [List.map_cons, List.foldl_cons, List.foldl_cons]
    have e : addV (acc.map f) (f n) = (addV acc n).map f := by
      by_cases h : n < 0
      · by_cases hm : n ∈ acc
        · have e1 : addV (acc.map f) (f n) = acc.map f := if_neg (fun e => e.2 (List.mem_map.2 ⟨n, hm, rfl⟩))
          have e2 : addV acc n = acc := if_neg (fun e => e.2 hm)
          rw [e1, e2]
        · have e1 : addV (acc.map f) (f n) = acc.map f ++ [f n] := if_pos ⟨(hneg n (by simp)).1 h, fun e => by
            obtain ⟨y, hy, hfy⟩ := List.mem_map.1 e
            exact hm (hinj n (by simp) y (.inl hy) h (hacc y hy) hfy.symm ▸ hy)⟩
          have e2 : addV acc n = acc ++ [n] := if_pos ⟨h, hm⟩
          rw [e1, e2, List.map_append]; rfl
      · have e1 : addV (acc.map f) (f n) = acc.map f := if_neg (fun e => h ((hneg n (by simp)).2 e.1))
        have e2 : addV acc n = acc := if_neg (fun e => h e.1)
        rw [e1, e2]
    rw [e]
    refine ih (fun x hx => hneg x (by simp [hx])) (addV acc n) (fun x hx y hy => hinj x (by simp [hx]) y ?_) ?_
    · rcases hy with hy | hy
      · rcases addV_mem.1 hy with h | h
        · exact .inl h
        · exact .inr (by simp [h.1])
      · exact .inr (by simp [hy])
    · intro y hy
      rcases addV_mem.1 hy with h | h
      · exact hacc y h
      · rw [h.1]; exact h.2
theorem varsC_map (f : Int → Int) (t : List Int) (hneg : ∀ x ∈ t, (x < 0 ↔ f x < 0)) (hinj : ∀ x ∈ t, ∀ y ∈ t, x < 0 → y < 0 → f x = f y → x = y) : varsC (t.map f) = (varsC t).map f :=
  foldl_addV_map f t hneg [] (fun x hx y hy => hinj x hx y (hy.resolve_left (by simp))) (by simp)
theorem idxOf_map_inj (f : Int → Int) (v : List Int) (x : Int) (hx : x ∈ v) (hinj : ∀ y ∈ v, f x = f y → x = y) : (v.map f).idxOf (f x) = v.idxOf x := by
  induction v with
  | nil => simp at hx
  | cons y r ih =>
    rw [List.map_cons]
    by_cases h : x = y
    · subst h; simp
    · have h1 : f x ≠ f y := fun e => h (hinj y (by simp) e)
      have e1 : (f y == f x) = false := by simpa using fun e => h1 e.symm
      have e2 : (y == x) = false := by simpa using fun e => h e.symm
      rw [List.idxOf_cons, List.idxOf_cons, e1, e2, cond_false, cond_false, ih ((List.mem_cons.1 hx).resolve_left h) (fun z hz => hinj z (by simp [hz]))]
theorem varsC_neg {t : List Int} : ∀ x ∈ varsC t, x < 0 := fun _ hx => (mem_varsC.1 hx).2
/-- renamed lists have one canonical form -/
theorem canon_map (f : Int → Int) (t : List Int) (hpos : ∀ x ∈ t, 0 ≤ x → f x = x) (hneg : ∀ x ∈ t, x < 0 → f x < 0) (hinj : ∀ x ∈ t, ∀ y ∈ t, x < 0 → y < 0 → f x = f y → x = y) : canon (t.map f) = canon t := by
  have hn : ∀ x ∈ t, (x < 0 ↔ f x < 0) := fun x hx => ⟨hneg x hx, fun h => Classical.byContradiction (fun h' => by rw [hpos x hx (by omega)] at h; omega)⟩
  unfold canon
  rw [varsC_map f t hn hinj, List.map_map]
  apply List.map_congr_left
  intro x hx
  rw [Function.comp]
  by_cases h : x < 0
  · rw [canonW_neg h, canonW_neg (hneg x hx h)]
    have hv : x ∈ varsC t := mem_varsC.2 ⟨hx, h⟩
    rw [idxOf_map_inj f _ _ hv (fun y hy => hinj x hx y (mem_varsC.1 hy).1 h (mem_varsC.1 hy).2)]
  · rw [hpos x hx (by omega), canonW_pos (by omega), canonW_pos (by omega)]
theorem canon_canon (t : List Int) : canon (canon t) = canon t :=
  canon_map (canonW (varsC t)) t (fun _ _ h => canonW_pos h) (fun _ _ h => canonW_lt h)
    (fun _ hx _ hy h1 h2 h => canonW_inj (.inl (mem_varsC.2 ⟨hx, h1⟩)) (.inl (mem_varsC.2 ⟨hy, h2⟩)) varsC_neg h)
/-- a list whose numbers are replaced by others of the same arity has the same form -/
theorem skip_map (s : Sg) (f : Int → Int) (t : List Int) (h : ∀ x ∈ t, codeOk s (f x) = codeOk s x ∧ ar s (f x) = ar s x) : ∀ k, skip s k (t.map f) = (skip s k t).map (List.map f) := by
  induction t with
  | nil => intro k; cases k <;> rfl
  | cons n r ih =>
    intro k
    cases k with
    | zero => rw [skip_zero, skip_zero]; rfl
    | succ k =>
      rw [List.map_cons, skip_cons, skip_cons, (h n (by simp)).1, (h n (by simp)).2]
      split
      · exact ih (fun x hx => h x (by simp [hx])) _
      · rfl
theorem ar_neg {s : Sg} {x : Int} (h : x < 0) : ar s x = 0 := by
  unfold ar arC
  split
  · rfl
  · rw [if_neg (by omega)]; rfl
theorem codeOk_neg {s : Sg} {x : Int} (h : x < 0) : codeOk s x = decide (-12 ≤ x) := by
  rw [Bool.eq_iff_iff]; simp [codeOk]; omega
theorem nodup_bound : ∀ (n : Nat) (l : List Nat), l.Nodup → (∀ x ∈ l, x < n) → l.length ≤ n
  | 0, l, _, hb => by
    cases l with
    | nil => simp
    | cons x r => have := hb x (by simp); omega
  | n + 1, l, hl, hb => by
    have h1 := nodup_bound n (l.erase n) (hl.erase n) (fun x hx => by
      have h2 := (hl.mem_erase_iff).1 hx
      have := hb x h2.2
      omega)
    by_cases hm : n ∈ l
    · rw [List.length_erase_of_mem hm] at h1; omega
    · rw [List.erase_of_not_mem hm] at h1; omega
theorem varsC_le12 {s : Sg} {t : List Int} (h : ∀ x ∈ t, codeOk s x = true) : (varsC t).length ≤ 12 := by
  have h1 : ((varsC t).map (fun x => (-x - 1).toNat)).Nodup := by
    unfold List.Nodup
    rw [List.pairwise_map]
    refine List.Pairwise.imp_of_mem ?_ (varsC_nodup t)
    intro a b ha hb hab e
    have h1 := (mem_varsC.1 ha).2
    have h2 := (mem_varsC.1 hb).2
    exact hab (by omega)
  have h2 := nodup_bound 12 _ h1 (fun x hx => by
    obtain ⟨y, hy, rfl⟩ := List.mem_map.1 hx
    have hm := mem_varsC.1 hy
    have := h y hm.1
    rw [codeOk_neg hm.2, decide_eq_true_eq] at this
    omega)
  simpa using h2
theorem canon_codes {s : Sg} {t : List Int} (h : ∀ x ∈ t, codeOk s x = true) : ∀ x ∈ t, codeOk s (canonW (varsC t) x) = codeOk s x ∧ ar s (canonW (varsC t) x) = ar s x := by
  intro x hx
  by_cases h0 : x < 0
  · have hn := canonW_lt (v := varsC t) h0
    rw [ar_neg hn, ar_neg h0, h x hx, codeOk_neg hn, canonW_neg h0]
    have h12 := varsC_le12 h
    have := List.idxOf_lt_length_iff.2 (mem_varsC.2 ⟨hx, h0⟩)
    refine ⟨decide_eq_true (by omega), rfl⟩
  · rw [canonW_pos (by omega)]; exact ⟨rfl, rfl⟩
theorem okT_canon {s : Sg} {t : List Int} (h : okT s t = true) : okT s (canon t) = true := by
  obtain ⟨h1, h2, h3, h4⟩ := okT_parts h
  have hc := skip_codes s 1 t h4
  have := skip_map s (canonW (varsC t)) t (canon_codes hc) 1
  rw [h4] at this
  unfold okT
  rw [h1]
  have hl : (canon t).length = t.length := by simp [canon]
  rw [hl, decide_eq_true h2, decide_eq_true h3]
  rw [decide_eq_true (by simpa [canon] using this)]; rfl
end Go.Proofs.YtpmnnoopoblpgaaGreat
