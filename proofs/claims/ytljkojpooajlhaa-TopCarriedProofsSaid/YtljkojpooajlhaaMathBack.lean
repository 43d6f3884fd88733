/- Dictionaries undone. No program is named. -/
import Derived.Test.YtljkojpooajlhaaMathComp
namespace Go.Proofs.Ytljkojpooajlhaa

theorem getD_at {α : Type} {l : List α} {i : Nat} {x : α} (h : i < l.length) : l.getD i x = l[i] := by
  rw [List.getD_eq_getElem?_getD, List.getElem?_eq_getElem h]; rfl
theorem getD_set_eq {α : Type} {l : List α} {i : Nat} {x v : α} (h : i < l.length) : (l.set i v).getD i x = v := by
  rw [getD_at (by rw [List.length_set]; exact h), List.getElem_set_self]
theorem getD_set_ne {α : Type} {l : List α} {i j : Nat} {x v : α} (h : i ≠ j) : (l.set i v).getD j x = l.getD j x := by
  rw [List.getD_eq_getElem?_getD, List.getElem?_set_ne h, ← List.getD_eq_getElem?_getD]
theorem invA_at {l : List Int} {n : Nat} (hn : l.Nodup) (hr : ∀ x ∈ l, 0 ≤ x ∧ x < n) : ∀ {k : Nat}, k ≤ l.length → ∀ i, i < k → (invA l n k).getD (l.getD i 0).toNat 0 = (i : Int)
  | 0, _, i, hi => by omega
  | k + 1, hk, i, hi => by
    rw [invA]
    have hki : k < l.length := by omega
    have hii : i < l.length := by omega
    have rk := hr _ (List.getElem_mem hki)
    have ri := hr _ (List.getElem_mem hii)
    rw [getD_at hki, getD_at hii]
    by_cases e : i = k
    · subst e
      rw [getD_set_eq (by rw [invA_len]; omega)]
    · have hne : l[k] ≠ l[i] := fun h => e ((List.getElem_inj hn).1 h.symm)
      rw [getD_set_ne (by omega)]
      have := invA_at hn hr (k := k) (by omega) i (by omega)
      rwa [getD_at hii] at this
theorem invD_at {d : Ways} {n : Nat} (hn : (tosD d).Nodup) (hr : ∀ x ∈ tosD d, 0 ≤ x ∧ x < n) : ∀ {k : Nat}, k ≤ d.length → ∀ i, i < k → (invD d n k).getD (d.getD i (0, [])).1.toNat (0, []) = ((i : Int), invA (d.getD i (0, [])).2 (d.getD i (0, [])).2.length (d.getD i (0, [])).2.length)
  | 0, _, i, hi => by omega
  | k + 1, hk, i, hi => by
    rw [invD]
    have hki : k < d.length := by omega
    have hii : i < d.length := by omega
    have mk : d[k].1 ∈ tosD d := List.mem_map.2 ⟨_, List.getElem_mem hki, rfl⟩
    have mi : d[i].1 ∈ tosD d := List.mem_map.2 ⟨_, List.getElem_mem hii, rfl⟩
    have rk := hr _ mk
    have ri := hr _ mi
    by_cases e : i = k
    · subst e
      rw [getD_set_eq (by rw [invD_len, getD_at hii]; omega)]
    · have hne : d[k].1 ≠ d[i].1 := fun h => e (by
        have := (List.getElem_inj (i := i) (j := k) (h₀ := by unfold tosD; rw [List.length_map]; exact hii) (h₁ := by unfold tosD; rw [List.length_map]; exact hki) hn).1 (by unfold tosD; rw [List.getElem_map, List.getElem_map]; exact h.symm)
        exact this)
      rw [getD_set_ne (by rw [getD_at hki, getD_at hii]; omega)]
      exact invD_at hn hr (by omega) i (by omega)
/-- what an order's inverse is -/
theorem invA_perm {l : List Int} (h : l.Perm (ascL l.length)) : ∀ i, i < l.length → (invA l l.length l.length).getD (l.getD i 0).toNat 0 = (i : Int) :=
  invA_at (h.nodup_iff.2 (ascL_nodup _)) (fun _ hx => mem_ascL.1 (h.mem_iff.1 hx)) (Nat.le_refl _)
theorem ord_surj {l : List Int} (h : l.Perm (ascL l.length)) {p : Nat} (hp : p < l.length) : ∃ q, ∃ hq : q < l.length, l[q] = (p : Int) := by
  have : (p : Int) ∈ l := h.mem_iff.2 (mem_ascL.2 (by omega))
  obtain ⟨q, hq, e⟩ := List.getElem_of_mem this
  exact ⟨q, hq, e⟩
theorem invA_ord {l : List Int} (h : l.Perm (ascL l.length)) : ordB (invA l l.length l.length) = true := by
  rw [ordB_iff]
  intro i hi
  rw [invA_len] at hi
  have := invA_perm h i hi
  have hr := mem_ascL.1 (h.mem_iff.1 (List.getElem_mem hi))
  rw [getD_at hi, getD_at (by rw [invA_len]; omega)] at this
  exact this ▸ List.getElem_mem _
theorem invA_map {l : List Int} (h : l.Perm (ascL l.length)) : (invA l l.length l.length).map (fun j => l.getD j.toNat 0) = ascL l.length := by
  apply List.ext_getElem
  · rw [List.length_map, invA_len, ascL_len]
  · intro p h1 h2
    rw [List.length_map, invA_len] at h1
    obtain ⟨q, hq, e⟩ := ord_surj h h1
    have := invA_perm h q hq
    rw [getD_at hq, e, Int.toNat_natCast, getD_at (by rw [invA_len]; exact h1)] at this
    rw [List.getElem_map, ascL_get, this, Int.toNat_natCast, getD_at hq, e]
theorem invA_inv {l : List Int} (h : l.Perm (ascL l.length)) : invA (invA l l.length l.length) l.length l.length = l := by
  have h2 := ordB_perm (invA_ord h)
  have h3 := invA_perm h2
  rw [invA_len] at h3
  apply List.ext_getElem
  · rw [invA_len]
  · intro q hq1 hq
    have hr := mem_ascL.1 (h.mem_iff.1 (List.getElem_mem hq))
    have e1 := invA_perm h q hq
    rw [getD_at hq] at e1
    have e2 := h3 l[q].toNat (by omega)
    rw [e1, Int.toNat_natCast, getD_at hq1] at e2
    omega
theorem tosD_get {d : Ways} {i : Nat} (h : i < (tosD d).length) : (tosD d)[i] = (d[i]'(by simpa [tosD] using h)).1 := by simp [tosD]
section
variable {a b : Sg} {d : Ways}
theorem one_parts (hv : validD a b d = true) (ho : oneB a b d = true) : a.length = b.length ∧ (tosD d).Nodup ∧ ∀ x ∈ tosD d, 0 ≤ x ∧ x < b.length := by
  unfold oneB at ho
  rw [Bool.and_eq_true, decide_eq_true_eq, decide_eq_true_eq] at ho
  exact ⟨ho.1, ho.2, tos_range (validD_parts hv).2.2.2.1⟩
theorem inv_at (hv : validD a b d = true) (ho : oneB a b d = true) {i : Nat} (hi : i < d.length) : (invD d b.length d.length).getD (d.getD i (0, [])).1.toNat (0, []) = ((i : Int), invA (d.getD i (0, [])).2 (d.getD i (0, [])).2.length (d.getD i (0, [])).2.length) :=
  invD_at (one_parts hv ho).2.1 (one_parts hv ho).2.2 (Nat.le_refl _) i hi
theorem one_surj (hv : validD a b d = true) (ho : oneB a b d = true) {j : Nat} (hj : j < b.length) : ∃ i, i < d.length ∧ (d.getD i (0, [])).1 = (j : Int) := by
  obtain ⟨h1, h2, h3⟩ := one_parts hv ho
  have hl := (validD_parts hv).2.2.1
  have hp : (ascL b.length).Perm (tosD d) := perm_of_sub h2 (fun x hx => mem_ascL.2 (h3 x hx)) (by rw [ascL_len]; unfold tosD; rw [List.length_map]; omega)
  have : (j : Int) ∈ tosD d := hp.mem_iff.1 (mem_ascL.2 (by omega))
  obtain ⟨w, hw, e⟩ := List.mem_map.1 this
  obtain ⟨i, hi, rfl⟩ := List.getElem_of_mem hw
  exact ⟨i, hi, by rw [getD_at hi]; exact e⟩
theorem inv_valid (hv : validD a b d = true) (ho : oneB a b d = true) : validD b a (invD d b.length d.length) = true := by
  obtain ⟨p1, p2, p3, -, p5, p6⟩ := validD_parts hv
  obtain ⟨h1, h2, h3⟩ := one_parts hv ho
  have hl := okSign_len p1
  have h0 := inv_at hv ho (i := 0) (by omega)
  rw [p5, p6] at h0
  refine validD_of p2 p1 (invD_len _ _ _) (by rw [show (0 : Nat) = (0 : Int).toNat from rfl, h0]; rfl) (by rw [show (0 : Nat) = (0 : Int).toNat from rfl, h0]; rfl) (fun j hj => ?_)
  rw [invD_len] at hj
  obtain ⟨i, hi, e⟩ := one_surj hv ho hj
  have hg := inv_at hv ho hi
  obtain ⟨v1, v2, v3, v4, v5⟩ := validD_at hv (i := i) (by omega)
  rw [e, Int.toNat_natCast] at hg
  rw [e] at v3
  rw [hg]
  unfold wayOk
  rw [Bool.and_eq_true, Bool.and_eq_true, Bool.and_eq_true, Bool.and_eq_true, decide_eq_true_eq, decide_eq_true_eq, decide_eq_true_eq, decide_eq_true_eq]
  refine ⟨⟨by show (0 : Int) ≤ (i : Int); omega, by show (i : Int) ≤ (a.length : Int) - 1; omega⟩, v3.symm, ?_, invA_ord v5⟩
  rw [invA_len, v4, v3]
theorem inv_tos (hv : validD a b d = true) (ho : oneB a b d = true) : (tosD (invD d b.length d.length)).Nodup := by
  obtain ⟨h1, h2, h3⟩ := one_parts hv ho
  rw [List.Nodup, List.pairwise_iff_getElem]
  intro j1 j2 g1 g2 hlt he
  have g1' := g1
  have g2' := g2
  unfold tosD at g1' g2'
  rw [List.length_map, invD_len] at g1' g2'
  obtain ⟨i1, hi1, e1⟩ := one_surj hv ho g1'
  obtain ⟨i2, hi2, e2⟩ := one_surj hv ho g2'
  have k1 := inv_at hv ho hi1
  have k2 := inv_at hv ho hi2
  rw [e1, Int.toNat_natCast, getD_at (by rw [invD_len]; exact g1')] at k1
  rw [e2, Int.toNat_natCast, getD_at (by rw [invD_len]; exact g2')] at k2
  rw [tosD_get, tosD_get, k1, k2] at he
  have he2 : (i1 : Int) = (i2 : Int) := he
  have : i1 = i2 := by omega
  subst this
  rw [e1] at e2
  omega
theorem inv_one (hv : validD a b d = true) (ho : oneB a b d = true) : oneB b a (invD d b.length d.length) = true := by
  obtain ⟨h1, -, -⟩ := one_parts hv ho
  unfold oneB
  rw [decide_eq_true h1.symm, decide_eq_true (inv_tos hv ho)]; rfl
/-- undone twice -/
theorem inv_inv (hv : validD a b d = true) (ho : oneB a b d = true) : invD (invD d b.length d.length) a.length (invD d b.length d.length).length = d := by
  obtain ⟨h1, h2, h3⟩ := one_parts hv ho
  have hl := (validD_parts hv).2.2.1
  have hv2 := inv_valid hv ho
  have ho2 := inv_one hv ho
  apply List.ext_getElem
  · rw [invD_len]; exact hl.symm
  · intro i g1 hi
    have k1 := inv_at hv ho hi
    have r := h3 d[i].1 (List.mem_map.2 ⟨_, List.getElem_mem hi, rfl⟩)
    have k2 := inv_at hv2 ho2 (i := (d.getD i (0, [])).1.toNat) (by rw [invD_len, getD_at hi]; omega)
    rw [k1] at k2
    rw [Int.toNat_natCast, getD_at g1, invA_len, getD_at hi] at k2
    obtain ⟨v1, v2, v3, v4, v5⟩ := validD_at hv (i := i) (by omega)
    rw [getD_at hi] at v1 v5
    rw [k2, invA_inv v5, Int.toNat_of_nonneg v1]
theorem itsD_map (s : Sg) : ∀ k, itsD s k = (List.range k).map (fun i : Nat => ((i : Int), ascL (arAt s i).toNat))
  | 0 => rfl
  | k + 1 => by rw [itsD, itsD_map s k, List.range_succ, List.map_append]; rfl
theorem itsD_get {s : Sg} {k i : Nat} (h : i < k) : (itsD s k).getD i (0, []) = ((i : Int), ascL (arAt s i).toNat) := by
  rw [itsD_map, getD_at (by simpa using h), List.getElem_map, List.getElem_range]
/-- composed with the inverse: nothing changes -/
theorem inv_comp (hv : validD a b d = true) (ho : oneB a b d = true) : compD d (invD d b.length d.length) d.length = itsD a a.length := by
  have hl := (validD_parts hv).2.2.1
  rw [compD_map, itsD_map, ← hl]
  apply List.map_congr_left
  intro i hi
  have hi' := List.mem_range.1 hi
  have k1 := inv_at hv ho (i := i) (by omega)
  obtain ⟨v1, v2, v3, v4, v5⟩ := validD_at hv (i := i) (by omega)
  unfold compW
  rw [k1]
  simp only
  rw [invA_map v5, ← v4, Int.toNat_natCast]
theorem its_carry {s : Sg} (hs : okSign s = true) : ∀ (f : Nat) {t : List Int}, okT s t = true → t.length ≤ f → carT s (itsD s s.length) t = t
  | 0, t, h, hf => by have := (okT_parts h).2.1; omega
  | f + 1, t, h, hf => by
    obtain ⟨n, x, ht, hc, hsk⟩ := okT_head h
    obtain ⟨g1, g2, g3⟩ := argsT_spec h
    by_cases hn : n < 0
    · have har : ar s n = 0 := ar_neg hn
      rw [har, skip_zero] at hsk
      simp only [Option.some.injEq] at hsk
      subst hsk
      subst ht
      exact carT_neg hn
    · have hh : t.headD 0 = n := by rw [ht]; rfl
      have hnl : n < s.length := by simp [codeOk] at hc; omega
      have ha := (ar_at hs (n := n) (by omega) hnl).1
      have hfl : (argsT s t).flatten.length + 1 = t.length := by
        have := congrArg List.length g2
        rw [List.length_cons] at this; omega
      rw [carT_node h (by rw [hh]; omega), hh]
      have hmap : (argsT s t).map (carT s (itsD s s.length)) = argsT s t := by
        conv => rhs; rw [← List.map_id (argsT s t)]
        apply List.map_congr_left
        intro u hu
        have := len_flatten hu
        exact its_carry hs f (g3 u hu) (by omega)
      rw [hmap]
      unfold carA
      rw [itsD_get (by omega)]
      simp only
      rw [Int.toNat_of_nonneg (by omega), ← ha, Int.toNat_natCast]
      rw [hh] at g1 g2
      rw [← g1, ascL_map]
      exact g2.symm
/-- carried there and back -/
theorem back_carry (hv : validD a b d = true) (ho : oneB a b d = true) {t : List Int} (ht : okT a t = true) : carT b (invD d b.length d.length) (carT a d t) = t := by
  rw [comp_carry hv (inv_valid hv ho) t.length ht (Nat.le_refl _), inv_comp hv ho]
  exact its_carry (validD_parts hv).1 t.length ht (Nat.le_refl _)
end
end Go.Proofs.Ytljkojpooajlhaa
