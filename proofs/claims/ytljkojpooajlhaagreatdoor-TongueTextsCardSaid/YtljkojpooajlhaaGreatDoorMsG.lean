/- The proof of a statement, some of its texts joined in build order: part G. -/
import Derived.Test.YtljkojpooajlhaaGreatDoorMsD
import Derived.Test.YtljkojpooajlhaaGreatDoorMath2
import Derived.Test.YtljkojpooajlhaaGreatDoorMsB
import Derived.Test.YtljkojpooajlhaaGreatDoorMsI
import Derived.Test.YtljkojpooajlhaaGreatDoorWalkF
import Derived.Test.YtljkojpooajlhaaGreatDoorKeys
import Derived.Test.YtljkojpooajlhaaGreatDoorBoxList
import Derived.Test.YtljkojpooajlhaaGreatDoorRegion
import Derived.Deep.RegionLaw
import Derived.Test.YtljkojpooajlhaaGreatDoorShAtoi
import Derived.Test.YtljkojpooajlhaaGreatDoorBld
import Derived.BigRegion
import Derived.BigQuiet
import Derived.Lib.ItoaLen
import Derived.Lib.SplitLaws
import Derived.Test.YtljkojpooajlhaaGreatDoorMsE
import Derived.Test.YtljkojpooajlhaaGreatDoorMsC
import Derived.Test.YtljkojpooajlhaaGreatDoorMathTok
import Derived.Deep.Cut
/- Dictionaries undone. No program is named. -/
namespace Go.Proofs.YtljkojpooajlhaaGreatDoor

theorem getD_at {α : Type} {l : List α} {i : Nat} {x : α} (h : i < l.length) : l.getD i x = l[i] := by
  rw [List.getD_eq_getElem?_getD, List.getElem?_eq_getElem h]; rfl
theorem getD_set_eq {α : Type} {l : List α} {i : Nat} {x v : α} (h : i < l.length) : (l.set i v).getD i x = v := by
  rw [getD_at (by rw [List.length_set]; exact h), List.getElem_set_self]
theorem getD_set_ne {α : Type} {l : List α} {i j : Nat} {x v : α} (h : i ≠ j) : (l.set i v).getD j x = l.getD j x := by
  rw [List.getD_eq_getElem?_getD, List.getElem?_set_ne h, ← List.getD_eq_getElem?_getD]
theorem invA_at {l : List Int} {n : Nat} (hn : l.Nodup) (hr : ∀ x ∈ l, 0 ≤ x ∧ x < n) : ∀ {k : Nat}, k ≤ l.length → ∀ i, i < k → (invA l n k).getD (l.getD i 0).toNat 0 = (i : Int)
  | 0, _, i, hi => by omega
  | k + 1, hk, i, hi => by
    rw [invA]
    have hki : k < l.length := by omega
    have hii : i < l.length := by omega
    have rk := hr _ (List.getElem_mem hki)
    have ri := hr _ (List.getElem_mem hii)
    rw [getD_at hki, getD_at hii]
    by_cases e : i = k
    · subst e
      rw [getD_set_eq (by rw [invA_len]; omega)]
    · have hne : l[k] ≠ l[i] := fun h => e ((List.getElem_inj hn).1 h.symm)
      rw [getD_set_ne (by omega)]
      have := invA_at hn hr (k := k) (by omega) i (by omega)
      rwa [getD_at hii] at this
theorem invD_at {d : Ways} {n : Nat} (hn : (tosD d).Nodup) (hr : ∀ x ∈ tosD d, 0 ≤ x ∧ x < n) : ∀ {k : Nat}, k ≤ d.length → ∀ i, i < k → (invD d n k).getD (d.getD i (0, [])).1.toNat (0, []) = ((i : Int), invA (d.getD i (0, [])).2 (d.getD i (0, [])).2.length (d.getD i (0, [])).2.length)
  | 0, _, i, hi => by omega
  | k + 1, hk, i, hi => by
    rw [invD]
    have hki : k < d.length := by omega
    have hii : i < d.length := by omega
    have mk : d[k].1 ∈ tosD d := List.mem_map.2 ⟨_, List.getElem_mem hki, rfl⟩
    have mi : d[i].1 ∈ tosD d := List.mem_map.2 ⟨_, List.getElem_mem hii, rfl⟩
    have rk := hr _ mk
    have ri := hr _ mi
    by_cases e : i = k
    · subst e
      rw [getD_set_eq (by rw [invD_len, getD_at hii]; omega)]
    · have hne : d[k].1 ≠ d[i].1 := fun h => e (by
        have := (List.getElem_inj (i := i) (j := k) (h₀ := by unfold tosD; rw [List.length_map]; exact hii) (h₁ := by unfold tosD; rw [List.length_map]; exact hki) hn).1 (by unfold tosD; rw [List.getElem_map, List.getElem_map]; exact h.symm)
        exact this)
      rw [getD_set_ne (by rw [getD_at hki, getD_at hii]; omega)]
      exact invD_at hn hr (by omega) i (by omega)
/-- what an order's inverse is -/
theorem invA_perm {l : List Int} (h : l.Perm (ascL l.length)) : ∀ i, i < l.length → (invA l l.length l.length).getD (l.getD i 0).toNat 0 = (i : Int) :=
  invA_at (h.nodup_iff.2 (ascL_nodup _)) (fun _ hx => mem_ascL.1 (h.mem_iff.1 hx)) (Nat.le_refl _)
theorem ord_surj {l : List Int} (h : l.Perm (ascL l.length)) {p : Nat} (hp : p < l.length) : ∃ q, ∃ hq : q < l.length, l[q] = (p : Int) := by
  have : (p : Int) ∈ l := h.mem_iff.2 (mem_ascL.2 (by omega))
  obtain ⟨q, hq, e⟩ := List.getElem_of_mem this
  exact ⟨q, hq, e⟩
theorem invA_ord {l : List Int} (h : l.Perm (ascL l.length)) : ordB (invA l l.length l.length) = true := by
  rw [ordB_iff]
  intro i hi
  rw [invA_len] at hi
  have := invA_perm h i hi
  have hr := mem_ascL.1 (h.mem_iff.1 (List.getElem_mem hi))
  rw [getD_at hi, getD_at (by rw [invA_len]; omega)] at this
  exact this ▸ List.getElem_mem _
theorem invA_map {l : List Int} (h : l.Perm (ascL l.length)) : (invA l l.length l.length).map (fun j => l.getD j.toNat 0) = ascL l.length := by
  apply List.ext_getElem
  · rw [List.length_map, invA_len, ascL_len]
  · intro p h1 h2
    rw [List.length_map, invA_len] at h1
    obtain ⟨q, hq, e⟩ := ord_surj h h1
    have := invA_perm h q hq
    rw [getD_at hq, e, Int.toNat_natCast, getD_at (by rw [invA_len]; exact h1)] at this
    rw [List.getElem_map, ascL_get, this, Int.toNat_natCast, getD_at hq, e]
theorem invA_inv {l : List Int} (h : l.Perm (ascL l.length)) : invA (invA l l.length l.length) l.length l.length = l := by
  have h2 := ordB_perm (invA_ord h)
  have h3 := invA_perm h2
  rw [invA_len] at h3
  apply List.ext_getElem
  · rw [invA_len]
  · intro q hq1 hq
    have hr := mem_ascL.1 (h.mem_iff.1 (List.getElem_mem hq))
    have e1 := invA_perm h q hq
    rw [getD_at hq] at e1
    have e2 := h3 l[q].toNat (by omega)
    rw [e1, Int.toNat_natCast, getD_at hq1] at e2
    omega
theorem tosD_get {d : Ways} {i : Nat} (h : i < (tosD d).length) : (tosD d)[i] = (d[i]'(by simpa [tosD] using h)).1 := by simp [tosD]
section
variable {a b : Sg} {d : Ways}
theorem one_parts (hv : validD a b d = true) (ho : oneB a b d = true) : a.length = b.length ∧ (tosD d).Nodup ∧ ∀ x ∈ tosD d, 0 ≤ x ∧ x < b.length := by
  unfold oneB at ho
  rw [Bool.and_eq_true, decide_eq_true_eq, decide_eq_true_eq] at ho
  exact ⟨ho.1, ho.2, tos_range (validD_parts hv).2.2.2.1⟩
theorem inv_at (hv : validD a b d = true) (ho : oneB a b d = true) {i : Nat} (hi : i < d.length) : (invD d b.length d.length).getD (d.getD i (0, [])).1.toNat (0, []) = ((i : Int), invA (d.getD i (0, [])).2 (d.getD i (0, [])).2.length (d.getD i (0, [])).2.length) :=
  invD_at (one_parts hv ho).2.1 (one_parts hv ho).2.2 (Nat.le_refl _) i hi
theorem one_surj (hv : validD a b d = true) (ho : oneB a b d = true) {j : Nat} (hj : j < b.length) : ∃ i, i < d.length ∧ (d.getD i (0, [])).1 = (j : Int) := by
  obtain ⟨h1, h2, h3⟩ := one_parts hv ho
  have hl := (validD_parts hv).2.2.1
  have hp : (ascL b.length).Perm (tosD d) := perm_of_sub h2 (fun x hx => mem_ascL.2 (h3 x hx)) (by rw [ascL_len]; unfold tosD; rw [List.length_map]; omega)
  have : (j : Int) ∈ tosD d := hp.mem_iff.1 (mem_ascL.2 (by omega))
  obtain ⟨w, hw, e⟩ := List.mem_map.1 this
  obtain ⟨i, hi, rfl⟩ := List.getElem_of_mem hw
  exact ⟨i, hi, by rw [getD_at hi]; exact e⟩
theorem inv_valid (hv : validD a b d = true) (ho : oneB a b d = true) : validD b a (invD d b.length d.length) = true := by
  obtain ⟨p1, p2, p3, -, p5, p6⟩ := validD_parts hv
  obtain ⟨h1, h2, h3⟩ := one_parts hv ho
  have hl := okSign_len p1
  have h0 := inv_at hv ho (i := 0) (by omega)
  rw [p5, p6] at h0
  refine validD_of p2 p1 (invD_len _ _ _) (by rw [show (0 : Nat) = (0 : Int).toNat from rfl, h0]; rfl) (by rw [show (0 : Nat) = (0 : Int).toNat from rfl, h0]; rfl) (fun j hj => ?_)
  rw [invD_len] at hj
  obtain ⟨i, hi, e⟩ := one_surj hv ho hj
  have hg := inv_at hv ho hi
  obtain ⟨v1, v2, v3, v4, v5⟩ := validD_at hv (i := i) (by omega)
  rw [e, Int.toNat_natCast] at hg
  rw [e] at v3
  rw [hg]
  unfold wayOk
  rw [Bool.and_eq_true, Bool.and_eq_true, Bool.and_eq_true, Bool.and_eq_true, decide_eq_true_eq, decide_eq_true_eq, decide_eq_true_eq, decide_eq_true_eq]
  refine ⟨⟨by show (0 : Int) ≤ (i : Int); omega, by show (i : Int) ≤ (a.length : Int) - 1; omega⟩, v3.symm, ?_, invA_ord v5⟩
  rw [invA_len, v4, v3]
theorem inv_tos (hv : validD a b d = true) (ho : oneB a b d = true) : (tosD (invD d b.length d.length)).Nodup := by
  obtain ⟨h1, h2, h3⟩ := one_parts hv ho
  rw [List.Nodup, List.pairwise_iff_getElem]
  intro j1 j2 g1 g2 hlt he
  have g1' := g1
  have g2' := g2
  unfold tosD at g1' g2'
  rw [List.length_map, invD_len] at g1' g2'
  obtain ⟨i1, hi1, e1⟩ := one_surj hv ho g1'
  obtain ⟨i2, hi2, e2⟩ := one_surj hv ho g2'
  have k1 := inv_at hv ho hi1
  have k2 := inv_at hv ho hi2
  rw [e1, Int.toNat_natCast, getD_at (by rw [invD_len]; exact g1')] at k1
  rw [e2, Int.toNat_natCast, getD_at (by rw [invD_len]; exact g2')] at k2
  rw [tosD_get, tosD_get, k1, k2] at he
  have he2 : (i1 : Int) = (i2 : Int) := he
  have : i1 = i2 := by omega
  subst this
  rw [e1] at e2
  omega
theorem inv_one (hv : validD a b d = true) (ho : oneB a b d = true) : oneB b a (invD d b.length d.length) = true := by
  obtain ⟨h1, -, -⟩ := one_parts hv ho
  unfold oneB
  rw [decide_eq_true h1.symm, decide_eq_true (inv_tos hv ho)]; rfl
/-- undone twice -/
theorem inv_inv (hv : validD a b d = true) (ho : oneB a b d = true) : invD (invD d b.length d.length) a.length (invD d b.length d.length).length = d := by
  obtain ⟨h1, h2, h3⟩ := one_parts hv ho
  have hl := (validD_parts hv).2.2.1
  have hv2 := inv_valid hv ho
  have ho2 := inv_one hv ho
  apply List.ext_getElem
  · rw [invD_len]; exact hl.symm
  · intro i g1 hi
    have k1 := inv_at hv ho hi
    have r := h3 d[i].1 (List.mem_map.2 ⟨_, List.getElem_mem hi, rfl⟩)
    have k2 := inv_at hv2 ho2 (i := (d.getD i (0, [])).1.toNat) (by rw [invD_len, getD_at hi]; omega)
    rw [k1] at k2
    rw [Int.toNat_natCast, getD_at g1, invA_len, getD_at hi] at k2
    obtain ⟨v1, v2, v3, v4, v5⟩ := validD_at hv (i := i) (by omega)
    rw [getD_at hi] at v1 v5
    rw [k2, invA_inv v5, Int.toNat_of_nonneg v1]
theorem itsD_map (s : Sg) : ∀ k, itsD s k = (List.range k).map (fun i : Nat => ((i : Int), ascL (arAt s i).toNat))
  | 0 => rfl
  | k + 1 => by rw [itsD, itsD_map s k, List.range_succ, List.map_append]; rfl
theorem itsD_get {s : Sg} {k i : Nat} (h : i < k) : (itsD s k).getD i (0, []) = ((i : Int), ascL (arAt s i).toNat) := by
  rw [itsD_map, getD_at (by simpa using h), List.getElem_map, List.getElem_range]
/-- composed with the inverse: nothing changes -/
theorem inv_comp (hv : validD a b d = true) (ho : oneB a b d = true) : compD d (invD d b.length d.length) d.length = itsD a a.length := by
  have hl := (validD_parts hv).2.2.1
  rw [compD_map, itsD_map, ← hl]
  apply List.map_congr_left
  intro i hi
  have hi' := List.mem_range.1 hi
  have k1 := inv_at hv ho (i := i) (by omega)
  obtain ⟨v1, v2, v3, v4, v5⟩ := validD_at hv (i := i) (by omega)
  unfold compW
  rw [k1]
  simp only
  rw [invA_map v5, ← v4, Int.toNat_natCast]
theorem its_carry {s : Sg} (hs : okSign s = true) : ∀ (f : Nat) {t : List Int}, okT s t = true → t.length ≤ f → carT s (itsD s s.length) t = t
  | 0, t, h, hf => by have := (okT_parts h).2.1; omega
  | f + 1, t, h, hf => by
    obtain ⟨n, x, ht, hc, hsk⟩ := okT_head h
    obtain ⟨g1, g2, g3⟩ := argsT_spec h
    by_cases hn : n < 0
    · have har : ar s n = 0 := ar_neg hn
      rw [har, skip_zero] at hsk
      simp only [Option.some.injEq] at hsk
      subst hsk
      subst ht
      exact carT_neg hn
    · have hh : t.headD 0 = n := by rw [ht]; rfl
      have hnl : n < s.length := by simp [codeOk] at hc; omega
      have ha := (ar_at hs (n := n) (by omega) hnl).1
      have hfl : (argsT s t).flatten.length + 1 = t.length := by
        have := congrArg List.length g2
        rw [List.length_cons] at this; omega
      rw [carT_node h (by rw [hh]; omega), hh]
      have hmap : (argsT s t).map (carT s (itsD s s.length)) = argsT s t := by
        conv => rhs; rw [← List.map_id (argsT s t)]
        apply List.map_congr_left
        intro u hu
        have := len_flatten hu
        exact its_carry hs f (g3 u hu) (by omega)
      rw [hmap]
      unfold carA
      rw [itsD_get (by omega)]
      simp only
      rw [Int.toNat_of_nonneg (by omega), ← ha, Int.toNat_natCast]
      rw [hh] at g1 g2
      rw [← g1, ascL_map]
      exact g2.symm
/-- carried there and back -/
theorem back_carry (hv : validD a b d = true) (ho : oneB a b d = true) {t : List Int} (ht : okT a t = true) : carT b (invD d b.length d.length) (carT a d t) = t := by
  rw [comp_carry hv (inv_valid hv ho) t.length ht (Nat.le_refl _), inv_comp hv ho]
  exact its_carry (validD_parts hv).1 t.length ht (Nat.le_refl _)
end
end Go.Proofs.YtljkojpooajlhaaGreatDoor

/- How often a dictionary must be repeated until nothing changes. No program is named. -/
namespace Go.Proofs.YtljkojpooajlhaaGreatDoor

/-- a dictionary k more times -/
def powD (d : Ways) : Nat → Ways
  | 0 => d
  | k + 1 => compD (powD d k) d (powD d k).length
theorem powD_valid {s : Sg} {d : Ways} (h : validD s s d = true) : ∀ k, validD s s (powD d k) = true
  | 0 => h
  | k + 1 => comp_valid (powD_valid h k) h
theorem powD_len {s : Sg} {d : Ways} (h : validD s s d = true) (k : Nat) : (powD d k).length = s.length := (validD_parts (powD_valid h k)).2.2.1
/-- where a symbol and its arguments are behind k times -/
def stK (d : Ways) (i : Int) (n : Nat) : Nat → Int × List Int
  | 0 => (i, ascL n)
  | k + 1 => ((d.getD (stK d i n k).1.toNat (0, [])).1, (d.getD (stK d i n k).1.toNat (0, [])).2.map (fun j => (stK d i n k).2.getD j.toNat 0))
section
variable {s : Sg} {d : Ways} (hv : validD s s d = true)
include hv
theorem stK_ok {i : Int} {n : Nat} (h0 : 0 ≤ i) (h1 : i < s.length) (hn : arAt s i = n) : ∀ k, 0 ≤ (stK d i n k).1 ∧ (stK d i n k).1 < s.length ∧ arAt s (stK d i n k).1 = n ∧ (stK d i n k).2.length = n ∧ (stK d i n k).2.Perm (ascL (stK d i n k).2.length)
  | 0 => ⟨h0, h1, hn, ascL_len n, by rw [stK, ascL_len]⟩
  | k + 1 => by
    obtain ⟨g1, g2, g3, g4, g5⟩ := stK_ok h0 h1 hn k
    obtain ⟨w1, w2, w3, w4, w5⟩ := validD_way hv g1 g2
    rw [stK]
    refine ⟨w1, w2, by rw [w3, g3], ?_, comp_perm g5 w5 (by omega)⟩
    rw [List.length_map]; omega
theorem stK_one {i : Nat} (hi : i < s.length) {n : Nat} (hn : arAt s i = n) : stK d i n 1 = d.getD i (0, []) := by
  obtain ⟨w1, w2, w3, w4, w5⟩ := validD_at hv hi
  rw [stK, stK]
  simp only [Int.toNat_natCast]
  refine Prod.ext rfl ?_
  show List.map _ (d.getD i (0, [])).2 = (d.getD i (0, [])).2
  apply List.ext_getElem
  · simp
  · intro j g1 g2
    have := mem_ascL.1 (w5.mem_iff.1 (List.getElem_mem g2))
    rw [List.getElem_map, getD_at (by rw [ascL_len]; omega), ascL_get (by rw [ascL_len]; omega)]
    omega
theorem powD_get {i : Nat} (hi : i < s.length) {n : Nat} (hn : arAt s i = n) : ∀ k, (powD d k).getD i (0, []) = stK d i n (k + 1)
  | 0 => (stK_one hv hi hn).symm
  | k + 1 => by
    rw [powD, compD_get (by rw [powD_len hv]; exact hi), compW, powD_get hi hn k]
    rfl
theorem stK_add {i : Int} {n : Nat} (h0 : 0 ≤ i) (h1 : i < s.length) (hn : arAt s i = n) (k : Nat) : ∀ l, stK d i n (k + l) = ((stK d (stK d i n k).1 n l).1, (stK d (stK d i n k).1 n l).2.map (fun j => (stK d i n k).2.getD j.toNat 0))
  | 0 => by
    have h := stK_ok hv h0 h1 hn k
    rw [Nat.add_zero, stK]
    refine Prod.ext rfl ?_
    have e := ascL_mapI (stK d i n k).2
    rw [h.2.2.2.1] at e
    exact e.symm
  | l + 1 => by
    have h := stK_ok hv h0 h1 hn k
    have h2 := stK_ok hv h.1 h.2.1 h.2.2.1 l
    obtain ⟨w1, w2, w3, w4, w5⟩ := validD_way hv h2.1 h2.2.1
    rw [← Nat.add_assoc, stK, stK_add h0 h1 hn k l]
    conv => rhs; rw [stK]
    refine Prod.ext rfl ?_
    simp only [List.map_map]
    apply List.map_congr_left
    intro j hj
    have := mem_ascL.1 (w5.mem_iff.1 hj)
    have hjl : j.toNat < (stK d (stK d i n k).1 n l).2.length := by omega
    simp only [Function.comp]
    rw [getD_at (by rw [List.length_map]; exact hjl), List.getElem_map, getD_at hjl]
theorem stK_mul {i : Int} {n : Nat} (h0 : 0 ≤ i) (h1 : i < s.length) (hn : arAt s i = n) {c : Nat} (hc : (stK d i n c).1 = i) : ∀ m, (stK d i n (c * m)).1 = i
  | 0 => rfl
  | m + 1 => by
    rw [Nat.mul_succ, stK_add hv h0 h1 hn]
    simp only
    rw [stK_mul h0 h1 hn hc m, hc]
end
section
variable {s : Sg} {d : Ways} (hv : validD s s d = true) (ho : oneB s s d = true)
include hv ho
theorem to_inj {i j : Int} (h0 : 0 ≤ i) (h1 : i < s.length) (g0 : 0 ≤ j) (g1 : j < s.length) (he : (d.getD i.toNat (0, [])).1 = (d.getD j.toNat (0, [])).1) : i = j := by
  obtain ⟨-, hn, -⟩ := one_parts hv ho
  have hl := (validD_parts hv).2.2.1
  have hi : i.toNat < d.length := by omega
  have hj : j.toNat < d.length := by omega
  rw [getD_at hi, getD_at hj] at he
  have := (List.getElem_inj (i := i.toNat) (j := j.toNat) (h₀ := by unfold tosD; rw [List.length_map]; exact hi) (h₁ := by unfold tosD; rw [List.length_map]; exact hj) hn).1 (by unfold tosD; rw [List.getElem_map, List.getElem_map]; exact he)
  omega
theorem stK_down {i : Int} {n : Nat} (h0 : 0 ≤ i) (h1 : i < s.length) (hn : arAt s i = n) (e : Nat) : ∀ k, (stK d i n k).1 = (stK d i n (k + e)).1 → i = (stK d i n e).1
  | 0, h => by rw [Nat.zero_add] at h; exact h
  | k + 1, h => by
    refine stK_down h0 h1 hn e k ?_
    rw [show k + 1 + e = (k + e) + 1 by omega, stK, stK] at h
    have g1 := stK_ok hv h0 h1 hn k
    have g2 := stK_ok hv h0 h1 hn (k + e)
    exact to_inj hv ho g1.1 g1.2.1 g2.1 g2.2.1 h
/-- a symbol comes back -/
theorem stK_back {i : Int} {n : Nat} (h0 : 0 ≤ i) (h1 : i < s.length) (hn : arAt s i = n) : ∃ c, 1 ≤ c ∧ c ≤ 12 ∧ (stK d i n c).1 = i := by
  have hl := (okSign_len (validD_parts hv).1).2
  have hnd : ¬ ((List.range (s.length + 1)).map (fun k => (stK d i n k).1.toNat)).Nodup := fun hh => by
    have := nodup_bound s.length _ hh (fun x hx => by
      obtain ⟨k, -, rfl⟩ := List.mem_map.1 hx
      have := stK_ok hv h0 h1 hn k
      omega)
    simp at this
    omega
  have hex : ∃ k l, k < l ∧ l ≤ s.length ∧ (stK d i n k).1 = (stK d i n l).1 := by
    refine Classical.byContradiction fun hno => hnd ?_
    rw [List.Nodup, List.pairwise_map]
    refine List.Pairwise.imp_of_mem (R := fun a b => a < b) (fun {a b} ha hb hab he => hno ⟨a, b, hab, ?_, ?_⟩) List.pairwise_lt_range
    · have := List.mem_range.1 hb; omega
    · have g1 := stK_ok hv h0 h1 hn a
      have g2 := stK_ok hv h0 h1 hn b
      omega
  obtain ⟨k, l, g1, g2, g3⟩ := hex
  refine ⟨l - k, by omega, by omega, ?_⟩
  refine (stK_down hv ho h0 h1 hn (l - k) k ?_).symm
  rw [show k + (l - k) = l by omega]
  exact g3
end
def pwP (p : List Int) : Nat → List Int
  | 0 => ascL p.length
  | m + 1 => p.map (fun j => (pwP p m).getD j.toNat 0)
def allL : Nat → List (List Int)
  | 0 => [[]]
  | k + 1 => (allL k).flatMap (fun l => [0, 1, 2].map (fun x => (x : Int) :: l))
theorem mem_allL : ∀ l : List Int, (∀ x ∈ l, 0 ≤ x ∧ x < 3) → l ∈ allL l.length
  | [], _ => by simp [allL]
  | x :: l, h => by
    rw [List.length_cons, allL, List.mem_flatMap]
    refine ⟨l, mem_allL l (fun y hy => h y (by simp [hy])), List.mem_map.2 ⟨x, ?_, rfl⟩⟩
    have := h x (by simp)
    have : x = 0 ∨ x = 1 ∨ x = 2 := by omega
    rcases this with e | e | e <;> simp [e]
theorem pw_six : ∀ n ∈ [0, 1, 2, 3], ∀ p ∈ allL n, ordB p = true → pwP p 6 = ascL p.length := by decide +kernel
theorem dvd_all : ∀ c, c < 13 → 1 ≤ c → 27720 % c = 0 := by decide
section
variable {s : Sg} {d : Ways} (hv : validD s s d = true) (ho : oneB s s d = true)
include hv ho
theorem stK_all {i : Int} {n : Nat} (h0 : 0 ≤ i) (h1 : i < s.length) (hn : arAt s i = n) : stK d i n 166320 = (i, ascL n) := by
  obtain ⟨c, c1, c2, c3⟩ := stK_back hv ho h0 h1 hn
  have hd := dvd_all c (by omega) c1
  have hN : (stK d i n 27720).1 = i := by
    have e : 27720 = c * (27720 / c) := (Nat.mul_div_cancel' (Nat.dvd_of_mod_eq_zero hd)).symm
    rw [e]
    exact stK_mul hv h0 h1 hn c3 _
  obtain ⟨p, hp⟩ : ∃ p, (stK d i n 27720).2 = p := ⟨_, rfl⟩
  have hg := stK_ok hv h0 h1 hn 27720
  rw [hp] at hg
  have hpw : ∀ m, stK d i n (27720 * m) = (i, pwP p m) := by
    intro m
    induction m with
    | zero => rw [Nat.mul_zero, stK, pwP, hg.2.2.2.1]
    | succ m ih =>
      rw [Nat.mul_succ, stK_add hv h0 h1 hn, ih]
      simp only
      rw [hN, hp, pwP]
  have har : n ≤ 3 := by
    have ha := (validD_parts hv).1
    have h2 := ar_at ha h0 h1
    have := (arC_ok ha h2.2).2
    omega
  have h6 := pw_six n (by
    have : n = 0 ∨ n = 1 ∨ n = 2 ∨ n = 3 := by omega
    rcases this with e | e | e | e <;> simp [e]) p (by
    have := mem_allL p (fun x hx => by
      have := mem_ascL.1 (hg.2.2.2.2.mem_iff.1 hx)
      omega)
    rwa [hg.2.2.2.1] at this) (ordB_of_perm hg.2.2.2.2)
  have e := hpw 6
  rw [h6, hg.2.2.2.1] at e
  exact e
theorem pow_back : powD d 166319 = itsD s s.length := by
  have hl := powD_len hv 166319
  have hli : (itsD s s.length).length = s.length := by rw [itsD_map]; simp
  apply List.ext_getElem
  · rw [hl, hli]
  · intro i g1 g2
    have hi : i < s.length := by omega
    obtain ⟨w1, w2, w3, w4, w5⟩ := validD_at hv hi
    have hn : arAt s i = ((arAt s i).toNat : Nat) := by omega
    have e1 := powD_get hv hi hn 166319
    have e2 := stK_all hv ho (i := (i : Int)) (by omega) (by omega) hn
    have e3 := itsD_get (s := s) hi
    rw [getD_at g1] at e1
    rw [getD_at g2] at e3
    rw [e1, e3]
    exact e2
end
/-- after how many more times nothing changes -/
def ordK (s : Sg) (d : Ways) : Nat := ((List.range 166320).find? (fun k => decide (powD d k = itsD s s.length))).getD 0
theorem ordK_spec {s : Sg} {d : Ways} (hv : validD s s d = true) (ho : oneB s s d = true) : powD d (ordK s d) = itsD s s.length ∧ (∀ j, j < ordK s d → ¬ powD d j = itsD s s.length) ∧ ordK s d < 166320 := by
  have hb := pow_back hv ho
  have hex : ∃ k, (List.range 166320).find? (fun k => decide (powD d k = itsD s s.length)) = some k := by
    cases hf : (List.range 166320).find? (fun k => decide (powD d k = itsD s s.length)) with
    | some k => exact ⟨k, rfl⟩
    | none =>
      rw [List.find?_eq_none] at hf
      exact (hf 166319 (List.mem_range.2 (by omega)) (by rw [decide_eq_true_eq]; exact hb)).elim
  obtain ⟨k, hk⟩ := hex
  have he : ordK s d = k := by unfold ordK; rw [hk]; rfl
  rw [List.find?_range_eq_some] at hk
  obtain ⟨g1, g2, g3⟩ := hk
  rw [he]
  refine ⟨by simpa using g1, fun j hj => by simpa using g3 j hj, by simpa using g2⟩
def ordE (s : Sg) (d : Ways) : Int × Int := if validD s s d = true then (if oneB s s d = true then (((ordK s d : Nat) : Int) + 1, 0) else (0, 8)) else (0, 1)
def symmE (s : Sg) (d : Ways) (t : List Int) : Bool × Int := if (validD s s d && okT s t) = true then (decide (canon t = canon (carT s d t)), 0) else (false, 1)
end Go.Proofs.YtljkojpooajlhaaGreatDoor

/- Walks of package kernel: steps in memory; right, valid, ValidGivens, asked. -/
namespace Go.Proofs.YtljkojpooajlhaaGreatDoor
open Go Go.RowKit Go.Maps

/-- struct { Kind, A, B int } -/
def stpE : Enc Stp := pairE intE (pairE intE intE)
abbrev Steps := Sl stpE
abbrev stpV (x : Stp) : Value := .agg #[.int .i64 x.1, .int .i64 x.2.1, .int .i64 x.2.2]
def stpR (x : Stp) : Prop := inRange x.1 ∧ inRange x.2.1 ∧ inRange x.2.2
theorem Sl.stp {S : Nat → Prop} {w : World} {a : Option Addr} {c : Nat} {l : List Stp} (h : Steps S w a c l) (i : Nat) (hi : i < l.length) :
    ∃ b off, a = some ⟨b, off, none⟩ ∧ S b ∧ w.cell? ⟨b, off + i * 3, none⟩ = some (.int .i64 l[i].1) ∧ w.cell? ⟨b, off + i * 3 + 1, none⟩ = some (.int .i64 l[i].2.1) ∧ w.cell? ⟨b, off + i * 3 + 2, none⟩ = some (.int .i64 l[i].2.2) ∧ stpR l[i] := by
  obtain ⟨b, off, ha, hb, _, vs, _, hv, hr⟩ := h.at1 i hi
  obtain ⟨us, ts, rfl, ⟨rfl, h1⟩, us', ts', rfl, ⟨rfl, h2⟩, ⟨rfl, h3⟩⟩ := hr
  have h0 := hv 0 (by simp)
  have h4 := hv 1 (by simp)
  have h5 := hv 2 (by simp)
  simp [stpE, pairE, intE] at h0 h4 h5
  exact ⟨b, off, ha, hb, h0, h4, h5, h1, h2, h3⟩

theorem okSteps_snoc {G : Int} : ∀ (p : List Stp) (n : Nat) (x : Stp), okSteps G n (p ++ [x]) = (okSteps G n p && rightB G (n + p.length) x)
  | [], n, x => by simp [okSteps]
  | y :: p, n, x => by
    rw [List.cons_append, okSteps, okSteps, okSteps_snoc p (n + 1) x, Bool.and_assoc, List.length_cons, show n + 1 + p.length = n + (p.length + 1) by omega]
theorem okSteps_take {G : Int} : ∀ (p : List Stp) (n k : Nat), okSteps G n p = true → okSteps G n (p.take k) = true
  | [], _, _, _ => by simp [okSteps]
  | x :: p, n, 0, _ => rfl
  | x :: p, n, k + 1, h => by
    simp only [okSteps, Bool.and_eq_true] at h
    rw [List.take_succ_cons, okSteps, Bool.and_eq_true]
    exact ⟨h.1, okSteps_take p (n + 1) k h.2⟩
end Go.Proofs.YtljkojpooajlhaaGreatDoor

/- Walks: ValidProof (both), SameSteps. -/
namespace Go.Proofs.YtljkojpooajlhaaGreatDoor
open Go Go.RowKit Go.Maps

end Go.Proofs.YtljkojpooajlhaaGreatDoor

/- Walks: a copy of a list of steps. -/
namespace Go.Proofs.YtljkojpooajlhaaGreatDoor
open Go Go.RowKit Go.Maps

end Go.Proofs.YtljkojpooajlhaaGreatDoor

/- Walks: kernel.Joined. -/
namespace Go.Proofs.YtljkojpooajlhaaGreatDoor
open Go Go.RowKit Go.Maps

theorem stp_R {S : Nat → Prop} {w : World} {y : Stp} (h : stpR y) : stpE.R S w [.int .i64 y.1, .int .i64 y.2.1, .int .i64 y.2.2] y := ⟨[_], [_, _], rfl, ⟨rfl, h.1⟩, [_], [_], rfl, ⟨rfl, h.2.1⟩, rfl, h.2.2⟩
theorem okSteps_at {G : Int} {q : List Stp} (h : okSteps G 0 q = true) (k : Nat) (hk : k < q.length) : rightB G k q[k] = true := by
  have h1 := okSteps_take q 0 (k + 1) h
  rw [List.take_succ_eq_append_getElem hk, okSteps_snoc, Bool.and_eq_true, List.length_take, Nat.min_eq_left (by omega), Nat.zero_add] at h1
  exact h1.2
end Go.Proofs.YtljkojpooajlhaaGreatDoor

/- Walks: the closure of kernel.Untree that puts a step where it stands. -/
namespace Go.Proofs.YtljkojpooajlhaaGreatDoor
open Go Go.RowKit Go.Maps Go.WideMaps

/-- a list in a box gets one element more: what is left alone -/
theorem box_push2 {α : Type} {E : Enc α} {P : Program} {W : World} {B0 base B : Nat} {T e : TypeId} {v : Value} {l : List α} (hv : Boxed W B0 T v) (ho : OwnL E (fun _ => False) W base e v l) (hT : T ≠ e) (hbs : base ≤ W.heap.size) (hBb : B ≤ base) (hB0 : B ≤ B0)
    {t ty : TypeId} {z : Value} {bytes : Nat} (ht : P.underlying t = some (.slice e)) (hinfo : (P.info? e).map (fun i => (i.zero, i.size, i.bytes)) = some (some z, E.size, bytes)) (hzs : z.cells.size = E.size)
    {vs : List Value} {x : α} (hR : E.R (Off (fun _ => False) v) W vs x) (hlen : (l.length + 1) * bytes ≤ 140737488355328) (hmax : l.length + 1 ≤ big) :
    ∃ a' cap W2, RowKit.Hid ((Builtin.append_ #[t, t] ty #[v, .slice (some ⟨W.heap.size, 0, none⟩) 1 1]).run P (W.alloc (.cells vs.toArray e)) = .ok (.slice a' (l.length + 1) cap) W2) ∧
      RowKit.Hid (W2.cell? ⟨B0, 0, none⟩ = some v) ∧ RowKit.Hid (W2.frozen? ⟨B0, 0, none⟩ = false) ∧
      RowKit.Hid (Boxed (W2.setCell ⟨B0, 0, none⟩ (.slice a' (l.length + 1) cap)) B0 T (.slice a' (l.length + 1) cap)) ∧ RowKit.Hid (OwnL E (fun _ => False) (W2.setCell ⟨B0, 0, none⟩ (.slice a' (l.length + 1) cap)) base e (.slice a' (l.length + 1) cap) (l ++ [x])) ∧
      RowKit.Hid (∀ k, k < W.heap.size → k ≠ B0 → v.ownBlock ≠ some k → (W2.setCell ⟨B0, 0, none⟩ (.slice a' (l.length + 1) cap)).heap[k]? = W.heap[k]?) ∧ RowKit.Hid (Below B W (W2.setCell ⟨B0, 0, none⟩ (.slice a' (l.length + 1) cap))) ∧
      RowKit.Hid ((Value.slice a' (l.length + 1) cap).ownBlock = v.ownBlock ∨ ∃ k, (Value.slice a' (l.length + 1) cap).ownBlock = some k ∧ W.heap.size ≤ k) ∧
      RowKit.Hid (∀ k, k < W.heap.size → v.ownBlock ≠ some k → W2.heap[k]? = W.heap[k]?) := by
  obtain ⟨v', W2, hrun, ho2, hg, hat⟩ := ho.push (P := P) (t := t) (ty := ty) ht hinfo hzs hR hlen hmax hbs
  obtain ⟨a', cap, rfl, -⟩ := ho2.sl
  rw [List.length_append, List.length_singleton] at hrun ho2 hat
  have hnr : v.ownBlock ≠ some B0 := ho.notBox hv hT
  have hv2 : Boxed W2 B0 T v := hv.kept hg (fun e => hnr e.symm)
  have hg3 : W2.grownBy (W2.setCell ⟨B0, 0, none⟩ (.slice a' (l.length + 1) cap)) (some B0) := grownBy_setCell' _ _ _
  have hnr2 := ho2.notBox hv2 hT
  have ho3 := ho2.grown hg3 (fun k hk e => by cases e; exact hnr2 hk) (fun b hb _ => hb.elim)
  have hfr : ∀ k, k < W.heap.size → v.ownBlock ≠ some k → W2.heap[k]? = W.heap[k]? := fun k hk hr => hg.block k hk (fun e => hr e.symm)
  refine ⟨a', cap, W2, Lib.hid hrun, Lib.hid hv2.cell, Lib.hid hv2.frozen, Lib.hid (hv2.set _), Lib.hid ho3, Lib.hid (fun k hk h0 hr => ?_), Lib.hid ?_, Lib.hid hat, Lib.hid hfr⟩
  · exact (hg3.block k (Nat.lt_of_lt_of_le hk hg.size) (fun e => h0 (by injection e))).trans (hfr k hk hr)
  · exact ((Below.refl B W).grown hg (Nat.le_trans hBb hbs) (fun k e => Nat.le_trans hBb (ho.lt k e).1)).grown hg3 (Nat.le_trans (Nat.le_trans hBb hbs) hg.size) (fun k e => by cases e; exact hB0)

abbrev StK : Type := {x : Stp // stpR x}
theorem typesPosS : ∃ m, Tryz.prog.types.size = m + 1 := ⟨Tryz.prog.types.size - 1, by have : 0 < Tryz.prog.types.size := of_decide_eq_true (by kernel_rfl); omega⟩
def atF (p : List Stp) (x : StK) : Option Value := if x.1 ∈ p then some (.int .i64 (p.idxOf x.1 : Nat)) else none
theorem atF_new {p : List Stp} {x : StK} (h : x.1 ∉ p) : (fun z => if z = x then some (.int .i64 (p.length : Nat)) else atF p z) = atF (p ++ [x.1]) := by
  funext z
  unfold atF
  by_cases hz : z = x
  · subst hz
    rw [if_pos rfl, if_pos (by simp), List.idxOf_append, if_neg h]; simp
  · rw [if_neg hz]
    have hne : z.1 ≠ x.1 := fun e => hz (Subtype.ext e)
    by_cases hm : z.1 ∈ p
    · rw [if_pos hm, if_pos (by simp [hm]), List.idxOf_append, if_pos hm]
    · rw [if_neg hm, if_neg (by simp [hm, hne])]
section
variable {B : Nat} {W W' : World} {q p : List Stp} {dn op : List Int} {vO : Value}
theorem own_types {E F : Type} {A : Enc E} {C : Enc F} {e f : TypeId} {v u : Value} {l : List E} {m : List F} {S T : Nat → Prop} {b b' : Nat} (h : OwnL A S W b e v l) (k : OwnL C T W b' f u m) (hef : e ≠ f) : ∀ j, v.ownBlock = some j → u.ownBlock ≠ some j := fun j hj hk => by
  obtain ⟨c1, e1⟩ := OwnL.rowCells h j hj
  obtain ⟨c2, e2⟩ := OwnL.rowCells k j hk
  rw [e1] at e2
  simp only [Option.some.injEq, Obj.cells.injEq] at e2
  exact hef e2.2.1
end
theorem atF_old {p : List Stp} {x : StK} (h : x.1 ∈ p) : atF p x = some (.int .i64 (p.idxOf x.1 : Nat)) := by unfold atF; rw [if_pos h]
theorem atF_last {p : List Stp} {x : StK} (h : x.1 ∉ p) : atF (p ++ [x.1]) x = some (.int .i64 (p.length : Nat)) := by
  rw [← atF_new h]; simp
end Go.Proofs.YtljkojpooajlhaaGreatDoor

/- Walks: kernel.Untree. -/
namespace Go.Proofs.YtljkojpooajlhaaGreatDoor
open Go Go.RowKit Go.Maps Go.WideMaps

theorem OwnI.takeN {w : World} {base g n cap k : Nat} {l : List Int} (h : OwnI w base (.slice (some ⟨g, 0, none⟩) n cap) l) (hn : n = l.length) (hk : k ≤ n) : OwnI w base (.slice (some ⟨g, 0, none⟩) k cap) (l.take k) := by
  subst hn
  obtain ⟨ho, hr⟩ := OwnL.row h
  refine OwnL.of_row ?_ (fun x hx => hr x (List.mem_of_mem_take hx))
  have hlk : (l.take k).length = k := by rw [List.length_take]; omega
  rw [hlk, List.map_take]
  obtain ⟨e1, e2⟩ := ho
  refine ⟨by rw [List.length_take, e1]; omega, ?_⟩
  rcases e2 with ⟨e2, -⟩ | ⟨g', cap', cur, e3, e4, e5, e6, e7, e8, e9⟩
  · cases e2
  · cases e3
    refine .inr ⟨g, cap, cur, rfl, e4, e5, by omega, e7, e8, ?_⟩
    rw [← e9, List.take_take, Nat.mul_one, Nat.mul_one, Nat.min_eq_left hk]
def opOf : List (Option Nat) → List Int
  | [] => []
  | none :: st => opOf st ++ [2]
  | some _ :: st => opOf st ++ [1]
def dnOf : List (Option Nat) → List Int
  | [] => []
  | none :: st => dnOf st
  | some m :: st => dnOf st ++ [(m : Int)]
def dnW (st : List (Option Nat)) : Option Nat → List Int
  | none => dnOf st
  | some k => dnOf st ++ [(k : Int)]
theorem opOf_len : ∀ st : List (Option Nat), (opOf st).length = st.length
  | [] => rfl
  | none :: st => by rw [opOf, List.length_append, opOf_len st]; rfl
  | some _ :: st => by rw [opOf, List.length_append, opOf_len st]; rfl
theorem dnOf_len : ∀ st : List (Option Nat), (dnOf st).length ≤ st.length
  | [] => Nat.le_refl _
  | none :: st => by have := dnOf_len st; rw [dnOf, List.length_cons]; omega
  | some _ :: st => by have := dnOf_len st; rw [dnOf, List.length_append, List.length_cons]; simp; omega
section
variable {B : Nat} {W : World} {q p : List Stp} {dn op : List Int} {vO : Value}
end
theorem atoi2 {a b : UInt8} (ha : isDig a = true) (hb : isDig b = true) {s : ByteArray} (hs : s.data.toList = [a, b]) : Lib.atoi s.data.toList = some (numOf a b : Int) := by
  simp only [isDig, Bool.and_eq_true, decide_eq_true_eq] at ha hb
  have h45 : (a == 45) = false := by rw [beq_eq_false_iff_ne]; intro e; rw [e] at ha; simp at ha
  have h43 : (a == 43) = false := by rw [beq_eq_false_iff_ne]; intro e; rw [e] at ha; simp at ha
  rw [hs, Lib.atoi, h45, h43]
  simp only [Bool.false_eq_true, if_false, Lib.decNat, List.isEmpty_cons, Lib.decFrom, Lib.digitVal, if_pos ha, if_pos hb, Option.map_some]
  unfold numOf
  congr 2; omega
def lenV (v : Value) : Nat := match v with | .slice _ n _ => n | _ => 0
theorem below4 (w : World) (o1 o2 o3 o4 : Obj) : Below w.heap.size w ((((w.alloc o1).alloc o2).alloc o3).alloc o4) := bcall (below3 w o1 o2 o3) (below1 _ o4)
theorem drop_cons {t : ByteArray} {k : Nat} (h : k < t.size) : t.data.toList.drop k = t[k] :: t.data.toList.drop (k + 1) := by
  rw [List.drop_eq_getElem_cons (by simpa using h)]; rfl
theorem take_cons {t : ByteArray} {k : Nat} (h : k < t.size) : t.data.toList.take (k + 1) = t.data.toList.take k ++ [t[k]] := by
  rw [List.take_succ_eq_append_getElem (by simpa using h)]; rfl
theorem u8_int_eq {b : UInt8} {n : Nat} (hn : n < 256) : ((b.toNat : Int) == (n : Int)) = decide (b = UInt8.ofNat n) := by
  rw [Bool.eq_iff_iff]
  simp only [beq_iff_eq, decide_eq_true_eq]
  constructor
  · intro h; have : b.toNat = n := by omega
    rw [← this]; simp
  · intro h; rw [h, UInt8.toNat_ofNat_of_lt' hn]
theorem extract2 {t : ByteArray} {k : Nat} (h : k + 3 ≤ t.size) : (t.extract (k + 1) (k + 3)).data.toList = [t[k + 1], t[k + 2]] ∧ (t.extract (k + 1) (k + 3)).size ≤ 18 := by
  have hs : (t.extract (k + 1) (k + 3)).size = 2 := by rw [ByteArray.size_extract]; omega
  refine ⟨?_, by omega⟩
  apply List.ext_getElem
  · rw [Array.length_toList]; exact hs
  · intro i h1 h2
    have hi : i < (t.extract (k + 1) (k + 3)).size := by rw [Array.length_toList] at h1; exact h1
    have e : (t.extract (k + 1) (k + 3)).data.toList[i] = (t.extract (k + 1) (k + 3))[i] := rfl
    rw [e, ByteArray.getElem_extract]
    match i, hi with
    | 0, _ => rfl
    | 1, _ => rfl
    | n + 2, hi => omega
theorem bcall' {B : Nat} {w w1 w2 w3 : World} (h1 : Below B w w1) (h2 : Below w1.heap.size w1 w2) (h3 : Below B w2 w3) (hB : B ≤ w1.heap.size) : Below B w w3 := h1.trans ((h2.mono hB).trans h3)
theorem take_size_le (t : ByteArray) (k : Nat) : (t.data.toList.take k).length ≤ t.size := by
  rw [List.length_take, Array.length_toList]; exact Nat.min_le_right _ _
theorem numOf_le {a b : UInt8} (ha : isDig a = true) (hb : isDig b = true) : numOf a b < 100 := by
  simp only [isDig, Bool.and_eq_true, decide_eq_true_eq] at ha hb
  unfold numOf; omega
end Go.Proofs.YtljkojpooajlhaaGreatDoor

/- Walks: lemmaryref03.OneToOne, in, Image; few, small of the laws on tongues. -/
namespace Go.Proofs.YtljkojpooajlhaaGreatDoor
open Go Go.RowKit Go.Maps

def roRel1 (d : Ways) (w : World) (i : Value) (wr : World) : Prop := ∃ k : Nat, i = .int .i64 k ∧ k ≤ d.length ∧ (tosD (d.take k)).Nodup ∧ Drew w wr
def roRel2 (d : Ways) (i : Nat) (w : World) (j : Value) (wr : World) : Prop := ∃ k : Nat, j = .int .i64 k ∧ k ≤ i ∧ (∀ (m : Nat) (h : m < d.length) (hi : i < d.length), m < k → d[m].1 ≠ d[i].1) ∧ Drew w wr
theorem nodup_snoc {l : List Int} {x : Int} (h : l.Nodup) (hx : x ∉ l) : (l ++ [x]).Nodup := by
  rw [List.nodup_append]
  exact ⟨h, by simp, fun a ha b hb => by rw [List.mem_singleton] at hb; rw [hb]; exact fun e => hx (by rw [← e]; exact ha)⟩
def rinnRel (d : Ways) (x : Int) (w : World) (i : Value) (wr : World) : Prop := ∃ k : Nat, i = .int .i64 k ∧ k ≤ d.length ∧ x ∉ tosD (d.take k) ∧ w = wr
def rimgRel (d : Ways) (n : Nat) (w : World) (out i : Value) (wr : World) : Prop := ∃ k : Nat, i = .int .i64 k ∧ k ≤ n ∧ OwnI wr w.heap.size out (imgK d k) ∧ Below w.heap.size w wr
theorem imgK_len (d : Ways) (n : Nat) : (imgK d n).length ≤ n := by unfold imgK; exact Nat.le_trans (List.length_filter_le _ _) (by rw [ascL_len]; exact Nat.le_refl _)
end Go.Proofs.YtljkojpooajlhaaGreatDoor

/- Walks: the closure of kernel.Tree, which writes a step's tree to a builder. -/
namespace Go.Proofs.YtljkojpooajlhaaGreatDoor
open Go Go.RowKit

theorem tabAt : ∃ g, Tryz.prog.globalNamed tabName = some g := Option.isSome_iff_exists.1 (by kernel_rfl)
theorem TabW.below {w w' : World} (h : TabW w) (hb : Below w.heap.size w w') : TabW w' := by
  obtain ⟨g, hgn⟩ := tabAt
  unfold TabW Lib.TabIs World.var? at h ⊢
  rw [hgn] at h ⊢
  simp only [Option.bind_some] at h ⊢
  have hlt : g < w.heap.size := by
    rcases Nat.lt_or_ge g w.heap.size with h' | h'
    · exact h'
    · rw [Array.getElem?_eq_none h'] at h; cases h
  rw [hb.block g hlt]
  exact h
theorem itoa3_digs : ∀ n : Nat, n < 60 → Lib.itoa ((100 + n : Nat) : Int) = 49 :: digs n := by
  intro n hn
  rw [Lib.itoa_nonneg]
  have h1 : ∀ u : Nat, u < 10 → Lib.decDigits u = [UInt8.ofNat (48 + u)] := fun u hu => by rw [Lib.decDigits, dif_pos hu]
  have h2 : ∀ u : Nat, ¬ u < 10 → Lib.decDigits u = Lib.decDigits (u / 10) ++ [UInt8.ofNat (48 + u % 10)] := fun u hu => by rw [Lib.decDigits, dif_neg hu]
  rw [h2 _ (by omega), h2 _ (by omega), h1 _ (by omega)]
  unfold digs
  have e1 : (100 + n) / 10 / 10 = 1 := by omega
  have e2 : (100 + n) / 10 % 10 = n / 10 := by omega
  have e3 : (100 + n) % 10 = n % 10 := by omega
  rw [e1, e2, e3]
  rfl
theorem cite_text (n : Nat) : (⟨(49 :: digs n).toArray⟩ : ByteArray).size = 3 := rfl
theorem cite_bytes (n : Nat) : ((⟨#[103]⟩ : ByteArray) ++ (⟨(49 :: digs n).toArray⟩ : ByteArray).extract 1 3).data.toList = 103 :: digs n := by
  rw [ByteArray.data_append, ByteArray.data_extract]
  simp [digs]

section
variable {wI W W' : World} {bs b bf : Nat} {l l' : List UInt8}
end
end Go.Proofs.YtljkojpooajlhaaGreatDoor

/- Walks: the reference's composed, Composed. -/
namespace Go.Proofs.YtljkojpooajlhaaGreatDoor
open Go Go.RowKit Go.Maps

end Go.Proofs.YtljkojpooajlhaaGreatDoor

/- Walks: kernel.Tree. -/
namespace Go.Proofs.YtljkojpooajlhaaGreatDoor
open Go Go.RowKit

def retTx (r : List UInt8 × Int) (w : World) (e : Ending) (w' : World) : Prop := e = .returned (.tuple #[.string ⟨r.1.toArray⟩, .int .i64 r.2]) ∧ Below w.heap.size w w'
def minT (t : Tr) : Nat := min t.text.length 65537
def lensT (ts : List Tr) : List Int := ts.map fun t => (minT t : Int)
theorem minT_d (a b : Tr) : minT (.d a b) = min (1 + minT a + minT b) 65537 := by unfold minT; simp only [Tr.text, List.length_cons, List.length_append]; omega
theorem minT_g (n : Nat) : minT (.g n) = 3 := rfl
theorem minT_le (t : Tr) : minT t ≤ 65537 := Nat.min_le_right _ _
theorem lensT_len (ts : List Tr) (i : Nat) (h : i ≤ ts.length) : (lensT (ts.take i)).length = i := by unfold lensT; rw [List.length_map, List.length_take]; omega
theorem lensT_succ {ts : List Tr} {i : Nat} (h : i < ts.length) : lensT (ts.take (i + 1)) = lensT (ts.take i) ++ [(minT (ts.getD i (.g 0)) : Int)] := by
  unfold lensT
  rw [List.take_succ_eq_append_getElem h, List.map_append, List.getD_eq_getElem?_getD, List.getElem?_eq_getElem h]
  rfl
theorem lensT_get {ts : List Tr} {i m : Nat} (h : i ≤ ts.length) (hm : m < i) (hl : m < (lensT (ts.take i)).length) : (lensT (ts.take i))[m] = (minT (ts.getD m (.g 0)) : Int) := by
  have e : (lensT (ts.take i))[m]? = some (minT (ts.getD m (.g 0)) : Int) := by
    unfold lensT
    rw [List.getElem?_map, List.getElem?_take_of_lt hm, List.getD_eq_getElem?_getD, List.getElem?_eq_getElem (by omega)]
    rfl
  rw [List.getElem?_eq_getElem hl] at e
  exact Option.some.inj e
def treI (p : List Stp) (w1 : World) (vT vL iV : Value) (wr : World) : Prop :=
  ∃ i : Nat, iV = .int .i64 i ∧ i ≤ p.length ∧ OwnI wr w1.heap.size vL (lensT ((trees p).take i)) ∧ Below w1.heap.size w1 wr ∧ (∀ j, i = j + 1 → vT = .int .i64 (minT ((trees p).getD j (.g 0)) : Nat))
theorem proofB_parts {G : Int} {p : List Stp} (h : proofB G p = true) : 0 ≤ G ∧ G ≤ 60 ∧ 1 ≤ p.length ∧ p.length ≤ 60 ∧ okSteps G 0 p = true := by
  simp only [proofB, validP, Bool.and_eq_true, decide_eq_true_eq] at h
  exact ⟨h.1.1, h.1.2, h.2.2.1, h.2.2.2, h.2.1⟩
end Go.Proofs.YtljkojpooajlhaaGreatDoor

/- Walks: lemmaryref04.sums with the lengths of texts. -/
namespace Go.Proofs.YtljkojpooajlhaaGreatDoor
open Go Go.RowKit

def sumI (p : List Stp) (w : World) (vL iV : Value) (wr : World) : Prop :=
  ∃ i : Nat, iV = .int .i64 i ∧ i ≤ p.length ∧ OwnI wr w.heap.size vL (lensT ((trees p).take i)) ∧ Below w.heap.size w wr
end Go.Proofs.YtljkojpooajlhaaGreatDoor

/- Walks: lemmaryref04.two. -/
namespace Go.Proofs.YtljkojpooajlhaaGreatDoor
open Go Go.RowKit

def tens : ByteArray := ⟨#[48, 49, 50, 51, 52, 53, 54, 55, 56, 57]⟩
theorem tens_at : ∀ a : Nat, a < 10 → (tens.extract a (a + 1)).data.toList = [UInt8.ofNat (48 + a)] := by decide
theorem two_bytes (n : Nat) (hn : n < 100) : (tens.extract (n / 10) (n / 10 + 1) ++ tens.extract (n % 10) (n % 10 + 1)).data.toList = digs n := by
  rw [ByteArray.data_append, Array.toList_append, tens_at _ (by omega), tens_at _ (by omega)]
  rfl
end Go.Proofs.YtljkojpooajlhaaGreatDoor

/- Walks: lemmaryref01.Digits, Number. -/
namespace Go.Proofs.YtljkojpooajlhaaGreatDoor
open Go Go.RowKit

theorem dec_big {n : Nat} (h : ¬ n < 10) : Lib.decDigits n = Lib.decDigits (n / 10) ++ [UInt8.ofNat (48 + n % 10)] := by rw [Lib.decDigits, dif_neg h]
theorem dec_lenR {n : Nat} (h : n < 9223372036854775808) : (Lib.decDigits n).length ≤ 20 := by rw [Lib.decDigits_length]; exact Lib.nDigits_le20 n (by omega)
def dgR (N : Nat) (w : World) (nV sV : Value) (wr : World) : Prop :=
  ∃ (n : Nat) (s : ByteArray), nV = .int .i64 n ∧ sV = .string s ∧ Lib.decDigits N = Lib.decDigits n ++ s.data.toList ∧ n ≤ N ∧ wr = w
set_option maxRecDepth 100000 in
set_option maxHeartbeats 2000000 in
theorem digN_any (N : Nat) (hN : N < 9223372036854775808) (w : World) :
    Calls Tryz.prog 28 #[.int .i64 N] w fun e w' => e = .returned (.string ⟨(Lib.decDigits N).toArray⟩) ∧ w = w' := by
  have hlen := dec_lenR hN
  have h0 : ((N : Int) < 0) = False := eq_false (by omega)
  go_enter Tryz.func28, Tryz.ntmps28
  go_wp2_with fail
  go_loopw [0, 3] (fun nV sV wr => dgR N w nV sV wr) (fun nV _ _ => (intOf nV).toNat)
  case atStart => exact ⟨N, ByteArray.empty, rfl, rfl, by simp, Nat.le_refl _, rfl⟩
  case round =>
    obtain ⟨n, s, rfl, rfl, hd, hn, hw⟩ := hrel
    subst hw
    have hsl : s.size ≤ 20 := by
      have := congrArg List.length hd
      rw [List.length_append] at this
      have h3 : s.data.toList.length = s.data.size := Array.length_toList
      have h2 : s.size = s.data.size := rfl
      omega
    have e1 : Int.tdiv (n : Int) 10 = ((n / 10 : Nat) : Int) := rfl
    have e2 : Int.tmod (n : Int) 10 = ((n % 10 : Nat) : Int) := rfl
    by_cases h9 : 9 < n
    · have h9' : ((9 : Int) < (n : Int)) = True := eq_true (by omega)
      obtain ⟨r, hr⟩ : ∃ r, n % 10 = r := ⟨_, rfl⟩
      obtain ⟨q, hq⟩ : ∃ q, n / 10 = q := ⟨_, rfl⟩
      have hr9 : r < 10 := by omega
      have hq9 : q < n := by omega
      have hdn := dec_big (n := n) (by omega)
      rw [hr, hq] at hdn
      rw [hq] at e1
      rw [hr] at e2
      obtain ⟨D, hD⟩ : ∃ D, tens.extract r (r + 1) = D := ⟨_, rfl⟩
      have hDb : D.data.toList = [UInt8.ofNat (48 + r)] := by rw [← hD]; exact tens_at r hr9
      have hDs : D.size = 1 := by have : D.size = D.data.toList.length := by rw [Array.length_toList]; rfl
                                  rw [this, hDb]; rfl
      have hsz : (9223372036854775807 < (tens.extract r (r + 1)).size + s.size) = False := by rw [hD]; exact eq_false (by omega)
      have hrel : dgR N wr (.int .i64 q) (.string (tens.extract r (r + 1) ++ s)) wr := ⟨q, _, rfl, rfl, by rw [hd, hdn, hD, ByteArray.data_append, Array.toList_append, hDb]; simp, by omega, rfl⟩
      have hrelH := Lib.hid hrel
      have hqm := Lib.hid hq9
      unfold tens at hrelH hsz
      clear hrel hd hdn hr hq hD hDb hDs
      go_wp2_with fail
      all_goals go_roundw
      all_goals first | exact hrelH.out | (have := hqm.out; simp [intOf]; omega)
    · have h9' : ((9 : Int) < (n : Int)) = False := eq_false (by omega)
      have hn9 : n < 10 := by omega
      obtain ⟨D, hD⟩ : ∃ D, tens.extract n (n + 1) = D := ⟨_, rfl⟩
      have hDb : D.data.toList = [UInt8.ofNat (48 + n)] := by rw [← hD]; exact tens_at n hn9
      have hDs : D.size = 1 := by have : D.size = D.data.toList.length := by rw [Array.length_toList]; rfl
                                  rw [this, hDb]; rfl
      have hsz : (9223372036854775807 < (tens.extract n (n + 1)).size + s.size) = False := by rw [hD]; exact eq_false (by omega)
      have hfin : tens.extract n (n + 1) ++ s = ⟨(Lib.decDigits N).toArray⟩ := by
        refine ByteArray.ext (Array.toList_inj.1 ?_)
        rw [hd, Lib.decDigits_one hn9, hD, ByteArray.data_append, Array.toList_append, hDb]
      have hfinH := Lib.hid hfin
      unfold tens at hfinH hsz
      clear hfin hd hD hDb hDs
      go_wp2_with fail
      all_goals go_ret
      all_goals exact ⟨by rw [hfinH.out]; rfl, rfl⟩
set_option maxRecDepth 100000 in
set_option maxHeartbeats 1000000 in
theorem Digits_any (n : Int) (h0 : -9223372036854775808 < n) (h1 : n ≤ 9223372036854775807) (w : World) :
    Calls Tryz.prog 28 #[.int .i64 n] w fun e w' => e = .returned (.string ⟨(Lib.itoa n).toArray⟩) ∧ w = w' := by
  by_cases hn : n < 0
  · have hit : Lib.itoa n = 45 :: Lib.decDigits n.natAbs := by unfold Lib.itoa; rw [if_pos hn]
    obtain ⟨m, hm⟩ : ∃ m : Nat, n.natAbs = m := ⟨_, rfl⟩
    rw [hm] at hit
    have e1 : IntKind.i64.wrap (-n) = (m : Int) := by rw [IntWalk.i64_in _ (by omega)]; omega
    have hn' : (n < 0) = True := eq_true hn
    have hne : (n == (m : Int)) = false := by rw [beq_eq_false_iff_ne]; omega
    have hlen := dec_lenR (n := m) (by omega)
    have ct := digN_any m (by omega) w
    obtain ⟨s, hs⟩ : ∃ s : ByteArray, (⟨(Lib.decDigits m).toArray⟩ : ByteArray) = s := ⟨_, rfl⟩
    have hss : s.size ≤ 20 := by rw [← hs]; simpa [ByteArray.size] using hlen
    rw [hs] at ct
    have hsz : (9223372036854775807 < 1 + s.size) = False := eq_false (by omega)
    have hfin : (⟨#[45]⟩ : ByteArray) ++ s = ⟨(Lib.itoa n).toArray⟩ := by
      refine ByteArray.ext (Array.toList_inj.1 ?_)
      rw [hit, ← hs, ByteArray.data_append, Array.toList_append]; rfl
    have ctH := Lib.hid ct
    have hfinH := Lib.hid hfin
    clear ct hfin hs hit hm hlen hn
    go_enter Tryz.func28, Tryz.ntmps28
    go_wp2_with fail
    refine ctH.out.mono ?_
    rintro e w1 ⟨rfl, rfl⟩
    go_wp2_with fail
    go_ret
    exact ⟨by rw [hfinH.out]; rfl, rfl⟩
  · obtain ⟨m, rfl⟩ : ∃ m : Nat, n = m := ⟨n.toNat, by omega⟩
    have hit : Lib.itoa (m : Int) = Lib.decDigits m := by unfold Lib.itoa; rw [if_neg hn]; simp
    rw [hit]
    exact digN_any m (by omega) w
/-! ### Number -/
def nbR (b : ByteArray) (w : World) (nV iV : Value) (wr : World) : Prop :=
  ∃ (k m : Nat), iV = .int .i64 k ∧ nV = .int .i64 m ∧ k ≤ b.size ∧ Lib.decFrom 0 (b.data.toList.take k) = some m ∧ m < 10 ^ k ∧ wr = w
theorem decFrom_bad : ∀ (l : List UInt8) (acc k : Nat) (b : UInt8), l[k]? = some b → Lib.digitVal b = none → Lib.decFrom acc l = none
  | [], _, _, _, h, _ => by simp at h
  | c :: l, acc, 0, b, h, hb => by
    simp at h; subst h
    rw [Lib.decFrom, hb]
  | c :: l, acc, k + 1, b, h, hb => by
    rw [Lib.decFrom]
    cases hc : Lib.digitVal c with
    | none => rfl
    | some d => exact decFrom_bad l _ k b (by simpa using h) hb
theorem digitVal_yes {b : UInt8} (h0 : 48 ≤ b.toNat) (h1 : b.toNat ≤ 57) : Lib.digitVal b = some (b.toNat - 48) := by unfold Lib.digitVal; rw [if_pos ⟨h0, h1⟩]
theorem digitVal_no {b : UInt8} (h : b.toNat < 48 ∨ 57 < b.toNat) : Lib.digitVal b = none := by unfold Lib.digitVal; rw [if_neg (by omega)]
theorem data_get {b : ByteArray} {k : Nat} (h : k < b.size) : b.data.toList[k]? = some (b[k]'h) := by
  have : b.size = b.data.size := rfl
  rw [Array.getElem?_toList, Array.getElem?_eq_getElem (by omega)]; rfl
/-- the number of what stands behind the sign -/
def numOfB (neg : Bool) (m : Nat) : Int := if neg = true then -(m : Int) else m
def retN (l : List UInt8) (w : World) (e : Ending) (w' : World) : Prop := ∃ n : Int, e = .returned (.tuple #[.int .i64 n, .bool (numR l).isSome]) ∧ (∀ m, numR l = some m → n = m) ∧ inRange n ∧ w = w'
end Go.Proofs.YtljkojpooajlhaaGreatDoor

/- Walks: tongue.Same; Symmetric and Order of both sides. -/
namespace Go.Proofs.YtljkojpooajlhaaGreatDoor
open Go Go.RowKit Go.Maps

set_option maxHeartbeats 1000000 in
theorem SameF_any {S1 S2 : Nat → Prop} (T1 T2 : Int) (a1 a2 : Option Addr) (c1 c2 : Nat) (L1 L2 : List Int) (w : World) (h1 : Ints S1 w a1 c1 L1) (h2 : Ints S2 w a2 c2 L2) :
    Calls Tryz.prog 25 #[.agg #[.int .i64 T1, .slice a1 L1.length c1], .agg #[.int .i64 T2, .slice a2 L2.length c2]] w fun e w' => e = .returned (.bool ((T1 == T2) && decide (L1 = L2))) ∧ Below w.heap.size w w' := by
  have m1 := h1.le
  have m2 := h2.le
  obtain ⟨W1, hW1⟩ : ∃ W1, w.alloc (.cells #[.int .i64 T1, .slice a1 L1.length c1] 33) = W1 := ⟨_, rfl⟩
  have hb1 : Below w.heap.size w W1 := by rw [← hW1]; exact below1 _ _
  have p0 : W1.cell? ⟨w.heap.size, 0, none⟩ = some (.int .i64 T1) := by rw [← hW1]; clear hW1; go_simp
  have p1 : W1.cell? ⟨w.heap.size, 1, none⟩ = some (.slice a1 L1.length c1) := by rw [← hW1]; clear hW1; go_simp
  obtain ⟨W2, hW2⟩ : ∃ W2, W1.alloc (.cells #[.int .i64 T2, .slice a2 L2.length c2] 33) = W2 := ⟨_, rfl⟩
  have hb2 : Below W1.heap.size W1 W2 := by rw [← hW2]; exact below1 _ _
  have r0 := cell_later hb2 p0
  have r1 := cell_later hb2 p1
  have s0 : W2.cell? ⟨W1.heap.size, 0, none⟩ = some (.int .i64 T2) := by rw [← hW2]; clear hW2; go_simp
  have s1 : W2.cell? ⟨W1.heap.size, 1, none⟩ = some (.slice a2 L2.length c2) := by rw [← hW2]; clear hW2; go_simp
  have hB := bcall hb1 hb2
  have ce := EqualI_any a1 a2 c1 c2 L1 L2 W2 (h1.below hB) (h2.below hB)
  obtain ⟨z, hz⟩ : ∃ z, decide (L1 = L2) = z := ⟨_, rfl⟩
  rw [hz] at ce ⊢
  have ceH := Lib.hid ce
  have hBH := Lib.hid hB
  clear h1 h2 hb1 hb2 hB ce hz p0 p1
  cases hT : (T1 == T2) with
  | false =>
    go_enter Tryz.func25, Tryz.ntmps25
    go_wp2_with fail
    go_ret
    exact ⟨by simp, hBH.out⟩
  | true =>
    go_enter Tryz.func25, Tryz.ntmps25
    go_wp2_with fail
    refine ceH.out.mono ?_
    rintro e w3 ⟨rfl, hd3⟩
    go_wp2_with fail
    go_ret
    exact ⟨by simp, bcall hBH.out (hd3.below _)⟩
def seRel (d e : Ways) (w : World) (i : Value) (wr : World) : Prop := ∃ k : Nat, i = .int .i64 k ∧ k ≤ d.length ∧ d.take k = e.take k ∧ Below w.heap.size w wr
set_option maxHeartbeats 2000000 in
theorem EqualWy_any {S1 S2 : Nat → Prop} (a1 a2 : Option Addr) (c1 c2 : Nat) (d e : Ways) (w : World) (h1 : WaysL S1 w a1 c1 d) (h2 : WaysL S2 w a2 c2 e) :
    Calls Tryz.prog 24 #[.slice a1 d.length c1, .slice a2 e.length c2, .func (.func 25) #[] #[]] w fun r w' => r = .returned (.bool (decide (d = e))) ∧ Below w.heap.size w w' := by
  have m1 := h1.le
  have m2 := h2.le
  by_cases hl : d.length = e.length
  case neg =>
    have hb := int_ne hl
    have hR := Lib.hid (show decide (d = e) = false from decide_eq_false (fun x => hl (by rw [x])))
    clear h1 h2 hl
    go_enter Tryz.func24, Tryz.ntmps24
    go_wp2_with fail
    go_ret
    rw [hR.out]
    exact ⟨rfl, .refl _ _⟩
  case pos =>
  have h1H := Lib.hid h1
  have h2H := Lib.hid h2
  have hlH := Lib.hid hl
  have hne : ((d.length : Int) != (e.length : Int)) = false := by rw [hl]; simp
  clear h1 h2 hl
  go_enter Tryz.func24, Tryz.ntmps24
  go_wp2_with fail
  clear hne
  go_loopw [17] (fun i wr => seRel d e w i wr) (fun i _ => d.length - (intOf i).toNat)
  case atStart => exact ⟨0, rfl, Nat.zero_le _, rfl, .refl _ _⟩
  case round =>
    obtain ⟨k, rfl, hk, ht, hB⟩ := hrel
    by_cases hlt : k < d.length
    · have hle := hlH.out
      have hlt2 : k < e.length := by omega
      obtain ⟨b1, o1, ak1, ck1, rfl, -, q0, q1, -, hI1⟩ := (h1H.out.below hB).way k hlt
      obtain ⟨b2, o2, ak2, ck2, rfl, -, q2, q3, -, hI2⟩ := (h2H.out.below hB).way k hlt2
      have hst : d[k] = e[k] → d.take (k + 1) = e.take (k + 1) := fun h => take_oneW hlt hlt2 ht h
      have hbad : d[k] ≠ e[k] → decide (d = e) = false := fun h => decide_eq_false (fun x => h (by simp only [x]))
      obtain ⟨x, hx⟩ : ∃ x, d[k] = x := ⟨_, rfl⟩
      obtain ⟨y, hy⟩ : ∃ y, e[k] = y := ⟨_, rfl⟩
      rw [hx] at q0 q1 hI1 hst hbad
      rw [hy] at q2 q3 hI2 hst hbad
      obtain ⟨T1, L1⟩ := x
      obtain ⟨T2, L2⟩ := y
      dsimp only at q0 q1 q2 q3 hI1 hI2
      have mL1 := hI1.le
      have mL2 := hI2.le
      obtain ⟨w0, hw0⟩ : ∃ w0, w0 = wr := ⟨_, rfl⟩
      subst hw0
      obtain ⟨W1, hW1⟩ : ∃ W1, w0.alloc (.cells #[.int .i64 T1, .slice ak1 L1.length ck1] 33) = W1 := ⟨_, rfl⟩
      have hb1 : Below w0.heap.size w0 W1 := by rw [← hW1]; exact below1 _ _
      have p0 : W1.cell? ⟨w0.heap.size, 0, none⟩ = some (.int .i64 T1) := by rw [← hW1]; clear hW1; go_simp
      have p1 : W1.cell? ⟨w0.heap.size, 1, none⟩ = some (.slice ak1 L1.length ck1) := by rw [← hW1]; clear hW1; go_simp
      have q2' := cell_later hb1 q2
      have q3' := cell_later hb1 q3
      obtain ⟨W2, hW2⟩ : ∃ W2, W1.alloc (.cells #[.int .i64 T2, .slice ak2 L2.length ck2] 33) = W2 := ⟨_, rfl⟩
      have hb2 : Below W1.heap.size W1 W2 := by rw [← hW2]; exact below1 _ _
      have r0 := cell_later hb2 p0
      have r1 := cell_later hb2 p1
      have s0 : W2.cell? ⟨W1.heap.size, 0, none⟩ = some (.int .i64 T2) := by rw [← hW2]; clear hW2; go_simp
      have s1 : W2.cell? ⟨W1.heap.size, 1, none⟩ = some (.slice ak2 L2.length ck2) := by rw [← hW2]; clear hW2; go_simp
      have hBB := bcall hb1 hb2
      have cf := SameF_any T1 T2 ak1 ak2 ck1 ck2 L1 L2 W2 (hI1.below hBB) (hI2.below hBB)
      have hBH := Lib.hid (bcall hB hBB)
      by_cases he : (T1, L1) = (T2, L2)
      · have e0 : ((T1 == T2) && decide (L1 = L2)) = true := by
          obtain ⟨rfl, rfl⟩ : T1 = T2 ∧ L1 = L2 := by injection he with x1 x2; exact ⟨x1, x2⟩
          simp
        rw [e0] at cf
        have cfH := Lib.hid cf
        have hf := Lib.hid (hst he)
        clear cf hst hbad he e0 hB hI1 hI2 hb1 hb2 hBB hx hy ht hle
        go_wp2_with (go_at_call 25; refine cfH.out.mono ?_; rintro e' w5 ⟨rfl, hb5⟩)
        go_roundw
        case rel => exact ⟨k + 1, by go_num, by omega, hf.out, bcall hBH.out hb5⟩
        case measure => simp [intOf]; omega
      · have e0 : ((T1 == T2) && decide (L1 = L2)) = false := by
          rw [Bool.and_eq_false_iff]
          by_cases h0 : T1 = T2
          · right
            rw [decide_eq_false_iff_not]
            exact fun h => he (by rw [h0, h])
          · left; simpa using h0
        rw [e0] at cf
        have cfH := Lib.hid cf
        have hf := Lib.hid (hbad he)
        clear cf hst hbad he e0 hB hI1 hI2 hb1 hb2 hBB hx hy ht hle
        go_wp2_with (go_at_call 25; refine cfH.out.mono ?_; rintro e' w5 ⟨rfl, hb5⟩)
        go_ret
        rw [hf.out]
        exact ⟨rfl, bcall hBH.out hb5⟩
    · have hle := hlH.out
      rw [List.take_of_length_le (by omega), List.take_of_length_le (by omega)] at ht
      have hR := Lib.hid (show decide (d = e) = true from decide_eq_true ht)
      have hBH := Lib.hid hB
      clear ht hB hle
      go_wp2_with fail
      go_ret
      rw [hR.out]
      exact ⟨rfl, hBH.out⟩
theorem tSame_any {S1 S2 : Nat → Prop} (a1 a2 : Option Addr) (c1 c2 : Nat) (d e : Ways) (w : World) (h1 : WaysL S1 w a1 c1 d) (h2 : WaysL S2 w a2 c2 e) :
    Calls Tryz.prog 10 #[.slice a1 d.length c1, .slice a2 e.length c2] w fun r w' => r = .returned (.bool (decide (d = e))) ∧ Below w.heap.size w w' := by
  have m1 := h1.le
  have m2 := h2.le
  have cc := Lib.hid (EqualWy_any a1 a2 c1 c2 d e w h1 h2)
  clear h1 h2
  go_enter Tryz.func10, Tryz.ntmps10
  go_wp2_with fail
  refine cc.out.mono ?_
  rintro e' w3 ⟨rfl, hb3⟩
  go_wp2_with fail
  go_ret
  exact ⟨rfl, hb3⟩
def retBE (r : Bool × Int) (w : World) (e : Ending) (w' : World) : Prop := e = .returned (.tuple #[.bool r.1, .int .i64 r.2]) ∧ Below w.heap.size w w'
def retNE (r : Int × Int) (w : World) (e : Ending) (w' : World) : Prop := e = .returned (.tuple #[.int .i64 r.1, .int .i64 r.2]) ∧ Below w.heap.size w w'
theorem valid_args3 {a b : Sg} {d : Ways} (h : validD a b d = true) : ∀ x ∈ d, x.2.length ≤ 1000 := fun x hx => by
  obtain ⟨i, hi, rfl⟩ := List.getElem_of_mem hx
  obtain ⟨h1, -, h3, -⟩ := validD_parts h
  obtain ⟨-, -, -, v4, -⟩ := validD_at h (i := i) (by omega)
  obtain ⟨n, e1, e2, e3, e4⟩ := arAt_nat h1 (k := i) (by omega)
  rw [getD_at hi] at v4
  omega
/-- a dictionary so many times, in a loop -/
def odRel (d : Ways) (K : Nat) (w : World) (n e : Value) (wr : World) : Prop := ∃ (k : Nat) (a : Option Addr) (c : Nat), n = .int .i64 ((k : Int) + 1) ∧ k ≤ K ∧ e = .slice a (powD d k).length c ∧ WaysL (fun _ => True) wr a c (powD d k) ∧ Below w.heap.size w wr
end Go.Proofs.YtljkojpooajlhaaGreatDoor

/- Walks: lemmaryref03.joined, told, tongues, Write. -/
namespace Go.Proofs.YtljkojpooajlhaaGreatDoor
open Go Go.RowKit Go.Maps

theorem ba_ext3 {x y : ByteArray} (h : x.data.toList = y.data.toList) : x = y := by
  cases x; cases y
  exact congrArg ByteArray.mk (Array.toList_inj.1 h)
theorem toB_size (l : List UInt8) : (toB l).size = l.length := by simp [toB, ByteArray.size]
theorem jt_take {sep : List UInt8} {A : List (List UInt8)} {j : Nat} (hj : j < A.length) : Lib.joinTail sep (A.take (j + 1)) = Lib.joinTail sep (A.take j) ++ (sep ++ A[j]) := by
  rw [List.take_succ_eq_append_getElem hj]
  simp only [Lib.joinTail, List.map_append, List.flatten_append, List.map_cons, List.map_nil, List.flatten_cons, List.flatten_nil, List.append_nil]
theorem jt_part (sep : List UInt8) (A : List (List UInt8)) (j : Nat) (hs : sep.length ≤ 4) : (Lib.joinTail sep (A.take j)).length ≤ (A.map (fun x => x.length + 4)).sum := by
  refine Nat.le_trans (joinTail_le hs _) ?_
  rw [List.map_take]
  have := List.take_append_drop j (A.map (fun x => x.length + 4))
  have h2 := congrArg List.sum this
  rw [List.sum_append] at h2
  omega
theorem elt_le {A : List (List UInt8)} {j : Nat} (hj : j < A.length) : A[j].length ≤ (A.map (fun x => x.length + 4)).sum := by
  have h1 := jt_part [] A (j + 1) (by decide)
  rw [jt_take hj] at h1
  rw [List.length_append, List.nil_append] at h1
  omega
theorem rwithin3_any (n lo hi : Int) (w : World) :
    Calls Tryz.prog 18 #[.int .i64 n, .int .i64 lo, .int .i64 hi] w fun e w' => e = .returned (.bool (decide (lo ≤ n) && decide (n ≤ hi))) ∧ w = w' := by
  go_enter Tryz.func18, Tryz.ntmps18
  go_wp2
  all_goals go_ret
  all_goals exact ⟨ret_bool (by simp; omega), rfl⟩
def toldRel (L : List (List UInt8)) (W5 : World) (out i : Value) (wr : World) : Prop :=
  ∃ q : Nat, i = .int .i64 q ∧ q ≤ L.length ∧ OwnSt3 wr W5.heap.size out ((L.take q).map toB) ∧ Below W5.heap.size W5 wr
def toldRet (w : World) (b : List UInt8) (e : Ending) (w' : World) : Prop := e = .returned (.string (toB b)) ∧ Below w.heap.size w w'
end Go.Proofs.YtljkojpooajlhaaGreatDoor
