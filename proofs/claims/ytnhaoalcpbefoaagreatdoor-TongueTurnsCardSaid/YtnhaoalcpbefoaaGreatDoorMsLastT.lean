/- The card of TongueTurns: for every input TongueTurns returns true and leaves its arguments as they were; the listed variables are tied to the program's text. No condition. -/
import Derived.Test.YtnhaoalcpbefoaaGreatDoorMathComp
import Derived.Test.YtnhaoalcpbefoaaGreatDoorMath2
import Derived.Test.YtnhaoalcpbefoaaGreatDoorMsB
import Derived.Test.YtnhaoalcpbefoaaGreatDoorMsD
import Derived.Test.YtnhaoalcpbefoaaGreatDoorBase
import Derived.ProofKit
import Derived.LaidMore
import Derived.OpenShut
import Derived.Stop.Joined
import Derived.BigRegion
import Derived.Test.YtnhaoalcpbefoaaGreatDoorMsE
import Derived.Test.YtnhaoalcpbefoaaGreatDoorWalkH
import Derived.Test.YtnhaoalcpbefoaaGreatDoorMsC
import Derived.Test.YtnhaoalcpbefoaaGreatDoorCards
import Derived.Test.YtnhaoalcpbefoaaGreatDoorTie
/- Dictionaries undone. No program is named. -/
namespace Go.Proofs.YtnhaoalcpbefoaaGreatDoor

theorem getD_at {α : Type} {l : List α} {i : Nat} {x : α} (h : i < l.length) : l.getD i x = l[i] := by
  rw [List.getD_eq_getElem?_getD, List.getElem?_eq_getElem h]; rfl
theorem getD_set_eq {α : Type} {l : List α} {i : Nat} {x v : α} (h : i < l.length) : (l.set i v).getD i x = v := by
  rw [getD_at (by rw [List.length_set]; exact h), List.getElem_set_self]
theorem getD_set_ne {α : Type} {l : List α} {i j : Nat} {x v : α} (h : i ≠ j) : (l.set i v).getD j x = l.getD j x := by
  rw [List.getD_eq_getElem?_getD, List.getElem?_set_ne h, ← List.getD_eq_getElem?_getD]
theorem invA_at {l : List Int} {n : Nat} (hn : l.Nodup) (hr : ∀ x ∈ l, 0 ≤ x ∧ x < n) : ∀ {k : Nat}, k ≤ l.length → ∀ i, i < k → (invA l n k).getD (l.getD i 0).toNat 0 = (i : Int)
  | 0, _, i, hi => by omega
  | k + 1, hk, i, hi => by
    rw [invA]
    have hki : k < l.length := by omega
    have hii : i < l.length := by omega
    have rk := hr _ (List.getElem_mem hki)
    have ri := hr _ (List.getElem_mem hii)
    rw [getD_at hki, getD_at hii]
    by_cases e : i = k
    · subst e
      rw [getD_set_eq (by rw [invA_len]; omega)]
    · have hne : l[k] ≠ l[i] := fun h => e ((List.getElem_inj hn).1 h.symm)
      rw [getD_set_ne (by omega)]
      have := invA_at hn hr (k := k) (by omega) i (by omega)
      rwa [getD_at hii] at this
theorem invD_at {d : Ways} {n : Nat} (hn : (tosD d).Nodup) (hr : ∀ x ∈ tosD d, 0 ≤ x ∧ x < n) : ∀ {k : Nat}, k ≤ d.length → ∀ i, i < k → (invD d n k).getD (d.getD i (0, [])).1.toNat (0, []) = ((i : Int), invA (d.getD i (0, [])).2 (d.getD i (0, [])).2.length (d.getD i (0, [])).2.length)
  | 0, _, i, hi => by omega
  | k + 1, hk, i, hi => by
    rw [invD]
    have hki : k < d.length := by omega
    have hii : i < d.length := by omega
    have mk : d[k].1 ∈ tosD d := List.mem_map.2 ⟨_, List.getElem_mem hki, rfl⟩
    have mi : d[i].1 ∈ tosD d := List.mem_map.2 ⟨_, List.getElem_mem hii, rfl⟩
    have rk := hr _ mk
    have ri := hr _ mi
    by_cases e : i = k
    · subst e
      rw [getD_set_eq (by rw [invD_len, getD_at hii]; omega)]
    · have hne : d[k].1 ≠ d[i].1 := fun h => e (by
        have := (List.getElem_inj (i := i) (j := k) (h₀ := by unfold tosD; rw [List.length_map]; exact hii) (h₁ := by unfold tosD; rw [List.length_map]; exact hki) hn).1 (by unfold tosD; rw [List.getElem_map, List.getElem_map]; exact h.symm)
        exact this)
      rw [getD_set_ne (by rw [getD_at hki, getD_at hii]; omega)]
      exact invD_at hn hr (by omega) i (by omega)
/-- what an order's inverse is -/
theorem invA_perm {l : List Int} (h : l.Perm (ascL l.length)) : ∀ i, i < l.length → (invA l l.length l.length).getD (l.getD i 0).toNat 0 = (i : Int) :=
  invA_at (h.nodup_iff.2 (ascL_nodup _)) (fun _ hx => mem_ascL.1 (h.mem_iff.1 hx)) (Nat.le_refl _)
theorem ord_surj {l : List Int} (h : l.Perm (ascL l.length)) {p : Nat} (hp : p < l.length) : ∃ q, ∃ hq : q < l.length, l[q] = (p : Int) := by
  have : (p : Int) ∈ l := h.mem_iff.2 (mem_ascL.2 (by omega))
  obtain ⟨q, hq, e⟩ := List.getElem_of_mem this
  exact ⟨q, hq, e⟩
theorem invA_ord {l : List Int} (h : l.Perm (ascL l.length)) : ordB (invA l l.length l.length) = true := by
  rw [ordB_iff]
  intro i hi
  rw [invA_len] at hi
  have := invA_perm h i hi
  have hr := mem_ascL.1 (h.mem_iff.1 (List.getElem_mem hi))
  rw [getD_at hi, getD_at (by rw [invA_len]; omega)] at this
  exact this ▸ List.getElem_mem _
theorem invA_map {l : List Int} (h : l.Perm (ascL l.length)) : (invA l l.length l.length).map (fun j => l.getD j.toNat 0) = ascL l.length := by
  apply List.ext_getElem
  · rw [List.length_map, invA_len, ascL_len]
  · intro p h1 h2
    rw [List.length_map, invA_len] at h1
    obtain ⟨q, hq, e⟩ := ord_surj h h1
    have := invA_perm h q hq
    rw [getD_at hq, e, Int.toNat_natCast, getD_at (by rw [invA_len]; exact h1)] at this
    rw [List.getElem_map, ascL_get, this, Int.toNat_natCast, getD_at hq, e]
theorem invA_inv {l : List Int} (h : l.Perm (ascL l.length)) : invA (invA l l.length l.length) l.length l.length = l := by
  have h2 := ordB_perm (invA_ord h)
  have h3 := invA_perm h2
  rw [invA_len] at h3
  apply List.ext_getElem
  · rw [invA_len]
  · intro q hq1 hq
    have hr := mem_ascL.1 (h.mem_iff.1 (List.getElem_mem hq))
    have e1 := invA_perm h q hq
    rw [getD_at hq] at e1
    have e2 := h3 l[q].toNat (by omega)
    rw [e1, Int.toNat_natCast, getD_at hq1] at e2
    omega
theorem tosD_get {d : Ways} {i : Nat} (h : i < (tosD d).length) : (tosD d)[i] = (d[i]'(by simpa [tosD] using h)).1 := by simp [tosD]
section
variable {a b : Sg} {d : Ways}
theorem one_parts (hv : validD a b d = true) (ho : oneB a b d = true) : a.length = b.length ∧ (tosD d).Nodup ∧ ∀ x ∈ tosD d, 0 ≤ x ∧ x < b.length := by
  unfold oneB at ho
  rw [Bool.and_eq_true, decide_eq_true_eq, decide_eq_true_eq] at ho
  exact ⟨ho.1, ho.2, tos_range (validD_parts hv).2.2.2.1⟩
theorem inv_at (hv : validD a b d = true) (ho : oneB a b d = true) {i : Nat} (hi : i < d.length) : (invD d b.length d.length).getD (d.getD i (0, [])).1.toNat (0, []) = ((i : Int), invA (d.getD i (0, [])).2 (d.getD i (0, [])).2.length (d.getD i (0, [])).2.length) :=
  invD_at (one_parts hv ho).2.1 (one_parts hv ho).2.2 (Nat.le_refl _) i hi
theorem one_surj (hv : validD a b d = true) (ho : oneB a b d = true) {j : Nat} (hj : j < b.length) : ∃ i, i < d.length ∧ (d.getD i (0, [])).1 = (j : Int) := by
  obtain ⟨h1, h2, h3⟩ := one_parts hv ho
  have hl := (validD_parts hv).2.2.1
  have hp : (ascL b.length).Perm (tosD d) := perm_of_sub h2 (fun x hx => mem_ascL.2 (h3 x hx)) (by rw [ascL_len]; unfold tosD; rw [List.length_map]; omega)
  have : (j : Int) ∈ tosD d := hp.mem_iff.1 (mem_ascL.2 (by omega))
  obtain ⟨w, hw, e⟩ := List.mem_map.1 this
  obtain ⟨i, hi, rfl⟩ := List.getElem_of_mem hw
  exact ⟨i, hi, by rw [getD_at hi]; exact e⟩
theorem inv_valid (hv : validD a b d = true) (ho : oneB a b d = true) : validD b a (invD d b.length d.length) = true := by
  obtain ⟨p1, p2, p3, -, p5, p6⟩ := validD_parts hv
  obtain ⟨h1, h2, h3⟩ := one_parts hv ho
  have hl := okSign_len p1
  have h0 := inv_at hv ho (i := 0) (by omega)
  rw [p5, p6] at h0
  refine validD_of p2 p1 (invD_len _ _ _) (by rw [show (0 : Nat) = (0 : Int).toNat from rfl, h0]; rfl) (by rw [show (0 : Nat) = (0 : Int).toNat from rfl, h0]; rfl) (fun j hj => ?_)
  rw [invD_len] at hj
  obtain ⟨i, hi, e⟩ := one_surj hv ho hj
  have hg := inv_at hv ho hi
  obtain ⟨v1, v2, v3, v4, v5⟩ := validD_at hv (i := i) (by omega)
  rw [e, Int.toNat_natCast] at hg
  rw [e] at v3
  rw [hg]
  unfold wayOk
  rw [Bool.and_eq_true, Bool.and_eq_true, Bool.and_eq_true, Bool.and_eq_true, decide_eq_true_eq, decide_eq_true_eq, decide_eq_true_eq, decide_eq_true_eq]
  refine ⟨⟨by show (0 : Int) ≤ (i : Int); omega, by show (i : Int) ≤ (a.length : Int) - 1; omega⟩, v3.symm, ?_, invA_ord v5⟩
  rw [invA_len, v4, v3]
theorem inv_tos (hv : validD a b d = true) (ho : oneB a b d = true) : (tosD (invD d b.length d.length)).Nodup := by
  obtain ⟨h1, h2, h3⟩ := one_parts hv ho
  rw [List.Nodup, List.pairwise_iff_getElem]
  intro j1 j2 g1 g2 hlt he
  have g1' := g1
  have g2' := g2
  unfold tosD at g1' g2'
  rw [List.length_map, invD_len] at g1' g2'
  obtain ⟨i1, hi1, e1⟩ := one_surj hv ho g1'
  obtain ⟨i2, hi2, e2⟩ := one_surj hv ho g2'
  have k1 := inv_at hv ho hi1
  have k2 := inv_at hv ho hi2
  rw [e1, Int.toNat_natCast, getD_at (by rw [invD_len]; exact g1')] at k1
  rw [e2, Int.toNat_natCast, getD_at (by rw [invD_len]; exact g2')] at k2
  rw [tosD_get, tosD_get, k1, k2] at he
  have he2 : (i1 : Int) = (i2 : Int) := he
  have : i1 = i2 := by omega
  subst this
  rw [e1] at e2
  omega
theorem inv_one (hv : validD a b d = true) (ho : oneB a b d = true) : oneB b a (invD d b.length d.length) = true := by
  obtain ⟨h1, -, -⟩ := one_parts hv ho
  unfold oneB
  rw [decide_eq_true h1.symm, decide_eq_true (inv_tos hv ho)]; rfl
/-- undone twice -/
theorem inv_inv (hv : validD a b d = true) (ho : oneB a b d = true) : invD (invD d b.length d.length) a.length (invD d b.length d.length).length = d := by
  obtain ⟨h1, h2, h3⟩ := one_parts hv ho
  have hl := (validD_parts hv).2.2.1
  have hv2 := inv_valid hv ho
  have ho2 := inv_one hv ho
  apply List.ext_getElem
  · rw [invD_len]; exact hl.symm
  · intro i g1 hi
    have k1 := inv_at hv ho hi
    have r := h3 d[i].1 (List.mem_map.2 ⟨_, List.getElem_mem hi, rfl⟩)
    have k2 := inv_at hv2 ho2 (i := (d.getD i (0, [])).1.toNat) (by rw [invD_len, getD_at hi]; omega)
    rw [k1] at k2
    rw [Int.toNat_natCast, getD_at g1, invA_len, getD_at hi] at k2
    obtain ⟨v1, v2, v3, v4, v5⟩ := validD_at hv (i := i) (by omega)
    rw [getD_at hi] at v1 v5
    rw [k2, invA_inv v5, Int.toNat_of_nonneg v1]
theorem itsD_map (s : Sg) : ∀ k, itsD s k = (List.range k).map (fun i : Nat => ((i : Int), ascL (arAt s i).toNat))
  | 0 => rfl
  | k + 1 => by rw [itsD, itsD_map s k, List.range_succ, List.map_append]; rfl
theorem itsD_get {s : Sg} {k i : Nat} (h : i < k) : (itsD s k).getD i (0, []) = ((i : Int), ascL (arAt s i).toNat) := by
  rw [itsD_map, getD_at (by simpa using h), List.getElem_map, List.getElem_range]
/-- composed with the inverse: nothing changes -/
theorem inv_comp (hv : validD a b d = true) (ho : oneB a b d = true) : compD d (invD d b.length d.length) d.length = itsD a a.length := by
  have hl := (validD_parts hv).2.2.1
  rw [compD_map, itsD_map, ← hl]
  apply List.map_congr_left
  intro i hi
  have hi' := List.mem_range.1 hi
  have k1 := inv_at hv ho (i := i) (by omega)
  obtain ⟨v1, v2, v3, v4, v5⟩ := validD_at hv (i := i) (by omega)
  unfold compW
  rw [k1]
  simp only
  rw [invA_map v5, ← v4, Int.toNat_natCast]
theorem its_carry {s : Sg} (hs : okSign s = true) : ∀ (f : Nat) {t : List Int}, okT s t = true → t.length ≤ f → carT s (itsD s s.length) t = t
  | 0, t, h, hf => by have := (okT_parts h).2.1; omega
  | f + 1, t, h, hf => by
    obtain ⟨n, x, ht, hc, hsk⟩ := okT_head h
    obtain ⟨g1, g2, g3⟩ := argsT_spec h
    by_cases hn : n < 0
    · have har : ar s n = 0 := ar_neg hn
      rw [har, skip_zero] at hsk
      simp only [Option.some.injEq] at hsk
      subst hsk
      subst ht
      exact carT_neg hn
    · have hh : t.headD 0 = n := by rw [ht]; rfl
      have hnl : n < s.length := by simp [codeOk] at hc; omega
      have ha := (ar_at hs (n := n) (by omega) hnl).1
      have hfl : (argsT s t).flatten.length + 1 = t.length := by
        have := congrArg List.length g2
        rw [List.length_cons] at this; omega
      rw [carT_node h (by rw [hh]; omega), hh]
      have hmap : (argsT s t).map (carT s (itsD s s.length)) = argsT s t := by
        conv => rhs; rw [← List.map_id (argsT s t)]
        apply List.map_congr_left
        intro u hu
        have := len_flatten hu
        exact its_carry hs f (g3 u hu) (by omega)
      rw [hmap]
      unfold carA
      rw [itsD_get (by omega)]
      simp only
      rw [Int.toNat_of_nonneg (by omega), ← ha, Int.toNat_natCast]
      rw [hh] at g1 g2
      rw [← g1, ascL_map]
      exact g2.symm
/-- carried there and back -/
theorem back_carry (hv : validD a b d = true) (ho : oneB a b d = true) {t : List Int} (ht : okT a t = true) : carT b (invD d b.length d.length) (carT a d t) = t := by
  rw [comp_carry hv (inv_valid hv ho) t.length ht (Nat.le_refl _), inv_comp hv ho]
  exact its_carry (validD_parts hv).1 t.length ht (Nat.le_refl _)
end
end Go.Proofs.YtnhaoalcpbefoaaGreatDoor

/- How often a dictionary must be repeated until nothing changes. No program is named. -/
namespace Go.Proofs.YtnhaoalcpbefoaaGreatDoor

/-- a dictionary k more times -/
def powD (d : Ways) : Nat → Ways
  | 0 => d
  | k + 1 => compD (powD d k) d (powD d k).length
theorem powD_valid {s : Sg} {d : Ways} (h : validD s s d = true) : ∀ k, validD s s (powD d k) = true
  | 0 => h
  | k + 1 => comp_valid (powD_valid h k) h
theorem powD_len {s : Sg} {d : Ways} (h : validD s s d = true) (k : Nat) : (powD d k).length = s.length := (validD_parts (powD_valid h k)).2.2.1
/-- where a symbol and its arguments are behind k times -/
def stK (d : Ways) (i : Int) (n : Nat) : Nat → Int × List Int
  | 0 => (i, ascL n)
  | k + 1 => ((d.getD (stK d i n k).1.toNat (0, [])).1, (d.getD (stK d i n k).1.toNat (0, [])).2.map (fun j => (stK d i n k).2.getD j.toNat 0))
section
variable {s : Sg} {d : Ways} (hv : validD s s d = true)
include hv
theorem stK_ok {i : Int} {n : Nat} (h0 : 0 ≤ i) (h1 : i < s.length) (hn : arAt s i = n) : ∀ k, 0 ≤ (stK d i n k).1 ∧ (stK d i n k).1 < s.length ∧ arAt s (stK d i n k).1 = n ∧ (stK d i n k).2.length = n ∧ (stK d i n k).2.Perm (ascL (stK d i n k).2.length)
  | 0 => ⟨h0, h1, hn, ascL_len n, by rw [stK, ascL_len]⟩
  | k + 1 => by
    obtain ⟨g1, g2, g3, g4, g5⟩ := stK_ok h0 h1 hn k
    obtain ⟨w1, w2, w3, w4, w5⟩ := validD_way hv g1 g2
    rw [stK]
    refine ⟨w1, w2, by rw [w3, g3], ?_, comp_perm g5 w5 (by omega)⟩
    rw [List.length_map]; omega
theorem stK_one {i : Nat} (hi : i < s.length) {n : Nat} (hn : arAt s i = n) : stK d i n 1 = d.getD i (0, []) := by
  obtain ⟨w1, w2, w3, w4, w5⟩ := validD_at hv hi
  rw [stK, stK]
  simp only [Int.toNat_natCast]
  refine Prod.ext rfl ?_
  show List.map _ (d.getD i (0, [])).2 = (d.getD i (0, [])).2
  apply List.ext_getElem
  · simp
  · intro j g1 g2
    have := mem_ascL.1 (w5.mem_iff.1 (List.getElem_mem g2))
    rw [List.getElem_map, getD_at (by rw [ascL_len]; omega), ascL_get (by rw [ascL_len]; omega)]
    omega
theorem powD_get {i : Nat} (hi : i < s.length) {n : Nat} (hn : arAt s i = n) : ∀ k, (powD d k).getD i (0, []) = stK d i n (k + 1)
  | 0 => (stK_one hv hi hn).symm
  | k + 1 => by
    rw [powD, compD_get (by rw [powD_len hv]; exact hi), compW, powD_get hi hn k]
    rfl
theorem stK_add {i : Int} {n : Nat} (h0 : 0 ≤ i) (h1 : i < s.length) (hn : arAt s i = n) (k : Nat) : ∀ l, stK d i n (k + l) = ((stK d (stK d i n k).1 n l).1, (stK d (stK d i n k).1 n l).2.map (fun j => (stK d i n k).2.getD j.toNat 0))
  | 0 => by
    have h := stK_ok hv h0 h1 hn k
    rw [Nat.add_zero, stK]
    refine Prod.ext rfl ?_
    have e := ascL_mapI (stK d i n k).2
    rw [h.2.2.2.1] at e
    exact e.symm
  | l + 1 => by
    have h := stK_ok hv h0 h1 hn k
    have h2 := stK_ok hv h.1 h.2.1 h.2.2.1 l
    obtain ⟨w1, w2, w3, w4, w5⟩ := validD_way hv h2.1 h2.2.1
    rw [← Nat.add_assoc, stK, stK_add h0 h1 hn k l]
    conv => rhs; rw [stK]
    refine Prod.ext rfl ?_
    simp only [List.map_map]
    apply List.map_congr_left
    intro j hj
    have := mem_ascL.1 (w5.mem_iff.1 hj)
    have hjl : j.toNat < (stK d (stK d i n k).1 n l).2.length := by omega
    simp only [Function.comp]
    rw [getD_at (by rw [List.length_map]; exact hjl), List.getElem_map, getD_at hjl]
theorem stK_mul {i : Int} {n : Nat} (h0 : 0 ≤ i) (h1 : i < s.length) (hn : arAt s i = n) {c : Nat} (hc : (stK d i n c).1 = i) : ∀ m, (stK d i n (c * m)).1 = i
  | 0 => rfl
  | m + 1 => by
    rw [Nat.mul_succ, stK_add hv h0 h1 hn]
    simp only
    rw [stK_mul h0 h1 hn hc m, hc]
end
section
variable {s : Sg} {d : Ways} (hv : validD s s d = true) (ho : oneB s s d = true)
include hv ho
theorem to_inj {i j : Int} (h0 : 0 ≤ i) (h1 : i < s.length) (g0 : 0 ≤ j) (g1 : j < s.length) (he : (d.getD i.toNat (0, [])).1 = (d.getD j.toNat (0, [])).1) : i = j := by
  obtain ⟨-, hn, -⟩ := one_parts hv ho
  have hl := (validD_parts hv).2.2.1
  have hi : i.toNat < d.length := by omega
  have hj : j.toNat < d.length := by omega
  rw [getD_at hi, getD_at hj] at he
  have := (List.getElem_inj (i := i.toNat) (j := j.toNat) (h₀ := by unfold tosD; rw [List.length_map]; exact hi) (h₁ := by unfold tosD; rw [List.length_map]; exact hj) hn).1 (by unfold tosD; rw [List.getElem_map, List.getElem_map]; exact he)
  omega
theorem stK_down {i : Int} {n : Nat} (h0 : 0 ≤ i) (h1 : i < s.length) (hn : arAt s i = n) (e : Nat) : ∀ k, (stK d i n k).1 = (stK d i n (k + e)).1 → i = (stK d i n e).1
  | 0, h => by rw [Nat.zero_add] at h; exact h
  | k + 1, h => by
    refine stK_down h0 h1 hn e k ?_
    rw [show k + 1 + e = (k + e) + 1 by omega, stK, stK] at h
    have g1 := stK_ok hv h0 h1 hn k
    have g2 := stK_ok hv h0 h1 hn (k + e)
    exact to_inj hv ho g1.1 g1.2.1 g2.1 g2.2.1 h
/-- a symbol comes back -/
theorem stK_back {i : Int} {n : Nat} (h0 : 0 ≤ i) (h1 : i < s.length) (hn : arAt s i = n) : ∃ c, 1 ≤ c ∧ c ≤ 12 ∧ (stK d i n c).1 = i := by
  have hl := (okSign_len (validD_parts hv).1).2
  have hnd : ¬ ((List.range (s.length + 1)).map (fun k => (stK d i n k).1.toNat)).Nodup := fun hh => by
    have := nodup_bound s.length _ hh (fun x hx => by
      obtain ⟨k, -, rfl⟩ := List.mem_map.1 hx
      have := stK_ok hv h0 h1 hn k
      omega)
    simp at this
    omega
  have hex : ∃ k l, k < l ∧ l ≤ s.length ∧ (stK d i n k).1 = (stK d i n l).1 := by
    refine Classical.byContradiction fun hno => hnd ?_
    rw [List.Nodup, List.pairwise_map]
    refine List.Pairwise.imp_of_mem (R := fun a b => a < b) (fun {a b} ha hb hab he => hno ⟨a, b, hab, ?_, ?_⟩) List.pairwise_lt_range
    · have := List.mem_range.1 hb; omega
    · have g1 := stK_ok hv h0 h1 hn a
      have g2 := stK_ok hv h0 h1 hn b
      omega
  obtain ⟨k, l, g1, g2, g3⟩ := hex
  refine ⟨l - k, by omega, by omega, ?_⟩
  refine (stK_down hv ho h0 h1 hn (l - k) k ?_).symm
  rw [show k + (l - k) = l by omega]
  exact g3
end
def pwP (p : List Int) : Nat → List Int
  | 0 => ascL p.length
  | m + 1 => p.map (fun j => (pwP p m).getD j.toNat 0)
def allL : Nat → List (List Int)
  | 0 => [[]]
  | k + 1 => (allL k).flatMap (fun l => [0, 1, 2].map (fun x => (x : Int) :: l))
theorem mem_allL : ∀ l : List Int, (∀ x ∈ l, 0 ≤ x ∧ x < 3) → l ∈ allL l.length
  | [], _ => by simp [allL]
  | x :: l, h => by
    rw [List.length_cons, allL, List.mem_flatMap]
    refine ⟨l, mem_allL l (fun y hy => h y (by simp [hy])), List.mem_map.2 ⟨x, ?_, rfl⟩⟩
    have := h x (by simp)
    have : x = 0 ∨ x = 1 ∨ x = 2 := by omega
    rcases this with e | e | e <;> simp [e]
theorem pw_six : ∀ n ∈ [0, 1, 2, 3], ∀ p ∈ allL n, ordB p = true → pwP p 6 = ascL p.length := by decide +kernel
theorem dvd_all : ∀ c, c < 13 → 1 ≤ c → 27720 % c = 0 := by decide
section
variable {s : Sg} {d : Ways} (hv : validD s s d = true) (ho : oneB s s d = true)
include hv ho
theorem stK_all {i : Int} {n : Nat} (h0 : 0 ≤ i) (h1 : i < s.length) (hn : arAt s i = n) : stK d i n 166320 = (i, ascL n) := by
  obtain ⟨c, c1, c2, c3⟩ := stK_back hv ho h0 h1 hn
  have hd := dvd_all c (by omega) c1
  have hN : (stK d i n 27720).1 = i := by
    have e : 27720 = c * (27720 / c) := (Nat.mul_div_cancel' (Nat.dvd_of_mod_eq_zero hd)).symm
    rw [e]
    exact stK_mul hv h0 h1 hn c3 _
  obtain ⟨p, hp⟩ : ∃ p, (stK d i n 27720).2 = p := ⟨_, rfl⟩
  have hg := stK_ok hv h0 h1 hn 27720
  rw [hp] at hg
  have hpw : ∀ m, stK d i n (27720 * m) = (i, pwP p m) := by
    intro m
    induction m with
    | zero => rw [Nat.mul_zero, stK, pwP, hg.2.2.2.1]
    | succ m ih =>
      rw [Nat.mul_succ, stK_add hv h0 h1 hn, ih]
      simp only
      rw [hN, hp, pwP]
  have har : n ≤ 3 := by
    have ha := (validD_parts hv).1
    have h2 := ar_at ha h0 h1
    have := (arC_ok ha h2.2).2
    omega
  have h6 := pw_six n (by
    have : n = 0 ∨ n = 1 ∨ n = 2 ∨ n = 3 := by omega
    rcases this with e | e | e | e <;> simp [e]) p (by
    have := mem_allL p (fun x hx => by
      have := mem_ascL.1 (hg.2.2.2.2.mem_iff.1 hx)
      omega)
    rwa [hg.2.2.2.1] at this) (ordB_of_perm hg.2.2.2.2)
  have e := hpw 6
  rw [h6, hg.2.2.2.1] at e
  exact e
theorem pow_back : powD d 166319 = itsD s s.length := by
  have hl := powD_len hv 166319
  have hli : (itsD s s.length).length = s.length := by rw [itsD_map]; simp
  apply List.ext_getElem
  · rw [hl, hli]
  · intro i g1 g2
    have hi : i < s.length := by omega
    obtain ⟨w1, w2, w3, w4, w5⟩ := validD_at hv hi
    have hn : arAt s i = ((arAt s i).toNat : Nat) := by omega
    have e1 := powD_get hv hi hn 166319
    have e2 := stK_all hv ho (i := (i : Int)) (by omega) (by omega) hn
    have e3 := itsD_get (s := s) hi
    rw [getD_at g1] at e1
    rw [getD_at g2] at e3
    rw [e1, e3]
    exact e2
end
/-- after how many more times nothing changes -/
def ordK (s : Sg) (d : Ways) : Nat := ((List.range 166320).find? (fun k => decide (powD d k = itsD s s.length))).getD 0
theorem ordK_spec {s : Sg} {d : Ways} (hv : validD s s d = true) (ho : oneB s s d = true) : powD d (ordK s d) = itsD s s.length ∧ (∀ j, j < ordK s d → ¬ powD d j = itsD s s.length) ∧ ordK s d < 166320 := by
  have hb := pow_back hv ho
  have hex : ∃ k, (List.range 166320).find? (fun k => decide (powD d k = itsD s s.length)) = some k := by
    cases hf : (List.range 166320).find? (fun k => decide (powD d k = itsD s s.length)) with
    | some k => exact ⟨k, rfl⟩
    | none =>
      rw [List.find?_eq_none] at hf
      exact (hf 166319 (List.mem_range.2 (by omega)) (by rw [decide_eq_true_eq]; exact hb)).elim
  obtain ⟨k, hk⟩ := hex
  have he : ordK s d = k := by unfold ordK; rw [hk]; rfl
  rw [List.find?_range_eq_some] at hk
  obtain ⟨g1, g2, g3⟩ := hk
  rw [he]
  refine ⟨by simpa using g1, fun j hj => by simpa using g3 j hj, by simpa using g2⟩
def ordE (s : Sg) (d : Ways) : Int × Int := if validD s s d = true then (if oneB s s d = true then (((ordK s d : Nat) : Int) + 1, 0) else (0, 8)) else (0, 1)
def symmE (s : Sg) (d : Ways) (t : List Int) : Bool × Int := if (validD s s d && okT s t) = true then (decide (canon t = canon (carT s d t)), 0) else (false, 1)
end Go.Proofs.YtnhaoalcpbefoaaGreatDoor

/- Walks of package kernel: steps in memory; right, valid, ValidGivens, asked. -/
namespace Go.Proofs.YtnhaoalcpbefoaaGreatDoor
open Go Go.RowKit Go.Maps

/-- struct { Kind, A, B int } -/
def stpE : Enc Stp := pairE intE (pairE intE intE)
abbrev Steps := Sl stpE
abbrev stpV (x : Stp) : Value := .agg #[.int .i64 x.1, .int .i64 x.2.1, .int .i64 x.2.2]
def stpR (x : Stp) : Prop := inRange x.1 ∧ inRange x.2.1 ∧ inRange x.2.2
theorem Sl.stp {S : Nat → Prop} {w : World} {a : Option Addr} {c : Nat} {l : List Stp} (h : Steps S w a c l) (i : Nat) (hi : i < l.length) :
    ∃ b off, a = some ⟨b, off, none⟩ ∧ S b ∧ w.cell? ⟨b, off + i * 3, none⟩ = some (.int .i64 l[i].1) ∧ w.cell? ⟨b, off + i * 3 + 1, none⟩ = some (.int .i64 l[i].2.1) ∧ w.cell? ⟨b, off + i * 3 + 2, none⟩ = some (.int .i64 l[i].2.2) ∧ stpR l[i] := by
  obtain ⟨b, off, ha, hb, _, vs, _, hv, hr⟩ := h.at1 i hi
  obtain ⟨us, ts, rfl, ⟨rfl, h1⟩, us', ts', rfl, ⟨rfl, h2⟩, ⟨rfl, h3⟩⟩ := hr
  have h0 := hv 0 (by simp)
  have h4 := hv 1 (by simp)
  have h5 := hv 2 (by simp)
  simp [stpE, pairE, intE] at h0 h4 h5
  exact ⟨b, off, ha, hb, h0, h4, h5, h1, h2, h3⟩

theorem okSteps_snoc {G : Int} : ∀ (p : List Stp) (n : Nat) (x : Stp), okSteps G n (p ++ [x]) = (okSteps G n p && rightB G (n + p.length) x)
  | [], n, x => by simp [okSteps]
  | y :: p, n, x => by
    rw [List.cons_append, okSteps, okSteps, okSteps_snoc p (n + 1) x, Bool.and_assoc, List.length_cons, show n + 1 + p.length = n + (p.length + 1) by omega]
theorem okSteps_take {G : Int} : ∀ (p : List Stp) (n k : Nat), okSteps G n p = true → okSteps G n (p.take k) = true
  | [], _, _, _ => by simp [okSteps]
  | x :: p, n, 0, _ => rfl
  | x :: p, n, k + 1, h => by
    simp only [okSteps, Bool.and_eq_true] at h
    rw [List.take_succ_cons, okSteps, Bool.and_eq_true]
    exact ⟨h.1, okSteps_take p (n + 1) k h.2⟩
end Go.Proofs.YtnhaoalcpbefoaaGreatDoor

/- Facts of the program's types that the rows over the kernel want; the start of a row that lists variables. -/
namespace Go.Proofs.YtnhaoalcpbefoaaGreatDoor
open Go Go.RowKit Go.ChangeShapes Go.WideShapes Go.ChangeAt Go.Deep

theorem gives3 {P : Program} {t : TypeId} {α β γ : Type} {E : Enc α} {F : Enc β} {G : Enc γ} {f0 f1 f2 : Field} (ht : P.underlying t = some (.struct #[f0, f1, f2])) (h0 : f0.offset = 0) (h1 : f1.offset = E.size) (h2 : f2.offset = E.size + F.size) (hc : P.cellsOf t = E.size + (F.size + G.size))
    (hc0 : P.cellsOf f0.type = E.size) (hc1 : P.cellsOf f1.type = F.size) (hc2 : P.cellsOf f2.type = G.size) (g0 : Gives P f0.type E) (g1 : Gives P f1.type F) (g2 : Gives P f2.type G) : Gives P t (pairE E (pairE F G)) := by
  intro H enc w base spare held n cs x h
  obtain ⟨y0, y1, y2, n', _, hl, r0, r1, r2⟩ := trod_struct3 ht h
  obtain ⟨a, ha⟩ := g0 H enc w base spare held n' _ _ r0
  obtain ⟨b, hb⟩ := g1 H enc w base spare held n' _ _ r1
  obtain ⟨c, hcc⟩ := g2 H enc w base spare held n' _ _ r2
  refine ⟨(a, b, c), _, _, ?_, ha, _, _, rfl, hb, hcc⟩
  rw [h0, h1, h2, hc0, hc1, hc2, List.drop_zero]
  have e1 : (cs.drop (E.size + F.size)).take G.size = cs.drop (E.size + F.size) := List.take_of_length_le (by simp; omega)
  rw [e1, ← List.drop_drop, List.take_append_drop, List.take_append_drop]
theorem gives_array2 {P : Program} {t e : TypeId} {α : Type} {E : Enc α} (ht : P.underlying t = some (.array 2 e)) (hc : P.cellsOf t = E.size + E.size) (he : P.cellsOf e = E.size) (g : Gives P e E) : Gives P t (pairE E E) := by
  intro H enc w base spare held n cs x h
  obtain ⟨xs, m, _, _, hl, hx, hf⟩ := DataW.trod_array ht h
  match xs, hx with
  | [x0, x1], _ =>
    obtain ⟨a, ha⟩ := g H enc w base spare held m _ _ (hf 0 (by omega))
    obtain ⟨b, hb⟩ := g H enc w base spare held m _ _ (hf 1 (by omega))
    refine ⟨(a, b), _, _, ?_, ha, hb⟩
    rw [he, Nat.zero_mul, Nat.one_mul, List.drop_zero]
    have e1 : (cs.drop E.size).take E.size = cs.drop E.size := List.take_of_length_le (by simp; omega)
    rw [e1, List.take_append_drop]
end Go.Proofs.YtnhaoalcpbefoaaGreatDoor

/- Walks: lemmaryref03.OneToOne, in, Image; few, small of the laws on tongues. -/
namespace Go.Proofs.YtnhaoalcpbefoaaGreatDoor
open Go Go.RowKit Go.Maps

def roRel1 (d : Ways) (w : World) (i : Value) (wr : World) : Prop := ∃ k : Nat, i = .int .i64 k ∧ k ≤ d.length ∧ (tosD (d.take k)).Nodup ∧ Drew w wr
def roRel2 (d : Ways) (i : Nat) (w : World) (j : Value) (wr : World) : Prop := ∃ k : Nat, j = .int .i64 k ∧ k ≤ i ∧ (∀ (m : Nat) (h : m < d.length) (hi : i < d.length), m < k → d[m].1 ≠ d[i].1) ∧ Drew w wr
theorem nodup_snoc {l : List Int} {x : Int} (h : l.Nodup) (hx : x ∉ l) : (l ++ [x]).Nodup := by
  rw [List.nodup_append]
  exact ⟨h, by simp, fun a ha b hb => by rw [List.mem_singleton] at hb; rw [hb]; exact fun e => hx (by rw [← e]; exact ha)⟩
set_option maxRecDepth 20000 in
set_option maxHeartbeats 2000000 in
theorem rOneToOne_any {S1 S2 S3 : Nat → Prop} (a1 a2 a3 : Option Addr) (c1 c2 c3 : Nat) (a b : Sg) (d : Ways) (w : World) (h1 : Sign S1 w a1 c1 a) (h2 : Sign S2 w a2 c2 b) (h3 : WaysL S3 w a3 c3 d) :
    Calls Tryz.prog 51 #[.slice a1 a.length c1, .slice a2 b.length c2, .slice a3 d.length c3] w fun e w' => e = .returned (.bool (validD a b d && oneB a b d)) ∧ Drew w w' := by
  have m1 := h1.le
  have m2 := h2.le
  have m3 := h3.le
  have v1 := rValid3_any a1 a2 a3 c1 c2 c3 a b d w h1 h2 h3
  cases hx : validD a b d with
  | false =>
    rw [hx] at v1
    have v1H := Lib.hid v1
    clear v1 h1 h2 h3 hx
    go_enter Tryz.func51, Tryz.ntmps51
    go_wp2_with fail
    refine v1H.out.mono ?_
    rintro e w1 ⟨rfl, hb1⟩
    go_wp2_with fail
    go_ret
    exact ⟨rfl, hb1⟩
  | true =>
  rw [hx] at v1
  have v1H := Lib.hid v1
  rw [Bool.true_and]
  by_cases hab : a.length = b.length
  case neg =>
    have hn : ((a.length : Int) != (b.length : Int)) = true := by simp; omega
    have hR := Lib.hid (show oneB a b d = false by rw [oneB, decide_eq_false hab]; rfl)
    clear v1 h1 h2 h3 hx hab
    go_enter Tryz.func51, Tryz.ntmps51
    go_wp2_with fail
    refine v1H.out.mono ?_
    rintro e w1 ⟨rfl, hb1⟩
    go_wp2_with fail
    go_ret
    rw [hR.out]
    exact ⟨rfl, hb1⟩
  have hn : ((a.length : Int) != (b.length : Int)) = false := by simp; omega
  have hR := show oneB a b d = decide ((tosD d).Nodup) by rw [oneB, decide_eq_true hab, Bool.true_and]
  rw [hR]
  have h3H := Lib.hid h3
  clear v1 h1 h2 h3 hx hab hR
  go_enter Tryz.func51, Tryz.ntmps51
  go_wp2_with fail
  refine v1H.out.mono ?_
  rintro e w1 ⟨rfl, hb1⟩
  have hb1H := Lib.hid hb1
  clear hb1 v1H
  go_wp2_with fail
  go_loopw [7] (fun i wr => roRel1 d w i wr) (fun i _ => d.length - (intOf i).toNat)
  case atStart => exact ⟨0, rfl, Nat.zero_le _, by simp [tosD], hb1H.out⟩
  case round =>
    obtain ⟨i, rfl, hi, hnd, hB⟩ := hrel
    have hndH := Lib.hid hnd
    have hBH := Lib.hid hB
    clear hnd hB
    by_cases hlt : i < d.length
    · go_wp2_with fail
      go_loopw [8] (fun j wr => roRel2 d i w j wr) (fun j _ => i - (intOf j).toNat)
      case atStart => exact ⟨0, rfl, Nat.zero_le _, fun m _ _ h => by omega, hBH.out⟩
      case round =>
        obtain ⟨j, rfl, hj, hall, hB⟩ := hrel
        by_cases hlt2 : j < i
        · have hjd : j < d.length := by omega
          obtain ⟨b3, o3, ai, ci, rfl, -, qi, -, -, -⟩ := (h3H.out.drew hB).way i hlt
          obtain ⟨b4, o4, aj, cj, he, -, qj, -, -, -⟩ := (h3H.out.drew hB).way j hjd
          simp only [Option.some.injEq, Addr.mk.injEq, and_true] at he
          obtain ⟨rfl, rfl⟩ := he
          have hst : d[j].1 ≠ d[i].1 → ∀ (m : Nat) (h : m < d.length) (hi : i < d.length), m < j + 1 → d[m].1 ≠ d[i].1 := fun h0 m h hi hm => by
            by_cases e : m = j
            · subst e; exact h0
            · exact hall m h hi (by omega)
          have hbad : d[j].1 = d[i].1 → decide ((tosD d).Nodup) = false := fun h0 => decide_eq_false (fun hn => by
            have hp := List.pairwise_iff_getElem.1 hn j i (by simp [tosD]; omega) (by simp [tosD]; omega) hlt2
            exact hp (by simp [tosD, h0]))
          obtain ⟨x, hx⟩ : ∃ x, d[i].1 = x := ⟨_, rfl⟩
          obtain ⟨y, hy⟩ : ∃ x, d[j].1 = x := ⟨_, rfl⟩
          rw [hx] at qi hbad
          rw [hy] at qj hbad
          by_cases hxy : y = x
          · have hb : (y == x) = true := by simpa using hxy
            have hf := Lib.hid (hbad hxy)
            have hBJ := Lib.hid hB
            clear hall hB hst hbad hx hy hxy
            go_wp2_with fail
            go_quiet (fail)
            all_goals go_wp2_with fail
            all_goals go_ret
            rw [hf.out]
            exact ⟨rfl, drew_trans3 hBJ.out (Drew.mk _ _)⟩
          · have hb : (y == x) = false := by simpa using hxy
            have hf := Lib.hid (hst (by rw [hx, hy]; exact hxy))
            have hBJ := Lib.hid hB
            clear hall hB hst hbad hx hy hxy
            go_wp2_with fail
            go_quiet (fail)
            all_goals go_wp2_with fail
            go_roundw
            case rel => exact ⟨j + 1, by go_num, by omega, hf.out, drew_trans3 hBJ.out (Drew.mk _ _)⟩
            case measure => simp [intOf]; omega
        · have hji : j = i := by omega
          subst hji
          have hnew : (tosD (d.take (j + 1))).Nodup := by
            rw [tos_take hlt]
            refine nodup_snoc hndH.out (fun hm => ?_)
            obtain ⟨x, hx, he⟩ := List.mem_map.1 hm
            obtain ⟨m, hm2, rfl⟩ := List.getElem_of_mem hx
            rw [List.length_take] at hm2
            rw [List.getElem_take] at he
            exact hall m (by omega) hlt (by omega) he
          have hnH := Lib.hid hnew
          have hBJ := Lib.hid hB
          clear hall hB hnew
          go_wp2_with fail
          go_roundw
          case rel => exact ⟨j + 1, by go_num, by omega, hnH.out, hBJ.out⟩
          case measure => simp [intOf]; omega
    · have hkk : i = d.length := by omega
      subst hkk
      have hnd := hndH.out
      rw [List.take_length] at hnd
      have hR := Lib.hid (show decide ((tosD d).Nodup) = true from decide_eq_true hnd)
      clear hnd
      go_wp2_with fail
      go_ret
      rw [hR.out]
      exact ⟨rfl, hBH.out⟩
def rinnRel (d : Ways) (x : Int) (w : World) (i : Value) (wr : World) : Prop := ∃ k : Nat, i = .int .i64 k ∧ k ≤ d.length ∧ x ∉ tosD (d.take k) ∧ w = wr
theorem rin_any {S3 : Nat → Prop} (a3 : Option Addr) (c3 : Nat) (d : Ways) (x : Int) (w : World) (h3 : WaysL S3 w a3 c3 d) :
    Calls Tryz.prog 99 #[.slice a3 d.length c3, .int .i64 x] w fun e w' => e = .returned (.bool ((tosD d).contains x)) ∧ w = w' := by
  have m3 := h3.le
  have h3H := Lib.hid h3
  clear h3
  go_enter Tryz.func99, Tryz.ntmps99
  go_wp2_with fail
  go_loopw [5] (fun i wr => rinnRel d x w i wr) (fun i _ => d.length - (intOf i).toNat)
  case atStart => exact ⟨0, rfl, Nat.zero_le _, by simp [tosD], rfl⟩
  case round =>
    obtain ⟨k, rfl, hk, hnm, rfl⟩ := hrel
    by_cases hlt : k < d.length
    · obtain ⟨b3, o3, ai, ci, rfl, -, qi, -, -, -⟩ := h3H.out.way k hlt
      have htk := tos_take hlt
      have hin : d[k].1 ∈ tosD d := List.mem_map.2 ⟨_, List.getElem_mem hlt, rfl⟩
      obtain ⟨y, hy⟩ : ∃ y, d[k].1 = y := ⟨_, rfl⟩
      rw [hy] at qi htk hin
      by_cases hxy : y = x
      · have hb : (y == x) = true := by simpa using hxy
        have hf : (tosD d).contains x = true := by rw [← hxy]; simpa using hin
        have hfH := Lib.hid hf
        clear hnm htk hin hy hxy hf
        go_wp2_with fail
        go_ret
        rw [hfH.out]
        exact ⟨rfl, rfl⟩
      · have hb : (y == x) = false := by simpa using hxy
        have hn2 : x ∉ tosD (d.take (k + 1)) := by
          rw [htk, List.mem_append, List.mem_singleton]
          exact fun e => e.elim hnm (fun e => hxy e.symm)
        have hnH := Lib.hid hn2
        clear hnm htk hin hy hxy hn2
        go_wp2_with fail
        go_roundw
        case rel => exact ⟨k + 1, by go_num, by omega, hnH.out, rfl⟩
        case measure => simp [intOf]; omega
    · rw [List.take_of_length_le (by omega)] at hnm
      have hf : (tosD d).contains x = false := by
        rw [Bool.eq_false_iff]
        intro e
        exact hnm (by simpa using e)
      have hfH := Lib.hid hf
      clear hnm hf
      go_wp2_with fail
      go_ret
      rw [hfH.out]
      exact ⟨rfl, rfl⟩
def rimgRel (d : Ways) (n : Nat) (w : World) (out i : Value) (wr : World) : Prop := ∃ k : Nat, i = .int .i64 k ∧ k ≤ n ∧ OwnI wr w.heap.size out (imgK d k) ∧ Below w.heap.size w wr
theorem imgK_len (d : Ways) (n : Nat) : (imgK d n).length ≤ n := by unfold imgK; exact Nat.le_trans (List.length_filter_le _ _) (by rw [ascL_len]; exact Nat.le_refl _)
end Go.Proofs.YtnhaoalcpbefoaaGreatDoor

/- Walks: few, small of the laws on tongues. -/
namespace Go.Proofs.YtnhaoalcpbefoaaGreatDoor
open Go Go.RowKit Go.Maps

def fewB (d : Ways) : Bool := d.all (fun x => decide (x.2.length ≤ 40)) && decide (d.length ≤ 40)
theorem fewB_le {d : Ways} (h : fewB d = true) : d.length ≤ 40 ∧ ∀ x ∈ d, x.2.length ≤ 1000 := by
  unfold fewB at h
  rw [Bool.and_eq_true, List.all_eq_true, decide_eq_true_eq] at h
  refine ⟨h.2, fun x hx => ?_⟩
  have := h.1 x hx
  rw [decide_eq_true_eq] at this
  omega
def fewRel (d : Ways) (w : World) (i : Value) (wr : World) : Prop := ∃ k : Nat, i = .int .i64 k ∧ k ≤ d.length ∧ (d.take k).all (fun x => decide (x.2.length ≤ 40)) = true ∧ w = wr
theorem few_any {S3 : Nat → Prop} (a3 : Option Addr) (c3 : Nat) (d : Ways) (w : World) (h3 : WaysL S3 w a3 c3 d) :
    Calls Tryz.prog 18 #[.slice a3 d.length c3] w fun e w' => e = .returned (.bool (fewB d)) ∧ w = w' := by
  have m3 := h3.le
  have h3H := Lib.hid h3
  clear h3
  go_enter Tryz.func18, Tryz.ntmps18
  go_wp2_with fail
  go_loopw [3] (fun i wr => fewRel d w i wr) (fun i _ => d.length - (intOf i).toNat)
  case atStart => exact ⟨0, rfl, Nat.zero_le _, by simp, rfl⟩
  case round =>
    obtain ⟨k, rfl, hk, hal, rfl⟩ := hrel
    by_cases hlt : k < d.length
    · obtain ⟨b3, o3, ai, ci, rfl, -, -, qi, -, hI⟩ := h3H.out.way k hlt
      have hma := hI.le
      have hst : d[k].2.length ≤ 40 → (d.take (k + 1)).all (fun x => decide (x.2.length ≤ 40)) = true := fun h => by
        rw [List.take_succ_eq_append_getElem hlt, List.all_append, hal]
        simpa using h
      have hbad : 40 < d[k].2.length → fewB d = false := fun h => by
        have : d.all (fun x => decide (x.2.length ≤ 40)) = false := by rw [List.all_eq_false]; exact ⟨d[k], List.getElem_mem hlt, by simpa using h⟩
        unfold fewB; rw [this]; rfl
      obtain ⟨n, hn⟩ : ∃ n, d[k].2.length = n := ⟨_, rfl⟩
      rw [hn] at qi hst hbad hma
      by_cases h40 : n ≤ 40
      · have hf := Lib.hid (hst h40)
        clear hst hbad hal hn hI
        go_wp2_with fail
        go_roundw
        case rel => exact ⟨k + 1, by go_num, by omega, hf.out, rfl⟩
        case measure => simp [intOf]; omega
      · have hf := Lib.hid (hbad (by omega))
        clear hst hbad hal hn hI
        go_wp2_with fail
        go_ret
        exact ⟨ret_bool hf.out.symm, rfl⟩
    · rw [List.take_of_length_le (by omega)] at hal
      have hf : fewB d = decide (d.length ≤ 40) := by unfold fewB; rw [hal, Bool.true_and]
      have hfH := Lib.hid hf
      clear hal hf
      go_wp2_with fail
      go_ret
      refine ⟨ret_bool ?_, rfl⟩
      rw [hfH.out, Bool.eq_iff_iff]; simp; omega
def smallTr (a b : Sg) (d : Ways) : Bool := smallT a [] && (smallT b [] && fewB d)
set_option maxHeartbeats 1000000 in
theorem smallTr_any {S1 S2 S3 : Nat → Prop} (a1 a2 a3 : Option Addr) (c1 c2 c3 : Nat) (a b : Sg) (d : Ways) (w : World) (h1 : Sign S1 w a1 c1 a) (h2 : Sign S2 w a2 c2 b) (h3 : WaysL S3 w a3 c3 d) :
    Calls Tryz.prog 8 #[.agg #[.slice a1 a.length c1, .slice a2 b.length c2, .slice a3 d.length c3]] w fun e w' => e = .returned (.bool (smallTr a b d)) ∧ Below w.heap.size w w' := by
  have m1 := h1.le
  have m2 := h2.le
  have m3 := h3.le
  obtain ⟨W, hW⟩ : ∃ W, w.alloc (.cells #[.slice a1 a.length c1, .slice a2 b.length c2, .slice a3 d.length c3] 26) = W := ⟨_, rfl⟩
  have hB : Below w.heap.size w W := by rw [← hW]; exact below1 w _
  have q0 : W.cell? ⟨w.heap.size, 0, none⟩ = some (.slice a1 a.length c1) := by rw [← hW]; clear hW; go_simp
  have q1 : W.cell? ⟨w.heap.size, 1, none⟩ = some (.slice a2 b.length c2) := by rw [← hW]; clear hW; go_simp
  have q2 : W.cell? ⟨w.heap.size, 2, none⟩ = some (.slice a3 d.length c3) := by rw [← hW]; clear hW; go_simp
  have s1 : Calls Tryz.prog 9 #[.slice a1 a.length c1, .slice none 0 0] W fun e w' => e = .returned (.bool (smallT a [])) ∧ W = w' := Small_any a1 none c1 0 a [] W (h1.below hB) (Sl.empty (S := fun _ => True))
  have s2 : Calls Tryz.prog 9 #[.slice a2 b.length c2, .slice none 0 0] W fun e w' => e = .returned (.bool (smallT b [])) ∧ W = w' := Small_any a2 none c2 0 b [] W (h2.below hB) (Sl.empty (S := fun _ => True))
  have s3 := few_any a3 c3 d W (h3.below hB)
  have s1H := Lib.hid s1
  have s2H := Lib.hid s2
  have s3H := Lib.hid s3
  have hBH := Lib.hid hB
  clear s1 s2 s3 hB h1 h2 h3
  unfold smallTr
  cases hx : smallT a [] with
  | false =>
    rw [hx] at s1H
    clear hx
    go_enter Tryz.func8, Tryz.ntmps8
    go_wp2_with fail
    try rw [hW]
    go_wp2_with fail
    refine s1H.out.mono ?_
    rintro e w1 ⟨rfl, rfl⟩
    go_wp2_with fail
    go_ret
    exact ⟨rfl, hBH.out⟩
  | true =>
  rw [hx] at s1H
  cases hy : smallT b [] with
  | false =>
    rw [hy] at s2H
    clear hx hy
    go_enter Tryz.func8, Tryz.ntmps8
    go_wp2_with fail
    try rw [hW]
    go_wp2_with fail
    refine s1H.out.mono ?_
    rintro e w1 ⟨rfl, rfl⟩
    go_wp2_with fail
    refine s2H.out.mono ?_
    rintro e w1 ⟨rfl, rfl⟩
    go_wp2_with fail
    go_ret
    exact ⟨rfl, hBH.out⟩
  | true =>
  rw [hy] at s2H
  obtain ⟨z, hz⟩ : ∃ z, fewB d = z := ⟨_, rfl⟩
  rw [hz] at s3H ⊢
  clear hx hy hz
  go_enter Tryz.func8, Tryz.ntmps8
  go_wp2_with fail
  try rw [hW]
  go_wp2_with fail
  refine s1H.out.mono ?_
  rintro e w1 ⟨rfl, rfl⟩
  go_wp2_with fail
  refine s2H.out.mono ?_
  rintro e w1 ⟨rfl, rfl⟩
  go_wp2_with fail
  refine s3H.out.mono ?_
  rintro e w1 ⟨rfl, rfl⟩
  go_wp2_with fail
  go_ret
  exact ⟨by simp, hBH.out⟩
end Go.Proofs.YtnhaoalcpbefoaaGreatDoor

/- Walks: the reference's composed, Composed. -/
namespace Go.Proofs.YtnhaoalcpbefoaaGreatDoor
open Go Go.RowKit Go.Maps

set_option maxRecDepth 20000 in
set_option maxHeartbeats 4000000 in
theorem rcomposed_any {S1 S2 : Nat → Prop} (a1 a2 : Option Addr) (c1 c2 : Nat) (d e : Ways) (w : World) (h1 : WaysL S1 w a1 c1 d) (h2 : WaysL S2 w a2 c2 e) (hf : Fits d e) :
    Calls Tryz.prog 53 #[.slice a1 d.length c1, .slice a2 e.length c2] w (retWs w (compD d e d.length)) := by
  have m1 := h1.le
  have m2 := h2.le
  have h1H := Lib.hid h1
  have h2H := Lib.hid h2
  obtain ⟨hdl, hf⟩ := hf
  have hfH := Lib.hid hf
  clear h1 h2 hf
  go_enter Tryz.func53, Tryz.ntmps53
  go_wp2_with fail
  go_loopw [5, 6] (fun out i wr => cmRel d e w out i wr) (fun _ i _ => d.length - (intOf i).toNat)
  case atStart => exact ⟨0, rfl, Nat.zero_le _, .nil _ _ _ _ _, .refl _ _⟩
  case round =>
    obtain ⟨k, rfl, hk, ho, hB⟩ := hrel
    by_cases hlt : k < d.length
    · obtain ⟨w0, hw0⟩ : ∃ w0, w0 = wr := ⟨_, rfl⟩
      subst hw0
      obtain ⟨b1, o1, aA, cA, rfl, -, q0, q1, qr, hA⟩ := (h1H.out.below hB).way k hlt
      obtain ⟨f0, f1, f2, f3, f4⟩ := hfH.out k hlt
      obtain ⟨b2, o2, aL, cL, rfl, -, p0, p1, pr, hL⟩ := (h2H.out.below hB).way _ f1
      have hsucc : compD d e (k + 1) = compD d e k ++ [(e[d[k].1.toNat].1, compA d[k].2 e[d[k].1.toNat].2 e[d[k].1.toNat].2.length)] := by
        rw [compD]
        have e1 : d.getD k (0, []) = d[k] := by rw [List.getD_eq_getElem?_getD, List.getElem?_eq_getElem hlt]; rfl
        rw [e1]
        have e2 : e.getD d[k].1.toNat (0, []) = e[d[k].1.toNat] := by rw [List.getD_eq_getElem?_getD, List.getElem?_eq_getElem f1]; rfl
        rw [e2]
      obtain ⟨x, hx⟩ : ∃ x, d[k] = x := ⟨_, rfl⟩
      have hxx : e[x.1.toNat]'(by rw [← hx]; exact f1) = e[d[k].1.toNat] := by simp only [hx]
      obtain ⟨y, hy⟩ : ∃ y, e[d[k].1.toNat] = y := ⟨_, rfl⟩
      rw [hy] at p0 p1 pr hL f3 f4 hsucc
      rw [hx] at q0 q1 qr hA f0 f2 f3 f4 hsucc p0 p1
      have f1' : x.1.toNat < e.length := by rw [← hx]; exact f1
      clear hx hxx hy f1
      obtain ⟨T0, A⟩ := x
      obtain ⟨T, L⟩ := y
      dsimp only at q0 q1 qr hA p0 p1 pr hL f0 f2 f3 f4 hsucc f1'
      obtain ⟨n, rfl⟩ : ∃ n : Nat, T0 = (n : Int) := ⟨T0.toNat, by omega⟩
      rw [Int.toNat_natCast] at p0 p1 f1'
      rw [f3] at hsucc
      obtain ⟨W2, hW2⟩ : ∃ W2, w0.alloc (.cells #[.int .i64 T, .slice none 0 0] 69) = W2 := ⟨_, rfl⟩
      have hb2 : Below w0.heap.size w0 W2 := by rw [← hW2]; exact below1 _ _
      have hx2 : WyBox W2 w0.heap.size T (.slice none 0 0) := by rw [← hW2]; exact .new _ _ _
      have fz := hx2.f1
      have cz := hx2.c1
      have sz : W2.setCell ⟨w0.heap.size, 1, none⟩ (.slice none 0 0) = W2 := by rw [← hW2]; clear hW2 fz cz hx2 hb2; go_simp
      have rH := Lib.hid (fun (W : World) (hb : Below w0.heap.size w0 W) => And.intro (cell_later hb q0) (And.intro (cell_later hb q1) (cell_later hb p1)))
      have hIH := Lib.hid (fun (W : World) (hb : Below w0.heap.size w0 W) => And.intro (hA.below hb) (hL.below hb))
      have hoH := Lib.hid ho
      have hBH := Lib.hid hB
      have hb2H := Lib.hid hb2
      have hsuH := Lib.hid hsucc
      have hx2H := Lib.hid hx2
      have fH := Lib.hid f4
      have f3H := Lib.hid f3
      have mL := hL.le
      have mA := hA.le
      have mL2 : L.length ≤ 1000 := by omega
      clear ho hB hsucc hb2 hx2 hA hL f4 f3
      go_wp2_with fail
      clear hW2 fz cz sz q0 q1 p0 p1
      go_loopw [8] (fun i wr => caRel A L T w0 i wr) (fun i _ => A.length - (intOf i).toNat)
      case atStart => exact ⟨0, none, 0, rfl, Nat.zero_le _, hx2H.out, .nil _ _ _ _ _, hb2H.out⟩
      case round =>
        obtain ⟨q, av, cv, rfl, hq, hbx, hoq, hBq⟩ := hrel
        obtain ⟨W3, hW3⟩ : ∃ W3, W3 = wr := ⟨_, rfl⟩
        subst hW3
        obtain ⟨z0, z1, z2⟩ := rH.out W3 hBq
        have hqA : q ≤ A.length := by have := f3H.out; omega
        clear hq
        by_cases hlt2 : q < A.length
        · obtain ⟨i1, i2⟩ := hIH.out W3 hBq
          have hltL : q < L.length := by have := f3H.out; omega
          obtain ⟨bL, oL, rfl, -, y1, -⟩ := i2.int q hltL
          obtain ⟨g0, g1⟩ := fH.out _ (List.getElem_mem hltL)
          have hgd : L.getD q 0 = L[q] := by rw [List.getD_eq_getElem?_getD, List.getElem?_eq_getElem hltL]; rfl
          have hsu2 : compA A L (q + 1) = compA A L q ++ [A.getD (L[q]).toNat 0] := by rw [compA, hgd]
          obtain ⟨x, hx⟩ : ∃ x, L[q] = x := ⟨_, rfl⟩
          rw [hx] at y1 g0 g1 hsu2
          obtain ⟨j, rfl⟩ : ∃ j : Nat, x = (j : Int) := ⟨x.toNat, by omega⟩
          rw [Int.toNat_natCast] at hsu2
          have hjA : j < A.length := by omega
          obtain ⟨bA, oA, rfl, -, y2, hr2⟩ := i1.int j hjA
          have hgd2 : A.getD j 0 = A[j] := by rw [List.getD_eq_getElem?_getD, List.getElem?_eq_getElem hjA]; rfl
          rw [hgd2] at hsu2
          obtain ⟨z, hz⟩ : ∃ z, A[j] = z := ⟨_, rfl⟩
          rw [hz] at y2 hr2 hsu2
          obtain ⟨v', w', hrun, hc, hfz, hnx⟩ := hbx.push rfl hoq hBq hr2 hsu2 (by rw [compA_len]; omega)
          have c1 := hbx.c1
          have c1d : (W3.alloc (.cells #[.int .i64 z] 3)).cell? ⟨w0.heap.size, 1, none⟩ = some (.slice av q cv) := cell_later (below1 W3 (.cells #[.int .i64 z] 3)) c1
          have rrun := hrun.out
          have rc := hc.out
          have rf := hfz.out
          have hlen : (compA A L (q + 1)).length = q + 1 := compA_len _ _ _
          obtain ⟨av', cv', hv', -⟩ := OwnI.ints hnx.out.2.1
          rw [hlen] at hv'
          subst hv'
          have hbH := Lib.hid hbx.lt
          clear hbx hoq hBq i1 i2 hgd hgd2 hsu2 hx hz hrun hc hfz hlen
          go_wp2_with fail
          go_region_law (rw [if_pos (by kernel_rfl)]; refine oper_append_run (.tmp 36) (.tmp 56) _ rfl rfl rfl rrun ?_)
          all_goals go_wp2_with fail
          all_goals go_roundw
          all_goals first | exact ⟨q + 1, _, _, by go_num, (by have := f3H.out; omega), hnx.out.1, hnx.out.2.1, hnx.out.2.2⟩ | (simp [intOf]; omega)
        · have hqq : q = A.length := by omega
          subst hqq
          have c0 := hbx.c0
          have c1 := hbx.c1
          obtain ⟨av', cv', hv', hIv⟩ := OwnI.ints hoq
          have hlen := compA_len A L A.length
          simp only [Value.slice.injEq] at hv'
          obtain ⟨rfl, -, rfl⟩ := hv'
          obtain ⟨v', w', hrun', ho', hB'⟩ := OwnW.pushU hoH.out hBH.out hBq (x := (T, compA A L A.length)) pr hIv (fun b hb => by omega) hsuH.out (by rw [compD_len]; omega)
          rw [show ((T, compA A L A.length) : Int × List Int).2.length = A.length from hlen] at hrun'
          clear hbx hoq hBq hIv hlen
          go_wp2_with (at_builtin; refine wpList_append_run rfl _ _ _ rfl rfl rfl hrun'.out ?_)
          go_roundw
          case rel => exact ⟨k + 1, by go_num, hlt, ho'.out, hB'.out⟩
          case measure => simp [intOf]; omega
    · have hkn : k = d.length := by omega
      subst hkn
      have hoH := Lib.hid ho
      have hBH := Lib.hid hB
      clear ho hB
      go_wp2_with fail
      go_ret
      exact ⟨_, rfl, hoH.out, hBH.out⟩
end Go.Proofs.YtnhaoalcpbefoaaGreatDoor

/- Walks: tongue.Same; Symmetric and Order of both sides. -/
namespace Go.Proofs.YtnhaoalcpbefoaaGreatDoor
open Go Go.RowKit Go.Maps

set_option maxHeartbeats 1000000 in
theorem SameF_any {S1 S2 : Nat → Prop} (T1 T2 : Int) (a1 a2 : Option Addr) (c1 c2 : Nat) (L1 L2 : List Int) (w : World) (h1 : Ints S1 w a1 c1 L1) (h2 : Ints S2 w a2 c2 L2) :
    Calls Tryz.prog 80 #[.agg #[.int .i64 T1, .slice a1 L1.length c1], .agg #[.int .i64 T2, .slice a2 L2.length c2]] w fun e w' => e = .returned (.bool ((T1 == T2) && decide (L1 = L2))) ∧ Below w.heap.size w w' := by
  have m1 := h1.le
  have m2 := h2.le
  obtain ⟨W1, hW1⟩ : ∃ W1, w.alloc (.cells #[.int .i64 T1, .slice a1 L1.length c1] 69) = W1 := ⟨_, rfl⟩
  have hb1 : Below w.heap.size w W1 := by rw [← hW1]; exact below1 _ _
  have p0 : W1.cell? ⟨w.heap.size, 0, none⟩ = some (.int .i64 T1) := by rw [← hW1]; clear hW1; go_simp
  have p1 : W1.cell? ⟨w.heap.size, 1, none⟩ = some (.slice a1 L1.length c1) := by rw [← hW1]; clear hW1; go_simp
  obtain ⟨W2, hW2⟩ : ∃ W2, W1.alloc (.cells #[.int .i64 T2, .slice a2 L2.length c2] 69) = W2 := ⟨_, rfl⟩
  have hb2 : Below W1.heap.size W1 W2 := by rw [← hW2]; exact below1 _ _
  have r0 := cell_later hb2 p0
  have r1 := cell_later hb2 p1
  have s0 : W2.cell? ⟨W1.heap.size, 0, none⟩ = some (.int .i64 T2) := by rw [← hW2]; clear hW2; go_simp
  have s1 : W2.cell? ⟨W1.heap.size, 1, none⟩ = some (.slice a2 L2.length c2) := by rw [← hW2]; clear hW2; go_simp
  have hB := bcall hb1 hb2
  have ce := EqualI_any a1 a2 c1 c2 L1 L2 W2 (h1.below hB) (h2.below hB)
  obtain ⟨z, hz⟩ : ∃ z, decide (L1 = L2) = z := ⟨_, rfl⟩
  rw [hz] at ce ⊢
  have ceH := Lib.hid ce
  have hBH := Lib.hid hB
  clear h1 h2 hb1 hb2 hB ce hz p0 p1
  cases hT : (T1 == T2) with
  | false =>
    go_enter Tryz.func80, Tryz.ntmps80
    go_wp2_with fail
    go_ret
    exact ⟨by simp, hBH.out⟩
  | true =>
    go_enter Tryz.func80, Tryz.ntmps80
    go_wp2_with fail
    refine ceH.out.mono ?_
    rintro e w3 ⟨rfl, hd3⟩
    go_wp2_with fail
    go_ret
    exact ⟨by simp, bcall hBH.out (hd3.below _)⟩
def seRel (d e : Ways) (w : World) (i : Value) (wr : World) : Prop := ∃ k : Nat, i = .int .i64 k ∧ k ≤ d.length ∧ d.take k = e.take k ∧ Below w.heap.size w wr
set_option maxHeartbeats 2000000 in
theorem EqualWy_any {S1 S2 : Nat → Prop} (a1 a2 : Option Addr) (c1 c2 : Nat) (d e : Ways) (w : World) (h1 : WaysL S1 w a1 c1 d) (h2 : WaysL S2 w a2 c2 e) :
    Calls Tryz.prog 79 #[.slice a1 d.length c1, .slice a2 e.length c2, .func (.func 80) #[] #[]] w fun r w' => r = .returned (.bool (decide (d = e))) ∧ Below w.heap.size w w' := by
  have m1 := h1.le
  have m2 := h2.le
  by_cases hl : d.length = e.length
  case neg =>
    have hb := int_ne hl
    have hR := Lib.hid (show decide (d = e) = false from decide_eq_false (fun x => hl (by rw [x])))
    clear h1 h2 hl
    go_enter Tryz.func79, Tryz.ntmps79
    go_wp2_with fail
    go_ret
    rw [hR.out]
    exact ⟨rfl, .refl _ _⟩
  case pos =>
  have h1H := Lib.hid h1
  have h2H := Lib.hid h2
  have hlH := Lib.hid hl
  have hne : ((d.length : Int) != (e.length : Int)) = false := by rw [hl]; simp
  clear h1 h2 hl
  go_enter Tryz.func79, Tryz.ntmps79
  go_wp2_with fail
  clear hne
  go_loopw [17] (fun i wr => seRel d e w i wr) (fun i _ => d.length - (intOf i).toNat)
  case atStart => exact ⟨0, rfl, Nat.zero_le _, rfl, .refl _ _⟩
  case round =>
    obtain ⟨k, rfl, hk, ht, hB⟩ := hrel
    by_cases hlt : k < d.length
    · have hle := hlH.out
      have hlt2 : k < e.length := by omega
      obtain ⟨b1, o1, ak1, ck1, rfl, -, q0, q1, -, hI1⟩ := (h1H.out.below hB).way k hlt
      obtain ⟨b2, o2, ak2, ck2, rfl, -, q2, q3, -, hI2⟩ := (h2H.out.below hB).way k hlt2
      have hst : d[k] = e[k] → d.take (k + 1) = e.take (k + 1) := fun h => take_oneW hlt hlt2 ht h
      have hbad : d[k] ≠ e[k] → decide (d = e) = false := fun h => decide_eq_false (fun x => h (by simp only [x]))
      obtain ⟨x, hx⟩ : ∃ x, d[k] = x := ⟨_, rfl⟩
      obtain ⟨y, hy⟩ : ∃ y, e[k] = y := ⟨_, rfl⟩
      rw [hx] at q0 q1 hI1 hst hbad
      rw [hy] at q2 q3 hI2 hst hbad
      obtain ⟨T1, L1⟩ := x
      obtain ⟨T2, L2⟩ := y
      dsimp only at q0 q1 q2 q3 hI1 hI2
      have mL1 := hI1.le
      have mL2 := hI2.le
      obtain ⟨w0, hw0⟩ : ∃ w0, w0 = wr := ⟨_, rfl⟩
      subst hw0
      obtain ⟨W1, hW1⟩ : ∃ W1, w0.alloc (.cells #[.int .i64 T1, .slice ak1 L1.length ck1] 69) = W1 := ⟨_, rfl⟩
      have hb1 : Below w0.heap.size w0 W1 := by rw [← hW1]; exact below1 _ _
      have p0 : W1.cell? ⟨w0.heap.size, 0, none⟩ = some (.int .i64 T1) := by rw [← hW1]; clear hW1; go_simp
      have p1 : W1.cell? ⟨w0.heap.size, 1, none⟩ = some (.slice ak1 L1.length ck1) := by rw [← hW1]; clear hW1; go_simp
      have q2' := cell_later hb1 q2
      have q3' := cell_later hb1 q3
      obtain ⟨W2, hW2⟩ : ∃ W2, W1.alloc (.cells #[.int .i64 T2, .slice ak2 L2.length ck2] 69) = W2 := ⟨_, rfl⟩
      have hb2 : Below W1.heap.size W1 W2 := by rw [← hW2]; exact below1 _ _
      have r0 := cell_later hb2 p0
      have r1 := cell_later hb2 p1
      have s0 : W2.cell? ⟨W1.heap.size, 0, none⟩ = some (.int .i64 T2) := by rw [← hW2]; clear hW2; go_simp
      have s1 : W2.cell? ⟨W1.heap.size, 1, none⟩ = some (.slice ak2 L2.length ck2) := by rw [← hW2]; clear hW2; go_simp
      have hBB := bcall hb1 hb2
      have cf := SameF_any T1 T2 ak1 ak2 ck1 ck2 L1 L2 W2 (hI1.below hBB) (hI2.below hBB)
      have hBH := Lib.hid (bcall hB hBB)
      by_cases he : (T1, L1) = (T2, L2)
      · have e0 : ((T1 == T2) && decide (L1 = L2)) = true := by
          obtain ⟨rfl, rfl⟩ : T1 = T2 ∧ L1 = L2 := by injection he with x1 x2; exact ⟨x1, x2⟩
          simp
        rw [e0] at cf
        have cfH := Lib.hid cf
        have hf := Lib.hid (hst he)
        clear cf hst hbad he e0 hB hI1 hI2 hb1 hb2 hBB hx hy ht hle
        go_wp2_with (go_at_call 80; refine cfH.out.mono ?_; rintro e' w5 ⟨rfl, hb5⟩)
        go_roundw
        case rel => exact ⟨k + 1, by go_num, by omega, hf.out, bcall hBH.out hb5⟩
        case measure => simp [intOf]; omega
      · have e0 : ((T1 == T2) && decide (L1 = L2)) = false := by
          rw [Bool.and_eq_false_iff]
          by_cases h0 : T1 = T2
          · right
            rw [decide_eq_false_iff_not]
            exact fun h => he (by rw [h0, h])
          · left; simpa using h0
        rw [e0] at cf
        have cfH := Lib.hid cf
        have hf := Lib.hid (hbad he)
        clear cf hst hbad he e0 hB hI1 hI2 hb1 hb2 hBB hx hy ht hle
        go_wp2_with (go_at_call 80; refine cfH.out.mono ?_; rintro e' w5 ⟨rfl, hb5⟩)
        go_ret
        rw [hf.out]
        exact ⟨rfl, bcall hBH.out hb5⟩
    · have hle := hlH.out
      rw [List.take_of_length_le (by omega), List.take_of_length_le (by omega)] at ht
      have hR := Lib.hid (show decide (d = e) = true from decide_eq_true ht)
      have hBH := Lib.hid hB
      clear ht hB hle
      go_wp2_with fail
      go_ret
      rw [hR.out]
      exact ⟨rfl, hBH.out⟩
theorem tSame_any {S1 S2 : Nat → Prop} (a1 a2 : Option Addr) (c1 c2 : Nat) (d e : Ways) (w : World) (h1 : WaysL S1 w a1 c1 d) (h2 : WaysL S2 w a2 c2 e) :
    Calls Tryz.prog 34 #[.slice a1 d.length c1, .slice a2 e.length c2] w fun r w' => r = .returned (.bool (decide (d = e))) ∧ Below w.heap.size w w' := by
  have m1 := h1.le
  have m2 := h2.le
  have cc := Lib.hid (EqualWy_any a1 a2 c1 c2 d e w h1 h2)
  clear h1 h2
  go_enter Tryz.func34, Tryz.ntmps34
  go_wp2_with fail
  refine cc.out.mono ?_
  rintro e' w3 ⟨rfl, hb3⟩
  go_wp2_with fail
  go_ret
  exact ⟨rfl, hb3⟩
def retBE (r : Bool × Int) (w : World) (e : Ending) (w' : World) : Prop := e = .returned (.tuple #[.bool r.1, .int .i64 r.2]) ∧ Below w.heap.size w w'
def retNE (r : Int × Int) (w : World) (e : Ending) (w' : World) : Prop := e = .returned (.tuple #[.int .i64 r.1, .int .i64 r.2]) ∧ Below w.heap.size w w'
set_option maxHeartbeats 1000000 in
theorem Symmetric_any {S1 S2 S3 : Nat → Prop} (a1 a2 a3 : Option Addr) (c1 c2 c3 : Nat) (s : Sg) (d : Ways) (t : List Int) (w : World) (h1 : Sign S1 w a1 c1 s) (h2 : WaysL S2 w a2 c2 d) (h3 : Ints S3 w a3 c3 t) (hda : ∀ x ∈ d, x.2.length ≤ 1000) :
    Calls Tryz.prog 19 #[.slice a1 s.length c1, .slice a2 d.length c2, .slice a3 t.length c3] w (retBE (symmE s d t) w) := by
  have m1 := h1.le
  have m2 := h2.le
  have m3 := h3.le
  have cc := Carried_any a1 a1 a2 a3 c1 c1 c2 c3 s s d t w h1 h1 h2 h3 hda
  unfold symmE
  by_cases hv : (validD s s d && okT s t) = true
  · rw [if_pos hv]
    obtain ⟨v1, v2⟩ := Bool.and_eq_true_iff.1 hv
    have hok := (carT_ok v1 t.length v2 (Nat.le_refl _)).1
    have hc : crdE s s d t = (carT s d t, 0) := by unfold crdE; rw [if_pos hv]
    have ha : alikeT s t (carT s d t) = decide (canon t = canon (carT s d t)) := by unfold alikeT; rw [v2, hok]; rfl
    have c2 := fun W (hb : Below w.heap.size w W) aU cU (hU : Ints (fun b => w.heap.size ≤ b) W aU cU (carT s d t)) => Alike_any a1 a3 aU c1 c3 cU s t (carT s d t) W (h1.below hb) (h3.below hb) hU
    simp only [ha] at c2
    rw [hc] at cc
    obtain ⟨R, hR⟩ : ∃ R, carT s d t = R := ⟨_, rfl⟩
    rw [hR] at cc ⊢
    simp only [hR] at c2
    obtain ⟨z, hz⟩ : ∃ z, decide (canon t = canon R) = z := ⟨_, rfl⟩
    rw [hz]
    simp only [hz] at c2
    have ccH := Lib.hid cc
    have c2H := Lib.hid c2
    clear cc c2 h1 h2 h3 hv v1 v2 hok hc ha hR hz hda
    go_enter Tryz.func19, Tryz.ntmps19
    go_wp2_with fail
    refine ccH.out.mono ?_
    rintro e w1 ⟨aU, cU, rfl, hU, hb1⟩
    have mU := hU.le
    have c3 := Lib.hid (c2H.out _ hb1 aU cU hU)
    have hb1H := Lib.hid hb1
    clear hU hb1 ccH c2H
    go_wp2_with fail
    refine c3.out.mono ?_
    rintro e w2 ⟨rfl, hb2⟩
    go_wp2_with fail
    go_ret2
    exact ⟨rfl, bcall hb1H.out hb2⟩
  · rw [if_neg hv]
    have hc : crdE s s d t = ([], 1) := by unfold crdE; rw [if_neg hv]
    rw [hc] at cc
    have ccH := Lib.hid cc
    clear cc h1 h2 h3 hv hc hda
    go_enter Tryz.func19, Tryz.ntmps19
    go_wp2_with fail
    refine ccH.out.mono ?_
    rintro e w1 ⟨aU, cU, rfl, hU, hb1⟩
    clear hU
    go_wp2_with fail
    go_ret2
    exact ⟨rfl, hb1⟩
set_option maxHeartbeats 1000000 in
theorem rSymmetric_any {S1 S2 S3 : Nat → Prop} (a1 a2 a3 : Option Addr) (c1 c2 c3 : Nat) (s : Sg) (d : Ways) (t : List Int) (w : World) (h1 : Sign S1 w a1 c1 s) (h2 : WaysL S2 w a2 c2 d) (h3 : Ints S3 w a3 c3 t) :
    Calls Tryz.prog 20 #[.slice a1 s.length c1, .slice a2 d.length c2, .slice a3 t.length c3] w (retBE (symmE s d t) w) := by
  have m1 := h1.le
  have m2 := h2.le
  have m3 := h3.le
  have v1 : Calls _ _ _ _ _ := (rValid3_any a1 a1 a2 c1 c1 c2 s s d w h1 h1 h2).mono (fun e w' h => And.intro h.1 (h.2.below w.heap.size))
  have v2 := fun W (hb : Below w.heap.size w W) => (rValid_any a1 a3 c1 c3 s t W (h1.below hb) (h3.below hb)).mono (fun e w' h => And.intro h.1 (h.2.below W.heap.size))
  unfold symmE
  cases hx : validD s s d with
  | false =>
    rw [hx] at v1
    have v1H := Lib.hid v1
    clear v1 v2 h1 h2 h3 hx
    go_enter Tryz.func20, Tryz.ntmps20
    go_wp2_with fail
    refine v1H.out.mono ?_
    rintro e w1 ⟨rfl, hb1⟩
    go_wp2_with fail
    go_ret2
    exact ⟨rfl, hb1⟩
  | true =>
  rw [hx] at v1
  cases hy : okT s t with
  | false =>
    simp only [hy] at v2
    have v1H := Lib.hid v1
    have v2H := Lib.hid v2
    clear v1 v2 h1 h2 h3 hx hy
    go_enter Tryz.func20, Tryz.ntmps20
    go_wp2_with fail
    refine v1H.out.mono ?_
    rintro e w1 ⟨rfl, hb1⟩
    go_wp2_with fail
    refine (v2H.out _ hb1).mono ?_
    rintro e w2 ⟨rfl, hb2⟩
    go_wp2_with fail
    go_ret2
    exact ⟨rfl, bcall hb1 hb2⟩
  | true =>
  simp only [hy] at v2
  have hok := (carT_ok hx t.length hy (Nat.le_refl _)).1
  have o1 := okT_parts hy
  have o2 := okT_parts hok
  have v3 := fun W (hb : Below w.heap.size w W) => rCarry_any a1 a3 a2 c1 c3 c2 s s d t W (h1.below hb) (h2.below hb) (h3.below hb) hx hy
  have v4 := fun W aU cU (hU : Ints (fun _ => True) W aU cU (carT s d t)) => Renamed_any aU cU (carT s d t) W hU (by unfold lim; omega) (okT_tame hok) (okT_ne hok)
  have v5 := fun W (hb : Below w.heap.size w W) => Renamed_any a3 c3 t W (h3.below hb) (by unfold lim; omega) (okT_tame hy) (okT_ne hy)
  have hsy : decide (canon (carT s d t) = canon t) = decide (canon t = canon (carT s d t)) := by
    rw [Bool.eq_iff_iff, decide_eq_true_eq, decide_eq_true_eq]; exact eq_comm
  have v6 := fun W aX cX aY cY (hX : Ints (fun _ => True) W aX cX (canon (carT s d t))) (hY : Ints (fun _ => True) W aY cY (canon t)) => Same_any aX aY cX cY _ _ W hX hY
  simp only [hsy] at v6
  rw [show (true && true) = true from rfl, if_pos rfl]
  obtain ⟨z, hz⟩ : ∃ z, decide (canon t = canon (carT s d t)) = z := ⟨_, rfl⟩
  rw [hz]
  simp only [hz] at v6
  obtain ⟨R, hR⟩ : ∃ R, carT s d t = R := ⟨_, rfl⟩
  simp only [hR] at v3 v4 v6
  obtain ⟨K1, hK1⟩ : ∃ K, canon R = K := ⟨_, rfl⟩
  obtain ⟨K2, hK2⟩ : ∃ K, canon t = K := ⟨_, rfl⟩
  simp only [hK1] at v4 v6
  simp only [hK2] at v5 v6
  have v1H := Lib.hid v1
  have v2H := Lib.hid v2
  have v3H := Lib.hid v3
  have v4H := Lib.hid v4
  have v5H := Lib.hid v5
  have v6H := Lib.hid v6
  clear v1 v2 v3 v4 v5 v6 h1 h2 h3 hx hy hok o1 o2 hsy hz hR hK1 hK2
  go_enter Tryz.func20, Tryz.ntmps20
  go_wp2_with fail
  refine v1H.out.mono ?_
  rintro e w1 ⟨rfl, hb1⟩
  go_wp2_with fail
  refine (v2H.out _ hb1).mono ?_
  rintro e w2 ⟨rfl, hb2⟩
  have hB2 := bcall hb1 hb2
  have hB2H := Lib.hid hB2
  have c3 := Lib.hid (v3H.out _ hB2)
  clear hB2 hb1 hb2
  go_wp2_with fail
  refine c3.out.mono ?_
  rintro e w3 ⟨u3, rfl, ho3, hb3⟩
  obtain ⟨aU, cU, rfl, hU⟩ := OwnI.ints ho3
  have hB3H := Lib.hid (bcall hB2H.out hb3)
  have c4 := Lib.hid (v4H.out _ _ _ hU.any)
  have mU := hU.le
  clear ho3 hU hb3
  go_wp2_with fail
  refine c4.out.mono ?_
  rintro e w4 ⟨u4, rfl, ho4, hb4⟩
  obtain ⟨aX, cX, rfl, hX⟩ := OwnI.ints ho4
  have hB4H := Lib.hid (bcall hB3H.out hb4)
  have hXH := Lib.hid hX
  have mX := hX.le
  have c5 := Lib.hid (v5H.out _ hB4H.out)
  clear ho4 hX hb4
  go_wp2_with fail
  refine c5.out.mono ?_
  rintro e w5 ⟨u5, rfl, ho5, hb5⟩
  obtain ⟨aY, cY, rfl, hY⟩ := OwnI.ints ho5
  have hB5H := Lib.hid (bcall hB4H.out hb5)
  have mY := hY.le
  have c6 := Lib.hid (v6H.out _ _ _ _ _ (hXH.out.below hb5).any hY.any)
  clear ho5 hY hb5
  go_wp2_with fail
  refine c6.out.mono ?_
  rintro e w6 ⟨rfl, hd6⟩
  go_wp2_with fail
  go_ret2
  exact ⟨rfl, bcall hB5H.out (hd6.below _)⟩
theorem valid_args3 {a b : Sg} {d : Ways} (h : validD a b d = true) : ∀ x ∈ d, x.2.length ≤ 1000 := fun x hx => by
  obtain ⟨i, hi, rfl⟩ := List.getElem_of_mem hx
  obtain ⟨h1, -, h3, -⟩ := validD_parts h
  obtain ⟨-, -, -, v4, -⟩ := validD_at h (i := i) (by omega)
  obtain ⟨n, e1, e2, e3, e4⟩ := arAt_nat h1 (k := i) (by omega)
  rw [getD_at hi] at v4
  omega
/-- a dictionary so many times, in a loop -/
def odRel (d : Ways) (K : Nat) (w : World) (n e : Value) (wr : World) : Prop := ∃ (k : Nat) (a : Option Addr) (c : Nat), n = .int .i64 ((k : Int) + 1) ∧ k ≤ K ∧ e = .slice a (powD d k).length c ∧ WaysL (fun _ => True) wr a c (powD d k) ∧ Below w.heap.size w wr
set_option maxRecDepth 20000 in
set_option maxHeartbeats 2000000 in
theorem Order_any {S1 S2 : Nat → Prop} (a1 a2 : Option Addr) (c1 c2 : Nat) (s : Sg) (d : Ways) (w : World) (h1 : Sign S1 w a1 c1 s) (h2 : WaysL S2 w a2 c2 d) (hda : ∀ x ∈ d, x.2.length ≤ 1000) :
    Calls Tryz.prog 21 #[.slice a1 s.length c1, .slice a2 d.length c2] w (retNE (ordE s d) w) := by
  have m1 := h1.le
  have m2 := h2.le
  have v1 := tValid_any a1 a1 a2 c1 c1 c2 s s d w h1 h1 h2 hda
  unfold ordE
  cases hx : validD s s d with
  | false =>
    rw [hx] at v1
    have v1H := Lib.hid v1
    clear v1 h1 h2 hx hda
    go_enter Tryz.func21, Tryz.ntmps21
    go_wp2_with fail
    refine v1H.out.mono ?_
    rintro e w1 ⟨rfl, hb1⟩
    go_wp2_with fail
    go_ret2
    exact ⟨rfl, hb1⟩
  | true =>
  rw [hx] at v1
  obtain ⟨l1, l2, l3⟩ := validD_len hx
  have v2 := fun W (hb : Below w.heap.size w W) => single_any a1 a1 a2 c1 c1 c2 s s d W (h2.below hb) (by omega)
  cases ho : oneB s s d with
  | false =>
    simp only [ho] at v2
    have v1H := Lib.hid v1
    have v2H := Lib.hid v2
    clear v1 v2 h1 h2 hx hda ho
    go_enter Tryz.func21, Tryz.ntmps21
    go_wp2_with fail
    refine v1H.out.mono ?_
    rintro e w1 ⟨rfl, hb1⟩
    go_wp2_with fail
    refine (v2H.out _ hb1).mono ?_
    rintro e w2 ⟨rfl, hb2⟩
    go_wp2_with fail
    go_ret2
    exact ⟨rfl, bcall hb1 hb2⟩
  | true =>
  simp only [ho] at v2
  obtain ⟨k1, k2, k3⟩ := ordK_spec hx ho
  obtain ⟨K, hK⟩ : ∃ K, ordK s d = K := ⟨_, rfl⟩
  rw [hK] at k1 k2 k3
  rw [if_pos rfl, if_pos rfl, hK]
  have hs := (validD_parts hx).1
  have v3 := fun W (hb : Below w.heap.size w W) => itself_any a1 c1 s W (h1.below hb) hs
  have v4 := fun W (hb : Below w.heap.size w W) k aE cE (hE : WaysL (fun _ => True) W aE cE (powD d k)) => composed_any aE a2 cE c2 (powD d k) d W hE (h2.below hb) (fits_valid (powD_valid hx k) hx)
  have v1H := Lib.hid v1
  have v2H := Lib.hid v2
  have v3H := Lib.hid v3
  have v4H := Lib.hid v4
  have h2H := Lib.hid h2
  have k1H := Lib.hid k1
  have k2H := Lib.hid k2
  clear v1 v2 v3 v4 h1 h2 hx hda ho hK hs k1 k2 l1 l2 l3
  go_enter Tryz.func21, Tryz.ntmps21
  go_wp2_with fail
  refine v1H.out.mono ?_
  rintro e w1 ⟨rfl, hb1⟩
  go_wp2_with fail
  refine (v2H.out _ hb1).mono ?_
  rintro e w2 ⟨rfl, hb2⟩
  have hB2 := Lib.hid (bcall hb1 hb2)
  clear hb1 hb2 v1H v2H
  go_wp2_with fail
  go_loopw [6, 7] (fun n e wr => odRel d K w n e wr) (fun n _ _ => K + 1 - (intOf n).toNat)
  case atStart => exact ⟨0, a2, c2, rfl, Nat.zero_le _, rfl, (h2H.out.below hB2.out).any, hB2.out⟩
  case round =>
    obtain ⟨k, aE, cE, rfl, hk, rfl, hE, hB⟩ := hrel
    have c3 := Lib.hid (v3H.out wr hB)
    have mE := hE.le
    obtain ⟨D, hD⟩ : ∃ D, powD d k = D := ⟨_, rfl⟩
    have c4 := fun W (hb : Below w.heap.size w W) (hE : WaysL (fun _ => True) W aE cE (powD d k)) => v4H.out W hb k aE cE hE
    have hn := fun (h : decide (D = itsD s s.length) = false) => show k < K from by
      rw [decide_eq_false_iff_not, ← hD] at h
      by_cases e : k = K
      · rw [e] at h; exact (h k1H.out).elim
      · omega
    have hy := fun (h : decide (D = itsD s s.length) = true) => show k = K from by
      rw [decide_eq_true_eq, ← hD] at h
      by_cases e : k = K
      · exact e
      · exact (k2H.out k (by omega) h).elim
    have hpw : compD D d D.length = powD d (k + 1) := by rw [powD, hD]
    rw [hD] at hE mE ⊢
    simp only [hD, hpw] at c4
    have c4H := Lib.hid c4
    have hEH := Lib.hid hE
    have hBH := Lib.hid hB
    clear hE hB hD c4 hpw
    go_wp2_with fail
    refine c3.out.mono ?_
    rintro e w3 ⟨v3, rfl, ho3, hb3⟩
    obtain ⟨aI, cI, rfl, hI⟩ := OwnL.sl ho3
    have hB3H := Lib.hid (bcall hBH.out hb3)
    have hE3 := Lib.hid (hEH.out.below hb3)
    have mI := hI.le
    have c5 := tSame_any aE aI cE cI D (itsD s s.length) w3 hE3.out hI
    clear ho3 hI hb3 c3
    cases hz : decide (D = itsD s s.length) with
    | true =>
      have hkK := hy hz
      rw [hz] at c5
      have c5H := Lib.hid c5
      subst hkK
      clear c5 hn hy hz
      go_wp2_with fail
      refine c5H.out.mono ?_
      rintro e w4 ⟨rfl, hb4⟩
      go_wp2_with fail
      go_ret2
      exact ⟨rfl, bcall hB3H.out hb4⟩
    | false =>
      have hkK := hn hz
      rw [hz] at c5
      have c5H := Lib.hid c5
      clear c5 hn hy hz
      go_wp2_with fail
      refine c5H.out.mono ?_
      rintro e w4 ⟨rfl, hb4⟩
      have hB4H := Lib.hid (bcall hB3H.out hb4)
      have c6 := Lib.hid (c4H.out _ hB4H.out (hE3.out.below hb4))
      clear hb4 c5H c4H
      go_wp2_with fail
      refine c6.out.mono ?_
      rintro e w5 ⟨v5, rfl, ho5, hb5⟩
      obtain ⟨aC, cC, rfl, hC⟩ := OwnL.sl ho5
      have hCH := Lib.hid hC
      have hB5H := Lib.hid (bcall hB4H.out hb5)
      clear ho5 hC hb5 c6
      go_wp2_with fail
      go_roundw
      case rel => exact ⟨k + 1, aC, cC, by go_num, by omega, rfl, Sl.any hCH.out, hB5H.out⟩
      case measure => simp [intOf]; omega
set_option maxRecDepth 20000 in
set_option maxHeartbeats 2000000 in
theorem rOrder_any {S1 S2 : Nat → Prop} (a1 a2 : Option Addr) (c1 c2 : Nat) (s : Sg) (d : Ways) (w : World) (h1 : Sign S1 w a1 c1 s) (h2 : WaysL S2 w a2 c2 d) :
    Calls Tryz.prog 22 #[.slice a1 s.length c1, .slice a2 d.length c2] w (retNE (ordE s d) w) := by
  have m1 := h1.le
  have m2 := h2.le
  have v1 : Calls _ _ _ _ _ := (rValid3_any a1 a1 a2 c1 c1 c2 s s d w h1 h1 h2).mono (fun e w' h => And.intro h.1 (h.2.below w.heap.size))
  unfold ordE
  cases hx : validD s s d with
  | false =>
    rw [hx] at v1
    have v1H := Lib.hid v1
    clear v1 h1 h2 hx
    go_enter Tryz.func22, Tryz.ntmps22
    go_wp2_with fail
    refine v1H.out.mono ?_
    rintro e w1 ⟨rfl, hb1⟩
    go_wp2_with fail
    go_ret2
    exact ⟨rfl, hb1⟩
  | true =>
  rw [hx] at v1
  have v2 := fun W (hb : Below w.heap.size w W) => (rOneToOne_any a1 a1 a2 c1 c1 c2 s s d W (h1.below hb) (h1.below hb) (h2.below hb)).mono (fun e w' h => And.intro h.1 (h.2.below W.heap.size))
  rw [hx, Bool.true_and] at v2
  cases ho : oneB s s d with
  | false =>
    simp only [ho] at v2
    have v1H := Lib.hid v1
    have v2H := Lib.hid v2
    clear v1 v2 h1 h2 hx ho
    go_enter Tryz.func22, Tryz.ntmps22
    go_wp2_with fail
    refine v1H.out.mono ?_
    rintro e w1 ⟨rfl, hb1⟩
    go_wp2_with fail
    refine (v2H.out _ hb1).mono ?_
    rintro e w2 ⟨rfl, hb2⟩
    go_wp2_with fail
    go_ret2
    exact ⟨rfl, bcall hb1 hb2⟩
  | true =>
  simp only [ho] at v2
  obtain ⟨k1, k2, k3⟩ := ordK_spec hx ho
  obtain ⟨K, hK⟩ : ∃ K, ordK s d = K := ⟨_, rfl⟩
  rw [hK] at k1 k2 k3
  rw [if_pos rfl, if_pos rfl, hK]
  have hs := (validD_parts hx).1
  have v3 := fun W (hb : Below w.heap.size w W) => rItself_any a1 c1 s W (h1.below hb)
  have hit : itsE s = (itsD s s.length, 0) := by unfold itsE; rw [if_pos hs]
  simp only [hit] at v3
  have v4 := fun W (hb : Below w.heap.size w W) k aE cE (hE : WaysL (fun _ => True) W aE cE (powD d k)) => rcomposed_any aE a2 cE c2 (powD d k) d W hE (h2.below hb) (fits_valid (powD_valid hx k) hx)
  have v1H := Lib.hid v1
  have v2H := Lib.hid v2
  have v3H := Lib.hid v3
  have v4H := Lib.hid v4
  have h2H := Lib.hid h2
  have k1H := Lib.hid k1
  have k2H := Lib.hid k2
  clear v1 v2 v3 v4 h1 h2 hx ho hK hs k1 k2 hit
  go_enter Tryz.func22, Tryz.ntmps22
  go_wp2_with fail
  refine v1H.out.mono ?_
  rintro e w1 ⟨rfl, hb1⟩
  go_wp2_with fail
  refine (v2H.out _ hb1).mono ?_
  rintro e w2 ⟨rfl, hb2⟩
  have hB2 := Lib.hid (bcall hb1 hb2)
  have c3 := Lib.hid (v3H.out _ hB2.out)
  clear hb1 hb2 v1H v2H v3H
  go_wp2_with fail
  refine c3.out.mono ?_
  rintro e w3 ⟨aI, cI, rfl, hI, hb3⟩
  have hB3 := Lib.hid (bcall hB2.out hb3)
  have hIH := Lib.hid (fun W (hb : Below w3.heap.size w3 W) => hI.below hb)
  have mI := hI.le
  clear hI hb3 c3 hB2
  go_wp2_with fail
  go_loopw [8, 9] (fun n e wr => odRel d K w3 n e wr) (fun n _ _ => K + 1 - (intOf n).toNat)
  case atStart => exact ⟨0, a2, c2, rfl, Nat.zero_le _, rfl, (h2H.out.below hB3.out).any, .refl _ _⟩
  case round =>
    obtain ⟨k, aE, cE, rfl, hk, rfl, hE, hB⟩ := hrel
    have mE := hE.le
    obtain ⟨D, hD⟩ : ∃ D, powD d k = D := ⟨_, rfl⟩
    have c4 := fun W (hb : Below w.heap.size w W) (hE : WaysL (fun _ => True) W aE cE (powD d k)) => v4H.out W hb k aE cE hE
    have hn := fun (h : decide (D = itsD s s.length) = false) => show k < K from by
      rw [decide_eq_false_iff_not, ← hD] at h
      by_cases e : k = K
      · rw [e] at h; exact (h k1H.out).elim
      · omega
    have hy := fun (h : decide (D = itsD s s.length) = true) => show k = K from by
      rw [decide_eq_true_eq, ← hD] at h
      by_cases e : k = K
      · exact e
      · exact (k2H.out k (by omega) h).elim
    have hpw : compD D d D.length = powD d (k + 1) := by rw [powD, hD]
    rw [hD] at hE mE ⊢
    simp only [hD, hpw] at c4
    have c5 := rSame3_any aE aI cE cI D (itsD s s.length) wr hE (hIH.out wr hB)
    have c4H := Lib.hid c4
    have hEH := Lib.hid hE
    have hBH := Lib.hid hB
    clear hE hB hD c4 hpw
    cases hz : decide (D = itsD s s.length) with
    | true =>
      have hkK := hy hz
      rw [hz] at c5
      have c5H := Lib.hid c5
      subst hkK
      clear c5 hn hy hz
      go_wp2_with fail
      refine c5H.out.mono ?_
      rintro e w4 ⟨rfl, hd4⟩
      go_wp2_with fail
      go_ret2
      exact ⟨rfl, bcall (bcall hB3.out hBH.out) (hd4.below _)⟩
    | false =>
      have hkK := hn hz
      rw [hz] at c5
      have c5H := Lib.hid c5
      clear c5 hn hy hz
      go_wp2_with fail
      refine c5H.out.mono ?_
      rintro e w4 ⟨rfl, hd4⟩
      have hb4 := hd4.below wr.heap.size
      have hB4H := Lib.hid (bcall hBH.out hb4)
      have c6 := Lib.hid (c4H.out _ (bcall hB3.out hB4H.out) (hEH.out.below hb4))
      clear hb4 c5H c4H hd4
      go_wp2_with fail
      refine c6.out.mono ?_
      rintro e w5 ⟨v5, rfl, ho5, hb5⟩
      obtain ⟨aC, cC, rfl, hC⟩ := OwnL.sl ho5
      have hCH := Lib.hid hC
      have hB5H := Lib.hid (bcall hB4H.out hb5)
      clear ho5 hC hb5 c6
      go_wp2_with fail
      go_roundw
      case rel => exact ⟨k + 1, aC, cC, by go_num, by omega, rfl, Sl.any hCH.out, hB5H.out⟩
      case measure => simp [intOf]; omega
end Go.Proofs.YtnhaoalcpbefoaaGreatDoor

/- The law TongueTurns, walked. -/
namespace Go.Proofs.YtnhaoalcpbefoaaGreatDoor
open Go Go.RowKit Go.Maps

theorem ord_cases (s : Sg) (d : Ways) : ((ordE s d).2 ≠ 0) ∨ (validD s s d = true ∧ oneB s s d = true ∧ ordE s d = (((ordK s d : Nat) : Int) + 1, 0)) := by
  unfold ordE
  cases h1 : validD s s d
  · left; simp
  · cases h2 : oneB s s d
    · left; simp
    · right; simp
theorem cmpE_okT {a b c : Sg} {d e : Ways} (h1 : validD a b d = true) (h2 : validD b c e = true) : cmpE a b c d e = (compD d e d.length, 0) := by
  unfold cmpE
  rw [h1, h2, Bool.and_self, if_pos rfl]
def ttRel (d : Ways) (K : Nat) (W1 : World) (now k : Value) (wr : World) : Prop := ∃ (j : Nat) (a : Option Addr) (c : Nat), k = .int .i64 ((j : Int) + 1) ∧ j ≤ K + 1 ∧ now = .slice a (powD d j).length c ∧ WaysL (fun _ => True) wr a c (powD d j) ∧ Below W1.heap.size W1 wr
set_option maxRecDepth 100000 in
set_option maxHeartbeats 8000000 in
theorem TongueTurns_walk {S1 S2 S3 : Nat → Prop} (a1 : Option Addr) (c1 : Nat) (s : Sg) (a2 : Option Addr) (c2 : Nat) (d : Ways) (a3 : Option Addr) (c3 : Nat) (t : List Int) (w : World) (h1 : Sign S1 w a1 c1 s) (h2 : WaysL S2 w a2 c2 d) (h3 : Ints S3 w a3 c3 t) :
    Calls Tryz.prog 4 #[.slice a1 s.length c1, .slice a2 d.length c2, .slice a3 t.length c3] w fun e w' => e = .returned (.bool true) ∧ Below w.heap.size w w' := by
  have m1 := h1.le
  have m2 := h2.le
  have m3 := h3.le
  obtain ⟨W, hW⟩ : ∃ W, w.alloc (.cells #[.slice a3 t.length c3] 28) = W := ⟨_, rfl⟩
  have hB : Below w.heap.size w W := by rw [← hW]; exact below1 w _
  have hTs := Sl.new (E := slE intE) (S := fun _ => True) w [[.slice a3 t.length c3]] [t] 28 rfl (by unfold big; simp) (fun i g1 g2 => by
      match i, g1 with
      | 0, _ => exact ⟨_, _, rfl, h3.any⟩)
  have sm : Calls Tryz.prog 9 #[.slice a1 s.length c1, .slice (some ⟨w.heap.size, 0, none⟩) 1 1] W fun e w' => e = .returned (.bool (smallT s [t])) ∧ W = w' := Small_any a1 (some ⟨w.heap.size, 0, none⟩) c1 1 s [t] W (h1.below hB) (by rw [← hW]; exact hTs.any)
  have fw := few_any a2 c2 d W (h2.below hB)
  have aw := Lib.hid (fun W' (hb : Below w.heap.size w W') => aw3_from hb (Nat.le_refl _))
  have hBH := Lib.hid hB
  have h1H := Lib.hid h1
  have h2H := Lib.hid h2
  have h3H := Lib.hid h3
  clear hTs h1 h2 h3 hB
  cases z0 : smallT s [t] with
  | false =>
    rw [z0] at sm
    have smH := Lib.hid sm
    clear sm fw z0
    go_enter Tryz.func4, Tryz.ntmps4
    go_wp2_with fail
    try rw [hW]
    refine smH.out.mono ?_
    rintro e w1 ⟨rfl, rfl⟩
    go_wp2_with fail
    refine (aw.out _ hBH.out).mono ?_
    rintro e w2 ⟨rfl, hb2⟩
    go_wp2_with fail
    go_ret
    exact ⟨rfl, hb2⟩
  | true =>
  rw [z0] at sm
  have smH := Lib.hid sm
  cases z1 : fewB d with
  | false =>
    rw [z1] at fw
    have fwH := Lib.hid fw
    clear sm fw z0 z1
    go_enter Tryz.func4, Tryz.ntmps4
    go_wp2_with fail
    try rw [hW]
    refine smH.out.mono ?_
    rintro e w1 ⟨rfl, rfl⟩
    go_wp2_with fail
    refine fwH.out.mono ?_
    rintro e w1 ⟨rfl, rfl⟩
    go_wp2_with fail
    refine (aw.out _ hBH.out).mono ?_
    rintro e w2 ⟨rfl, hb2⟩
    go_wp2_with fail
    go_ret
    exact ⟨rfl, hb2⟩
  | true =>
  rw [z1] at fw
  have fwH := Lib.hid fw
  have hda := (fewB_le z1).2
  have v1 := fun W' (hb : Below w.heap.size w W') => Symmetric_any a1 a2 a3 c1 c2 c3 s d t W' (h1H.out.below hb) (h2H.out.below hb) (h3H.out.below hb) hda
  have v2 := fun W' (hb : Below w.heap.size w W') => rSymmetric_any a1 a2 a3 c1 c2 c3 s d t W' (h1H.out.below hb) (h2H.out.below hb) (h3H.out.below hb)
  have v3 := fun W' (hb : Below w.heap.size w W') => Order_any a1 a2 c1 c2 s d W' (h1H.out.below hb) (h2H.out.below hb) hda
  have v4 := fun W' (hb : Below w.heap.size w W') => rOrder_any a1 a2 c1 c2 s d W' (h1H.out.below hb) (h2H.out.below hb)
  obtain ⟨⟨P, E⟩, hP⟩ : ∃ x, symmE s d t = x := ⟨_, rfl⟩
  simp only [hP] at v1 v2
  have f1 : (P != P) = false := by simp
  have f2 : (E != E) = false := by simp
  have hoc := ord_cases s d
  obtain ⟨⟨N, G⟩, hN⟩ : ∃ x, ordE s d = x := ⟨_, rfl⟩
  rw [hN] at hoc
  simp only [hN] at v3 v4
  have f3 : (N != N) = false := by simp
  have f4 : (G != G) = false := by simp
  have v1H := Lib.hid v1
  have v2H := Lib.hid v2
  have v3H := Lib.hid v3
  have v4H := Lib.hid v4
  have hdaH := Lib.hid hda
  have hocH := Lib.hid hoc
  clear sm fw z0 z1 hda v1 v2 v3 v4 hP hN hoc
  go_enter Tryz.func4, Tryz.ntmps4
  go_wp2_with fail
  try rw [hW]
  refine smH.out.mono ?_
  rintro e w1 ⟨rfl, rfl⟩
  go_wp2_with fail
  refine fwH.out.mono ?_
  rintro e w1 ⟨rfl, rfl⟩
  clear hW smH fwH
  go_wp2_with fail
  refine (v1H.out _ hBH.out).mono ?_
  rintro e w2 ⟨rfl, hb2⟩
  have hB2 := Lib.hid (bcall hBH.out hb2)
  clear hb2 v1H
  go_wp2_with fail
  refine (v2H.out _ hB2.out).mono ?_
  rintro e w3 ⟨rfl, hb3⟩
  have hB3 := Lib.hid (bcall hB2.out hb3)
  clear hb3 v2H hB2
  go_wp2_with fail
  refine (v3H.out _ hB3.out).mono ?_
  rintro e w4 ⟨rfl, hb4⟩
  have hB4 := Lib.hid (bcall hB3.out hb4)
  clear hb4 v3H hB3
  go_wp2_with fail
  refine (v4H.out _ hB4.out).mono ?_
  rintro e w5 ⟨rfl, hb5⟩
  have hB5 := Lib.hid (bcall hB4.out hb5)
  clear hb5 v4H hB4 hBH
  rcases hocH.out with hG | ⟨hv, ho, hNe⟩
  · have f5 : (G != 0) = true := by simpa using hG
    clear hG hocH
    go_wp2_with fail
    refine (aw.out _ hB5.out).mono ?_
    rintro e w6 ⟨rfl, hb6⟩
    go_wp2_with fail
    go_ret
    exact ⟨rfl, hb6⟩
  obtain ⟨k1, k2, k3⟩ := ordK_spec hv ho
  obtain ⟨K, hK⟩ : ∃ K, ordK s d = K := ⟨_, rfl⟩
  rw [hK] at k1 k2 k3 hNe
  obtain ⟨rfl, rfl⟩ : N = (K : Int) + 1 ∧ G = 0 := by
    injection hNe with x1 x2
    exact ⟨x1, x2⟩
  by_cases hbig : 1000 < (K : Int) + 1
  · clear hv ho hNe hK k1 k2 hocH
    go_wp2_with fail
    refine (aw.out _ hB5.out).mono ?_
    rintro e w6 ⟨rfl, hb6⟩
    go_wp2_with fail
    go_ret
    exact ⟨rfl, hb6⟩
  have c6 := Itself_any a1 c1 s w5 (h1H.out.below hB5.out)
  have hit : itsE s = (itsD s s.length, 0) := by unfold itsE; rw [if_pos (validD_parts hv).1]
  rw [hit] at c6
  have hcm := fun j => cmpE_okT (powD_valid hv j) hv
  have hpa := fun j => valid_args3 (powD_valid hv j)
  have c6H := Lib.hid c6
  have hcmH := Lib.hid hcm
  have hpaH := Lib.hid hpa
  have k1H := Lib.hid k1
  have k2H := Lib.hid k2
  clear hv ho hNe hK k1 k2 hocH hit c6 hcm hpa f1 f2 f3 f4 k3
  go_wp2_with fail
  refine c6H.out.mono ?_
  rintro e w6 ⟨aI, cI, rfl, hI, hb6⟩
  have hB6 := Lib.hid (bcall hB5.out hb6)
  have hIH := Lib.hid hI
  have mI := hI.le
  clear hI hb6 c6H hB5
  go_wp2_with fail
  go_loopw [17, 18] (fun now k wr => ttRel d K w6 now k wr) (fun _ k _ => K + 2 - (intOf k).toNat)
  case atStart => exact ⟨0, a2, c2, rfl, by omega, rfl, (h2H.out.below hB6.out).any, .refl _ _⟩
  case round =>
    obtain ⟨j, aE, cE, rfl, hj, rfl, hE, hB⟩ := hrel
    have mE := hE.le
    by_cases hjK : j ≤ K
    · obtain ⟨D, hD⟩ : ∃ D, powD d j = D := ⟨_, rfl⟩
      have c7 := rSame3_any aE aI cE cI (powD d j) (itsD s s.length) wr hE (hIH.out.below hB)
      have c8 := fun W' (hb : Below wr.heap.size wr W') => Composed_any a1 a1 a1 aE a2 c1 c1 c1 cE c2 s s s (powD d j) d W' (h1H.out.below (bcall (bcall hB6.out hB) hb)) (h1H.out.below (bcall (bcall hB6.out hB) hb)) (h1H.out.below (bcall (bcall hB6.out hB) hb)) (hE.below hb) (h2H.out.below (bcall (bcall hB6.out hB) hb)) (hpaH.out j) hdaH.out
      have hpw : compD D d D.length = powD d (j + 1) := by rw [powD, hD]
      simp only [hcmH.out j] at c8
      rw [hD] at c7 mE ⊢
      simp only [hD, hpw] at c8
      obtain ⟨D2, hD2⟩ : ∃ D2, powD d (j + 1) = D2 := ⟨_, rfl⟩
      simp only [hD2] at c8
      have hnx : ∀ wx aC cC, WaysL (fun _ => True) wx aC cC D2 → Below w6.heap.size w6 wx → ttRel d K w6 (.slice aC D2.length cC) (.int .i64 ((j : Int) + 1 + 1)) wx := fun wx aC cC hC hb => ⟨j + 1, aC, cC, by go_num, by omega, by rw [hD2], by rw [hD2]; exact hC, hb⟩
      have hBH := Lib.hid hB
      have c8H := Lib.hid c8
      have hnxH := Lib.hid hnx
      by_cases e : j = K
      · have hz : decide (D = itsD s s.length) = true := by rw [decide_eq_true_eq, ← hD, e]; exact k1H.out
        rw [hz] at c7
        have c7H := Lib.hid c7
        subst e
        have g1 : (((j : Int) + 1) == ((j : Int) + 1)) = true := by simp
        clear hE hB c7 c8 hD hpw hz hnx hD2
        go_wp2_with fail
        refine c7H.out.mono ?_
        rintro e w7 ⟨rfl, hd7⟩
        have hb7 := hd7.below wr.heap.size
        have c9 := Lib.hid (c8H.out _ hb7)
        have hB7 := Lib.hid (bcall hBH.out hb7)
        clear hd7 hb7 c7H c8H
        go_wp2_with fail
        refine c9.out.mono ?_
        rintro e w8 ⟨aC, cC, rfl, hC, hb8⟩
        have hr := Lib.hid (hnxH.out _ _ _ hC (bcall hB7.out hb8))
        have mC := hC.le
        clear hC hb8 c9
        go_wp2_with fail
        go_roundw
        case rel => exact hr.out
        case measure => simp [intOf]; omega
      · have hz : decide (D = itsD s s.length) = false := by rw [decide_eq_false_iff_not, ← hD]; exact k2H.out j (by omega)
        rw [hz] at c7
        have c7H := Lib.hid c7
        have g1 : (((j : Int) + 1) == ((K : Int) + 1)) = false := by rw [beq_eq_false_iff_ne]; omega
        clear hE hB c7 c8 hD hpw hz hnx hD2
        go_wp2_with fail
        refine c7H.out.mono ?_
        rintro e w7 ⟨rfl, hd7⟩
        have hb7 := hd7.below wr.heap.size
        have c9 := Lib.hid (c8H.out _ hb7)
        have hB7 := Lib.hid (bcall hBH.out hb7)
        clear hd7 hb7 c7H c8H
        go_wp2_with fail
        refine c9.out.mono ?_
        rintro e w8 ⟨aC, cC, rfl, hC, hb8⟩
        have hr := Lib.hid (hnxH.out _ _ _ hC (bcall hB7.out hb8))
        have mC := hC.le
        clear hC hb8 c9
        go_wp2_with fail
        go_roundw
        case rel => exact hr.out
        case measure => simp [intOf]; omega
    · have hjj : j = K + 1 := by omega
      subst hjj
      have hBH := Lib.hid (bcall hB6.out hB)
      clear hE hB
      go_wp2_with fail
      refine (aw.out _ hBH.out).mono ?_
      rintro e w7 ⟨rfl, hb7⟩
      go_wp2_with fail
      go_ret
      exact ⟨rfl, hb7⟩
end Go.Proofs.YtnhaoalcpbefoaaGreatDoor

/- Facts of the program's types that the rows over the tongues want. -/
namespace Go.Proofs.YtnhaoalcpbefoaaGreatDoor
open Go Go.RowKit Go.ChangeShapes Go.WideShapes Go.ChangeAt Go.Deep

theorem gWay : Gives Tryz.prog 69 wayE := gives_pair Tryz.underlying69 rfl rfl (by kernel_rfl) (by kernel_rfl) (by kernel_rfl) gInt gInts
theorem gWays : Gives Tryz.prog 24 (slE wayE) := gives_slice Tryz.underlying24 (by kernel_rfl) gWay
theorem gTrade : Gives Tryz.prog 26 (pairE (slE symE) (pairE (slE symE) (slE wayE))) := gives3 Tryz.underlying26 rfl rfl rfl (by kernel_rfl) (by kernel_rfl) (by kernel_rfl) (by kernel_rfl) gSign gSign gWays
end Go.Proofs.YtnhaoalcpbefoaaGreatDoor

/- The card of TongueTurns: for every input TongueTurns returns true and leaves its arguments as they were; the listed variables are tied to the program's text. No condition. -/
namespace Go.Proofs.YtnhaoalcpbefoaaGreatDoor
open Go Go.RowKit Go.ChangeShapes Go.WideShapes Go.ChangeAt

theorem tongueTurns_door (os : Os) (args : Array Value) : laidMetH Tryz.prog Rows.tongueTurnsRow.laid ((World.doorLaid Tryz.prog 400 os).forCall (fun _ _ => 0) ⟨#[], args, []⟩).memory :=
  laidMetH_of_parts3 (fuel := 8) (laidMet_of_run' 8 (by kernel_rfl) (by kernel_rfl)) (by kernel_rfl) (by kernel_rfl)
set_option maxRecDepth 100000 in
theorem tongueTurns_lifted (os : Os) (started : os.Started) (H : Type) (enc : TypeId × Value → H) :
    ReturnsInHanded {} Tryz.checked os 4 .any (fun w args => (Rows.tongueTurnsSpec.pre enc Tryz.prog Tryz.f4 [] false w args ∧ laidMetH Tryz.prog Rows.tongueTurnsRow.laid w) ∧ sizedMet enc Tryz.prog Tryz.f4 (OpenSpec.ofChange Rows.tongueTurnsSpec) false w args)
      (Rows.tongueTurnsSpec.post enc Tryz.prog Tryz.f4 false true false false) := by
  refine returnsInHanded_of_change_and (C := Tryz.checked) (X := fun w _ => laidMetH Tryz.prog Rows.tongueTurnsRow.laid w) (fun _ _ _ hh h => h.of_heap hh) Tryz.own started (by kernel_rfl) Tryz.func4
    (ChangeSpec.witness_shaped (enc := enc) (C := Tryz.checked) (os := os) (X := fun w _ => laidMetH Tryz.prog Rows.tongueTurnsRow.laid w) false (World.doorLaid Tryz.prog 400 os) #[.slice none 0 0, .slice none 0 0, .slice none 0 0] 8 rfl (World.shaped_of_RefB (by kernel_rfl) (by kernel_rfl)) (by kernel_rfl) (by kernel_rfl) (by kernel_rfl) (tongueTurns_door os _)) ?_
  intro W base args ds gs before hval0 hW _ _ hL _
  clear hL
  have hval : ∀ (j : Nat) t v, Tryz.f4.params[j]? = some t → args[j]? = some v → Value.okWide Tryz.prog W .any base t v := hval0
  have hW' := hW
  obtain ⟨p, q, hA0, hV, rfl, hfz, hnd⟩ := hW
  have hA : DataW.TrodAll enc Tryz.prog W 0 (fun _ => true) true Tryz.f4.params.toList args.toList ds p := hA0
  rw [Tryz.params4] at hA hval
  obtain ⟨v0, v1, v2, d0, d1, d2, p0, p1, p2, rfl, rfl, rfl, h0, h1, h2⟩ := trodAll_three hA
  obtain ⟨rfl, rfl⟩ := trodVars_none hV
  clear hA0 hval0
  simp only [List.append_nil] at hW'
  have hlt : ∀ x ∈ p0 ++ (p1 ++ p2), x.block < W.heap.size := fun x hx => hW'.lt x (by simpa using hx)
  have keep0 := fun (W' : World) (hn : Below W.heap.size W W') => Below.trod Tryz.laidOut (by kernel_rfl) (of_decide_eq_true (by kernel_rfl)) h0 hn (fun x hx => hlt x (by simp [hx]))
  have keep1 := fun (W' : World) (hn : Below W.heap.size W W') => Below.trod Tryz.laidOut (by kernel_rfl) (of_decide_eq_true (by kernel_rfl)) h1 hn (fun x hx => hlt x (by simp [hx]))
  have keep2 := fun (W' : World) (hn : Below W.heap.size W W') => Below.trod Tryz.laidOut (by kernel_rfl) (of_decide_eq_true (by kernel_rfl)) h2 hn (fun x hx => hlt x (by simp [hx]))
  obtain ⟨l0, a0, c0, rfl, r0⟩ := gSign.arg h0 (okWide_slice Tryz.underlying23 (hval 0 23 v0 rfl rfl))
  obtain ⟨l1, a1, c1, rfl, r1⟩ := gWays.arg h1 (okWide_slice Tryz.underlying24 (hval 1 24 v1 rfl rfl))
  obtain ⟨l2, a2, c2, rfl, r2⟩ := gTerm.arg h2 (okWide_slice Tryz.underlying28 (hval 2 28 v2 rfl rfl))
  refine (TongueTurns_walk _ _ _ _ _ _ _ _ _ W r0 r1 r2).mono fun e W' ⟨he, hB⟩ => ?_
  subst he
  exact ⟨_, rfl, _, _, _, [], p0 ++ (p1 ++ p2), [], hW', trodAll_mk1 (shut_bool Tryz.underlying4 true), trodAll_mk3 (keep0 _ hB) (keep1 _ hB) (keep2 _ hB), rfl, hB.frame _, fun h => by cases h⟩

/-- TongueTurns: for every input it returns true, and each argument reads as it did. -/
theorem tongueTurns_holds : Rows.TongueTurnsSaid :=
  OpenClaim.holds_of_wide 4 Tryz.f4 rfl rfl rfl rfl rfl rfl rfl ⟨rfl, rfl, rfl, rfl, rfl⟩ rfl rfl rfl rfl rfl (by kernel_rfl) Tryz.func4 (by kernel_rfl)
    (of_decide_eq_true (by kernel_rfl)) (by unfold Func.isWrapper; first | (rw [if_pos (by decide +kernel)]; kernel_rfl) | (rw [if_neg (by decide +kernel)]; exact ⟨rfl, rfl⟩))
    (fun os started H enc _ => tongueTurns_lifted os started H enc)
/-- the card of TongueTurns -/
theorem tongueTurns_card_holds : Rows.TongueTurnsCardSaid :=
  Claim7.holds_tied_plain_at .later [] [.data, .data, .data, .sentinel, .sentinel] true Rows.tongueTurnsCard.stood.harness Rows.tongueTurnsCard.stood.looks
    tongueTurns_holds (fun _ h => by cases h) (by kernel_rfl) (fun _ h => by cases h) tongueTurns_row_tie rfl ⟨rfl, rfl⟩ (by kernel_rfl) rfl
    (fun f fn hf hfn => by
      obtain rfl : f = 4 := Option.some.inj ((show Tryz.prog.funcNamed Rows.tongueTurnsRow.func = some 4 by kernel_rfl).symm.trans hf) |>.symm
      obtain rfl : fn = Tryz.f4 := (Option.some.inj (Tryz.func4.symm.trans hfn)).symm
      exact ⟨by kernel_rfl, fun j t ht => by
        rw [Tryz.params4] at ht
        have hm : t ∈ [23, 24, 28] := by simpa using Array.mem_of_getElem? ht
        have hall : ([23, 24, 28].all fun u => !Tryz.prog.wantsStandIn u) = true := by kernel_rfl
        exact (show Tryz.prog.wantsStandIn t = false by simpa using List.all_eq_true.1 hall t hm)⟩)
    (by kernel_rfl)
end Go.Proofs.YtnhaoalcpbefoaaGreatDoor
