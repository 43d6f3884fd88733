/- The card of TongueFetchesFirst: for every input TongueFetchesFirst returns true and leaves its arguments as they were; the listed variables are tied to the program's text. No condition. -/
import Derived.Test.YtnhaoalcpbefoaaGreatDoorMathComp
import Derived.Test.YtnhaoalcpbefoaaGreatDoorMathCarr2
import Derived.Test.YtnhaoalcpbefoaaGreatDoorMath3
import Derived.Test.YtnhaoalcpbefoaaGreatDoorMsB
import Derived.Test.YtnhaoalcpbefoaaGreatDoorMath6
import Derived.Test.YtnhaoalcpbefoaaGreatDoorWalkI
import Derived.Test.YtnhaoalcpbefoaaGreatDoorMsD
import Derived.Test.YtnhaoalcpbefoaaGreatDoorBase
import Derived.ProofKit
import Derived.LaidMore
import Derived.OpenShut
import Derived.Stop.Joined
import Derived.BigRegion
import Derived.Test.YtnhaoalcpbefoaaGreatDoorMsC
import Derived.Test.YtnhaoalcpbefoaaGreatDoorMsE
import Derived.Test.YtnhaoalcpbefoaaGreatDoorWalkH
import Derived.Test.YtnhaoalcpbefoaaGreatDoorWalkJ
import Derived.Test.YtnhaoalcpbefoaaGreatDoorCards
import Derived.Test.YtnhaoalcpbefoaaGreatDoorTie
/- Dictionaries undone. No program is named. -/
namespace Go.Proofs.YtnhaoalcpbefoaaGreatDoor

theorem getD_at {α : Type} {l : List α} {i : Nat} {x : α} (h : i < l.length) : l.getD i x = l[i] := by
  rw [List.getD_eq_getElem?_getD, List.getElem?_eq_getElem h]; rfl
theorem getD_set_eq {α : Type} {l : List α} {i : Nat} {x v : α} (h : i < l.length) : (l.set i v).getD i x = v := by
  rw [getD_at (by rw [List.length_set]; exact h), List.getElem_set_self]
theorem getD_set_ne {α : Type} {l : List α} {i j : Nat} {x v : α} (h : i ≠ j) : (l.set i v).getD j x = l.getD j x := by
  rw [List.getD_eq_getElem?_getD, List.getElem?_set_ne h, ← List.getD_eq_getElem?_getD]
theorem invA_at {l : List Int} {n : Nat} (hn : l.Nodup) (hr : ∀ x ∈ l, 0 ≤ x ∧ x < n) : ∀ {k : Nat}, k ≤ l.length → ∀ i, i < k → (invA l n k).getD (l.getD i 0).toNat 0 = (i : Int)
  | 0, _, i, hi => by omega
  | k + 1, hk, i, hi => by
    rw [invA]
    have hki : k < l.length := by omega
    have hii : i < l.length := by omega
    have rk := hr _ (List.getElem_mem hki)
    have ri := hr _ (List.getElem_mem hii)
    rw [getD_at hki, getD_at hii]
    by_cases e : i = k
    · subst e
      rw [getD_set_eq (by rw [invA_len]; omega)]
    · have hne : l[k] ≠ l[i] := fun h => e ((List.getElem_inj hn).1 h.symm)
      rw [getD_set_ne (by omega)]
      have := invA_at hn hr (k := k) (by omega) i (by omega)
      rwa [getD_at hii] at this
theorem invD_at {d : Ways} {n : Nat} (hn : (tosD d).Nodup) (hr : ∀ x ∈ tosD d, 0 ≤ x ∧ x < n) : ∀ {k : Nat}, k ≤ d.length → ∀ i, i < k → (invD d n k).getD (d.getD i (0, [])).1.toNat (0, []) = ((i : Int), invA (d.getD i (0, [])).2 (d.getD i (0, [])).2.length (d.getD i (0, [])).2.length)
  | 0, _, i, hi => by omega
  | k + 1, hk, i, hi => by
    rw [invD]
    have hki : k < d.length := by omega
    have hii : i < d.length := by omega
    have mk : d[k].1 ∈ tosD d := List.mem_map.2 ⟨_, List.getElem_mem hki, rfl⟩
    have mi : d[i].1 ∈ tosD d := List.mem_map.2 ⟨_, List.getElem_mem hii, rfl⟩
    have rk := hr _ mk
    have ri := hr _ mi
    by_cases e : i = k
    · subst e
      rw [getD_set_eq (by rw [invD_len, getD_at hii]; omega)]
    · have hne : d[k].1 ≠ d[i].1 := fun h => e (by
        have := (List.getElem_inj (i := i) (j := k) (h₀ := by unfold tosD; rw [List.length_map]; exact hii) (h₁ := by unfold tosD; rw [List.length_map]; exact hki) hn).1 (by unfold tosD; rw [List.getElem_map, List.getElem_map]; exact h.symm)
        exact this)
      rw [getD_set_ne (by rw [getD_at hki, getD_at hii]; omega)]
      exact invD_at hn hr (by omega) i (by omega)
/-- what an order's inverse is -/
theorem invA_perm {l : List Int} (h : l.Perm (ascL l.length)) : ∀ i, i < l.length → (invA l l.length l.length).getD (l.getD i 0).toNat 0 = (i : Int) :=
  invA_at (h.nodup_iff.2 (ascL_nodup _)) (fun _ hx => mem_ascL.1 (h.mem_iff.1 hx)) (Nat.le_refl _)
theorem ord_surj {l : List Int} (h : l.Perm (ascL l.length)) {p : Nat} (hp : p < l.length) : ∃ q, ∃ hq : q < l.length, l[q] = (p : Int) := by
  have : (p : Int) ∈ l := h.mem_iff.2 (mem_ascL.2 (by omega))
  obtain ⟨q, hq, e⟩ := List.getElem_of_mem this
  exact ⟨q, hq, e⟩
theorem invA_ord {l : List Int} (h : l.Perm (ascL l.length)) : ordB (invA l l.length l.length) = true := by
  rw [ordB_iff]
  intro i hi
  rw [invA_len] at hi
  have := invA_perm h i hi
  have hr := mem_ascL.1 (h.mem_iff.1 (List.getElem_mem hi))
  rw [getD_at hi, getD_at (by rw [invA_len]; omega)] at this
  exact this ▸ List.getElem_mem _
theorem invA_map {l : List Int} (h : l.Perm (ascL l.length)) : (invA l l.length l.length).map (fun j => l.getD j.toNat 0) = ascL l.length := by
  apply List.ext_getElem
  · rw [List.length_map, invA_len, ascL_len]
  · intro p h1 h2
    rw [List.length_map, invA_len] at h1
    obtain ⟨q, hq, e⟩ := ord_surj h h1
    have := invA_perm h q hq
    rw [getD_at hq, e, Int.toNat_natCast, getD_at (by rw [invA_len]; exact h1)] at this
    rw [List.getElem_map, ascL_get, this, Int.toNat_natCast, getD_at hq, e]
theorem invA_inv {l : List Int} (h : l.Perm (ascL l.length)) : invA (invA l l.length l.length) l.length l.length = l := by
  have h2 := ordB_perm (invA_ord h)
  have h3 := invA_perm h2
  rw [invA_len] at h3
  apply List.ext_getElem
  · rw [invA_len]
  · intro q hq1 hq
    have hr := mem_ascL.1 (h.mem_iff.1 (List.getElem_mem hq))
    have e1 := invA_perm h q hq
    rw [getD_at hq] at e1
    have e2 := h3 l[q].toNat (by omega)
    rw [e1, Int.toNat_natCast, getD_at hq1] at e2
    omega
theorem tosD_get {d : Ways} {i : Nat} (h : i < (tosD d).length) : (tosD d)[i] = (d[i]'(by simpa [tosD] using h)).1 := by simp [tosD]
section
variable {a b : Sg} {d : Ways}
theorem one_parts (hv : validD a b d = true) (ho : oneB a b d = true) : a.length = b.length ∧ (tosD d).Nodup ∧ ∀ x ∈ tosD d, 0 ≤ x ∧ x < b.length := by
  unfold oneB at ho
  rw [Bool.and_eq_true, decide_eq_true_eq, decide_eq_true_eq] at ho
  exact ⟨ho.1, ho.2, tos_range (validD_parts hv).2.2.2.1⟩
theorem inv_at (hv : validD a b d = true) (ho : oneB a b d = true) {i : Nat} (hi : i < d.length) : (invD d b.length d.length).getD (d.getD i (0, [])).1.toNat (0, []) = ((i : Int), invA (d.getD i (0, [])).2 (d.getD i (0, [])).2.length (d.getD i (0, [])).2.length) :=
  invD_at (one_parts hv ho).2.1 (one_parts hv ho).2.2 (Nat.le_refl _) i hi
theorem one_surj (hv : validD a b d = true) (ho : oneB a b d = true) {j : Nat} (hj : j < b.length) : ∃ i, i < d.length ∧ (d.getD i (0, [])).1 = (j : Int) := by
  obtain ⟨h1, h2, h3⟩ := one_parts hv ho
  have hl := (validD_parts hv).2.2.1
  have hp : (ascL b.length).Perm (tosD d) := perm_of_sub h2 (fun x hx => mem_ascL.2 (h3 x hx)) (by rw [ascL_len]; unfold tosD; rw [List.length_map]; omega)
  have : (j : Int) ∈ tosD d := hp.mem_iff.1 (mem_ascL.2 (by omega))
  obtain ⟨w, hw, e⟩ := List.mem_map.1 this
  obtain ⟨i, hi, rfl⟩ := List.getElem_of_mem hw
  exact ⟨i, hi, by rw [getD_at hi]; exact e⟩
theorem inv_valid (hv : validD a b d = true) (ho : oneB a b d = true) : validD b a (invD d b.length d.length) = true := by
  obtain ⟨p1, p2, p3, -, p5, p6⟩ := validD_parts hv
  obtain ⟨h1, h2, h3⟩ := one_parts hv ho
  have hl := okSign_len p1
  have h0 := inv_at hv ho (i := 0) (by omega)
  rw [p5, p6] at h0
  refine validD_of p2 p1 (invD_len _ _ _) (by rw [show (0 : Nat) = (0 : Int).toNat from rfl, h0]; rfl) (by rw [show (0 : Nat) = (0 : Int).toNat from rfl, h0]; rfl) (fun j hj => ?_)
  rw [invD_len] at hj
  obtain ⟨i, hi, e⟩ := one_surj hv ho hj
  have hg := inv_at hv ho hi
  obtain ⟨v1, v2, v3, v4, v5⟩ := validD_at hv (i := i) (by omega)
  rw [e, Int.toNat_natCast] at hg
  rw [e] at v3
  rw [hg]
  unfold wayOk
  rw [Bool.and_eq_true, Bool.and_eq_true, Bool.and_eq_true, Bool.and_eq_true, decide_eq_true_eq, decide_eq_true_eq, decide_eq_true_eq, decide_eq_true_eq]
  refine ⟨⟨by show (0 : Int) ≤ (i : Int); omega, by show (i : Int) ≤ (a.length : Int) - 1; omega⟩, v3.symm, ?_, invA_ord v5⟩
  rw [invA_len, v4, v3]
theorem inv_tos (hv : validD a b d = true) (ho : oneB a b d = true) : (tosD (invD d b.length d.length)).Nodup := by
  obtain ⟨h1, h2, h3⟩ := one_parts hv ho
  rw [List.Nodup, List.pairwise_iff_getElem]
  intro j1 j2 g1 g2 hlt he
  have g1' := g1
  have g2' := g2
  unfold tosD at g1' g2'
  rw [List.length_map, invD_len] at g1' g2'
  obtain ⟨i1, hi1, e1⟩ := one_surj hv ho g1'
  obtain ⟨i2, hi2, e2⟩ := one_surj hv ho g2'
  have k1 := inv_at hv ho hi1
  have k2 := inv_at hv ho hi2
  rw [e1, Int.toNat_natCast, getD_at (by rw [invD_len]; exact g1')] at k1
  rw [e2, Int.toNat_natCast, getD_at (by rw [invD_len]; exact g2')] at k2
  rw [tosD_get, tosD_get, k1, k2] at he
  have he2 : (i1 : Int) = (i2 : Int) := he
  have : i1 = i2 := by omega
  subst this
  rw [e1] at e2
  omega
theorem inv_one (hv : validD a b d = true) (ho : oneB a b d = true) : oneB b a (invD d b.length d.length) = true := by
  obtain ⟨h1, -, -⟩ := one_parts hv ho
  unfold oneB
  rw [decide_eq_true h1.symm, decide_eq_true (inv_tos hv ho)]; rfl
/-- undone twice -/
theorem inv_inv (hv : validD a b d = true) (ho : oneB a b d = true) : invD (invD d b.length d.length) a.length (invD d b.length d.length).length = d := by
  obtain ⟨h1, h2, h3⟩ := one_parts hv ho
  have hl := (validD_parts hv).2.2.1
  have hv2 := inv_valid hv ho
  have ho2 := inv_one hv ho
  apply List.ext_getElem
  · rw [invD_len]; exact hl.symm
  · intro i g1 hi
    have k1 := inv_at hv ho hi
    have r := h3 d[i].1 (List.mem_map.2 ⟨_, List.getElem_mem hi, rfl⟩)
    have k2 := inv_at hv2 ho2 (i := (d.getD i (0, [])).1.toNat) (by rw [invD_len, getD_at hi]; omega)
    rw [k1] at k2
    rw [Int.toNat_natCast, getD_at g1, invA_len, getD_at hi] at k2
    obtain ⟨v1, v2, v3, v4, v5⟩ := validD_at hv (i := i) (by omega)
    rw [getD_at hi] at v1 v5
    rw [k2, invA_inv v5, Int.toNat_of_nonneg v1]
theorem itsD_map (s : Sg) : ∀ k, itsD s k = (List.range k).map (fun i : Nat => ((i : Int), ascL (arAt s i).toNat))
  | 0 => rfl
  | k + 1 => by rw [itsD, itsD_map s k, List.range_succ, List.map_append]; rfl
theorem itsD_get {s : Sg} {k i : Nat} (h : i < k) : (itsD s k).getD i (0, []) = ((i : Int), ascL (arAt s i).toNat) := by
  rw [itsD_map, getD_at (by simpa using h), List.getElem_map, List.getElem_range]
/-- composed with the inverse: nothing changes -/
theorem inv_comp (hv : validD a b d = true) (ho : oneB a b d = true) : compD d (invD d b.length d.length) d.length = itsD a a.length := by
  have hl := (validD_parts hv).2.2.1
  rw [compD_map, itsD_map, ← hl]
  apply List.map_congr_left
  intro i hi
  have hi' := List.mem_range.1 hi
  have k1 := inv_at hv ho (i := i) (by omega)
  obtain ⟨v1, v2, v3, v4, v5⟩ := validD_at hv (i := i) (by omega)
  unfold compW
  rw [k1]
  simp only
  rw [invA_map v5, ← v4, Int.toNat_natCast]
theorem its_carry {s : Sg} (hs : okSign s = true) : ∀ (f : Nat) {t : List Int}, okT s t = true → t.length ≤ f → carT s (itsD s s.length) t = t
  | 0, t, h, hf => by have := (okT_parts h).2.1; omega
  | f + 1, t, h, hf => by
    obtain ⟨n, x, ht, hc, hsk⟩ := okT_head h
    obtain ⟨g1, g2, g3⟩ := argsT_spec h
    by_cases hn : n < 0
    · have har : ar s n = 0 := ar_neg hn
      rw [har, skip_zero] at hsk
      simp only [Option.some.injEq] at hsk
      subst hsk
      subst ht
      exact carT_neg hn
    · have hh : t.headD 0 = n := by rw [ht]; rfl
      have hnl : n < s.length := by simp [codeOk] at hc; omega
      have ha := (ar_at hs (n := n) (by omega) hnl).1
      have hfl : (argsT s t).flatten.length + 1 = t.length := by
        have := congrArg List.length g2
        rw [List.length_cons] at this; omega
      rw [carT_node h (by rw [hh]; omega), hh]
      have hmap : (argsT s t).map (carT s (itsD s s.length)) = argsT s t := by
        conv => rhs; rw [← List.map_id (argsT s t)]
        apply List.map_congr_left
        intro u hu
        have := len_flatten hu
        exact its_carry hs f (g3 u hu) (by omega)
      rw [hmap]
      unfold carA
      rw [itsD_get (by omega)]
      simp only
      rw [Int.toNat_of_nonneg (by omega), ← ha, Int.toNat_natCast]
      rw [hh] at g1 g2
      rw [← g1, ascL_map]
      exact g2.symm
/-- carried there and back -/
theorem back_carry (hv : validD a b d = true) (ho : oneB a b d = true) {t : List Int} (ht : okT a t = true) : carT b (invD d b.length d.length) (carT a d t) = t := by
  rw [comp_carry hv (inv_valid hv ho) t.length ht (Nat.le_refl _), inv_comp hv ho]
  exact its_carry (validD_parts hv).1 t.length ht (Nat.le_refl _)
end
end Go.Proofs.YtnhaoalcpbefoaaGreatDoor

/- Fetching: the first term that is carried to another one. No program is named. -/
namespace Go.Proofs.YtnhaoalcpbefoaaGreatDoor

/-- a term has a symbol to which no way leads -/
def lackB (d : Ways) (t : List Int) : Bool := t.any (fun n => decide (0 ≤ n) && !(tosD d).contains n)
def lackE (a b : Sg) (d : Ways) (t : List Int) : Bool × Int := if (validD a b d && okT b t) = true then (lackB d t, 0) else (false, 1)
/-- the first symbol that leads there -/
def fetI (d : Ways) (n : Int) : Nat := (tosD d).idxOf n
def fetW (d : Ways) (n : Int) : Int × List Int := ((fetI d n : Int), invA (d.getD (fetI d n) (0, [])).2 (d.getD (fetI d n) (0, [])).2.length (d.getD (fetI d n) (0, [])).2.length)
/-- the ways back -/
def fetD (d : Ways) (b : Nat) : Ways := (ascL b).map (fetW d)
def fetE (a b : Sg) (d : Ways) (t : List Int) : List Int × Int := if (validD a b d && okT b t) = true then (if lackB d t = true then ([], 8) else (carT b (fetD d b.length) t, 0)) else ([], 1)
theorem fetD_len (d : Ways) (b : Nat) : (fetD d b).length = b := by rw [fetD, List.length_map, ascL_len]
theorem fetD_get {d : Ways} {b : Nat} {n : Int} (h0 : 0 ≤ n) (h1 : n < b) : (fetD d b).getD n.toNat (0, []) = fetW d n := by
  have hl : n.toNat < (ascL b).length := by rw [ascL_len]; omega
  unfold fetD
  rw [getD_at (by rw [List.length_map]; exact hl), List.getElem_map, ascL_get hl, Int.toNat_of_nonneg h0]
theorem lack_mem {d : Ways} {t : List Int} (h : lackB d t = false) {n : Int} (hn : n ∈ t) (h0 : 0 ≤ n) : n ∈ tosD d := by
  unfold lackB at h
  rw [List.any_eq_false] at h
  have := h n hn
  simpa [h0] using this
theorem lack_sub {d : Ways} {t u : List Int} (h : lackB d t = false) (hs : ∀ x ∈ u, x ∈ t) : lackB d u = false := by
  unfold lackB at *
  rw [List.any_eq_false] at *
  exact fun x hx => h x (hs x hx)
theorem fetI_at {d : Ways} {n : Int} (h : n ∈ tosD d) : fetI d n < d.length ∧ (d.getD (fetI d n) (0, [])).1 = n := by
  have h1 : fetI d n < (tosD d).length := List.idxOf_lt_length_iff.2 h
  have h2 : fetI d n < d.length := by simpa [tosD] using h1
  refine ⟨h2, ?_⟩
  have h3 : (tosD d)[(tosD d).idxOf n]'h1 = n := List.getElem_idxOf h1
  rw [getD_at h2]
  rw [← tosD_get h1]
  exact h3
theorem idxOf_le_get {l : List Int} {i : Nat} (h : i < l.length) : l.idxOf l[i] ≤ i := by
  induction l generalizing i with
  | nil => simp at h
  | cons x r ih =>
    rw [List.idxOf_cons]
    cases i with
    | zero => simp
    | succ i =>
      have hi : i < r.length := by simpa using h
      rw [show (x :: r)[i + 1]'h = r[i]'hi from rfl]
      have := ih (i := i) hi
      cases (x == r[i]) <;> simp
      omega
theorem fetI_le {d : Ways} {i : Nat} (h : i < d.length) : fetI d (d.getD i (0, [])).1 ≤ i := by
  have h1 : i < (tosD d).length := by simpa [tosD] using h
  have := idxOf_le_get h1
  rw [tosD_get] at this
  rw [getD_at h]
  exact this
theorem invA_range {L : List Int} (hp : L.Perm (ascL L.length)) {q : Int} (hq : q ∈ invA L L.length L.length) : 0 ≤ q ∧ q < L.length := by
  have h2 := ordB_perm (invA_ord hp)
  have := mem_ascL.1 (h2.mem_iff.1 hq)
  rw [invA_len] at this
  exact this
section
variable {a b : Sg} {d : Ways} (hd : validD a b d = true)
include hd
/-- one symbol fetched -/
theorem fet_node {t : List Int} (h : okT b t = true) (hn : 0 ≤ t.headD 0) (hm : t.headD 0 ∈ tosD d) {A : List (List Int)} (hA : argsT b t = A) {i : Nat} (hi : fetI d (t.headD 0) = i) {L : List Int} (hL : (d.getD i (0, [])).2 = L) :
    carT b (fetD d b.length) t = (i : Int) :: ((invA L L.length L.length).map (fun q => (A.map (carT b (fetD d b.length))).getD q.toNat [])).flatten ∧ i < a.length ∧ (d.getD i (0, [])).1 = t.headD 0 ∧ L.length = A.length ∧ (L.length : Int) = arAt a i ∧ L.Perm (ascL L.length) := by
  obtain ⟨hA1, hB1, hdl, -⟩ := validD_parts hd
  obtain ⟨g1, g2, g3⟩ := argsT_spec h
  obtain ⟨f1, f2⟩ := fetI_at hm
  rw [hi] at f1 f2
  obtain ⟨v1, v2, v3, v4, v5⟩ := validD_at hd (i := i) (by omega)
  rw [f2] at v2 v3
  rw [hL] at v4 v5
  rw [hA] at g1
  have := (ar_at hB1 hn v2).1
  refine ⟨?_, by omega, f2, by omega, v4, v5⟩
  rw [carT_node h hn, hA]
  unfold carA
  rw [fetD_get hn v2]
  unfold fetW
  rw [hi, hL]
theorem fet_ok : ∀ (f : Nat) {t : List Int}, okT b t = true → lackB d t = false → t.length ≤ f → okT a (carT b (fetD d b.length) t) = true ∧ carT a d (carT b (fetD d b.length) t) = t ∧ (carT b (fetD d b.length) t).length = t.length
  | 0, t, h, _, hf => by have := (okT_parts h).2.1; omega
  | f + 1, t, h, hk, hf => by
    obtain ⟨hA1, hB1, hdl, -⟩ := validD_parts hd
    have h60 := (okT_parts h).2.2.1
    by_cases hn : t.headD 0 < 0
    · have e := okT_var h hn
      obtain ⟨n, hnn⟩ : ∃ n, t.headD 0 = n := ⟨_, rfl⟩
      rw [hnn] at e hn
      subst e
      rw [carT_neg hn, carT_neg hn]
      refine ⟨okT_of_skip hA1 ?_ (by simp), rfl, rfl⟩
      have hc := skip_codes b 1 _ (okT_parts h).2.2.2 n (by simp)
      have hcb : codeOk a n = true := by rw [codeOk_neg hn] at hc ⊢; exact hc
      rw [skip_cons, if_pos hcb, ar_neg hn, skip_zero]
    · obtain ⟨g1, g2, g3⟩ := argsT_spec h
      have hne := okT_ne h
      have hm : t.headD 0 ∈ tosD d := lack_mem hk (by cases t with | nil => exact (hne rfl).elim | cons x r => simp) (by omega)
      obtain ⟨e1, e2, e3, e4, e5, e6⟩ := fet_node hd h (by omega) hm rfl rfl rfl
      obtain ⟨i, hi⟩ : ∃ i, fetI d (t.headD 0) = i := ⟨_, rfl⟩
      rw [hi] at e1 e2 e3 e4 e5 e6
      obtain ⟨L, hL⟩ : ∃ L, (d.getD i (0, [])).2 = L := ⟨_, rfl⟩
      rw [hL] at e1 e4 e5 e6
      have hargs : ∀ u ∈ argsT b t, okT a (carT b (fetD d b.length) u) = true ∧ carT a d (carT b (fetD d b.length) u) = u ∧ (carT b (fetD d b.length) u).length = u.length := fun u hu =>
        fet_ok f (g3 u hu) (lack_sub hk (fun x hx => by rw [g2]; exact List.mem_cons_of_mem _ (List.mem_flatten.2 ⟨u, hu, hx⟩))) (by have := len_arg h hu; omega)
      obtain ⟨A, hAe⟩ : ∃ A, argsT b t = A := ⟨_, rfl⟩
      rw [hAe] at e1 e4 g2 hargs
      obtain ⟨F, hF⟩ : ∃ F, carT b (fetD d b.length) = F := ⟨_, rfl⟩
      rw [hF] at e1 hargs ⊢
      obtain ⟨V, hV⟩ : ∃ V, invA L L.length L.length = V := ⟨_, rfl⟩
      have hVl : V.length = L.length := by rw [← hV, invA_len]
      have hVr : ∀ q ∈ V, 0 ≤ q ∧ q < A.length := fun q hq => by
        rw [← hV] at hq
        have := invA_range e6 hq
        omega
      have hVp : V.Perm (ascL A.length) := by
        have := ordB_perm (invA_ord e6)
        rw [hV, hVl, e4] at this
        exact this
      have hVi := invA_perm e6
      rw [hV] at hVi e1
      have hperm : (V.map (fun q => (A.map F).getD q.toNat [])).Perm (A.map F) := by
        have := hVp.map (fun k => (A.map F).getD k.toNat [])
        have hlm : (A.map F).length = A.length := by rw [List.length_map]
        rw [← hlm, ascL_map] at this
        exact this
      have hfl : A.flatten.length + 1 = t.length := by
        have := congrArg List.length g2
        rw [List.length_cons] at this; omega
      have hml : (V.map (fun q => (A.map F).getD q.toNat [])).flatten.length + 1 = t.length := by
        rw [perm_flat_len hperm, ← hfl]
        congr 1
        rw [List.length_flatten, List.length_flatten, List.map_map]
        congr 1
        apply List.map_congr_left
        intro u hu
        exact (hargs u hu).2.2
      obtain ⟨M, hM⟩ : ∃ M, V.map (fun q => (A.map F).getD q.toNat []) = M := ⟨_, rfl⟩
      rw [hM] at e1 hperm hml
      have hMs : ∀ u ∈ M, skip a 1 u = some [] := fun u hu => by
        obtain ⟨y, hy, rfl⟩ := List.mem_map.1 (hperm.mem_iff.1 hu)
        exact (okT_parts (hargs y hy).1).2.2.2
      have hMl : (M.length : Int) = arAt a (i : Int) := by rw [← hM, List.length_map, hVl]; exact e5
      obtain ⟨r1, r2⟩ := ar_at hA1 (n := (i : Int)) (by omega) (by omega)
      have hok : okT a ((i : Int) :: M.flatten) = true := by
        refine okT_of_skip hA1 ?_ (by rw [List.length_cons]; omega)
        rw [skip_cons, if_pos r2, Nat.zero_add, show ar a (i : Int) = M.length by omega]
        exact skip_flatten M hMs
      rw [e1]
      refine ⟨hok, ?_, by rw [List.length_cons]; exact hml⟩
      rw [carT_node hok (by simp), List.headD_cons, argsT_build hA1 (by omega) (by omega) hMs hMl]
      unfold carA
      rw [Int.toNat_natCast, e3, hL]
      conv => rhs; rw [g2]
      congr 2
      apply List.ext_getElem
      · rw [List.length_map, e4]
      · intro q h1 h2
        have hq : q < L.length := by simpa using h1
        have hr := mem_ascL.1 (e6.mem_iff.1 (List.getElem_mem hq))
        have hk2 : L[q].toNat < V.length := by omega
        have hk3 : L[q].toNat < (M.map (carT a d)).length := by rw [List.length_map, ← hM, List.length_map]; exact hk2
        have e7 := hVi q hq
        rw [getD_at hq, getD_at hk2] at e7
        rw [List.getElem_map, getD_at hk3, List.getElem_map]
        have e8 : M[L[q].toNat]'(by rw [← hM, List.length_map]; exact hk2) = F A[q] := by
          simp only [← hM, List.getElem_map]
          rw [e7, Int.toNat_natCast, getD_at (by rw [List.length_map]; exact h2), List.getElem_map]
        rw [e8]
        exact (hargs _ (List.getElem_mem h2)).2.1
theorem car_lack : ∀ (f : Nat) {t : List Int}, okT a t = true → t.length ≤ f → lackB d (carT a d t) = false
  | 0, t, h, hf => by have := (okT_parts h).2.1; omega
  | f + 1, t, h, hf => by
    by_cases hn : t.headD 0 < 0
    · rw [okT_var h hn, carT_neg hn]
      have hh : decide (0 ≤ t.headD 0) = false := decide_eq_false (by omega)
      unfold lackB
      rw [List.any_cons, hh, Bool.false_and, List.any_nil]; rfl
    · obtain ⟨n, x, ht, hc, -⟩ := okT_head h
      have hh : t.headD 0 = n := by rw [ht]; rfl
      have hnl : n < a.length := by simp [codeOk] at hc; omega
      obtain ⟨-, -, hdl, -⟩ := validD_parts hd
      obtain ⟨T, L, e1, e2, e3, -⟩ := car_node hd h (by omega)
      obtain ⟨-, -, g3⟩ := argsT_spec h
      have hT : T ∈ tosD d := by
        have e4 := carT_node (d := d) h (by omega)
        rw [e1] at e4
        unfold carA at e4
        have := (List.cons.inj e4).1
        rw [this, getD_at (by omega)]
        exact List.mem_map.2 ⟨_, List.getElem_mem _, rfl⟩
      rw [e1]
      unfold lackB
      rw [List.any_cons, Bool.or_eq_false_iff]
      refine ⟨by simp [hT], ?_⟩
      rw [List.any_eq_false]
      intro y hy
      obtain ⟨u, hu, hyu⟩ := List.mem_flatten.1 hy
      obtain ⟨z, hz, rfl⟩ := List.mem_map.1 (e2.mem_iff.1 hu)
      have := car_lack f (g3 z hz) (by have := len_arg h hz; omega)
      unfold lackB at this
      rw [List.any_eq_false] at this
      exact this y hyu
end
theorem lexc_app : ∀ {x y p q : List Int}, x.length = y.length → lexc (x ++ p) (y ++ q) = if lexc x y = 0 then lexc p q else lexc x y
  | [], [], p, q, _ => by simp [lexc]
  | [], _ :: _, _, _, h => by simp at h
  | _ :: _, [], _, _, h => by simp at h
  | x :: r, y :: s, p, q, h => by
    rw [List.cons_append, List.cons_append, lexc, lexc]
    split
    · rw [if_neg (by decide)]
    · split
      · rw [if_neg (by decide)]
      · exact lexc_app (by simpa using h)
theorem lexc_flat : ∀ {M A : List (List Int)}, M.length = A.length → (∀ p (h1 : p < M.length) (h2 : p < A.length), M[p].length = A[p].length ∧ lexc M[p] A[p] ≤ 0) → lexc M.flatten A.flatten ≤ 0
  | [], [], _, _ => by simp [lexc]
  | [], _ :: _, h, _ => by simp at h
  | _ :: _, [], h, _ => by simp at h
  | x :: M, y :: A, h, hh => by
    have h0 := hh 0 (by simp) (by simp)
    simp only [List.getElem_cons_zero] at h0
    rw [List.flatten_cons, List.flatten_cons, lexc_app h0.1]
    split
    · exact lexc_flat (by simpa using h) (fun p h1 h2 => by
        have := hh (p + 1) (by simp; omega) (by simp; omega)
        simpa using this)
    · exact h0.2
theorem fet_lex {a b : Sg} {d : Ways} (hd : validD a b d = true) : ∀ (f : Nat) {t : List Int}, okT a t = true → t.length ≤ f → lexc (carT b (fetD d b.length) (carT a d t)) t ≤ 0
  | 0, t, h, hf => by have := (okT_parts h).2.1; omega
  | f + 1, t, h, hf => by
    by_cases hn : t.headD 0 < 0
    · obtain ⟨n, hnn⟩ : ∃ n, t.headD 0 = n := ⟨_, rfl⟩
      have e := okT_var h hn
      rw [hnn] at e hn
      subst e
      rw [carT_neg hn, carT_neg hn]
      have := (lexc_zero [n] [n]).2 rfl
      omega
    · obtain ⟨n, x, ht, hc, -⟩ := okT_head h
      have hh : t.headD 0 = n := by rw [ht]; rfl
      have hnl : n < a.length := by simp [codeOk] at hc; omega
      obtain ⟨hA1, hB1, hdl, -⟩ := validD_parts hd
      obtain ⟨-, g2, g3⟩ := argsT_spec h
      obtain ⟨w1, w2, w3, w4, w5⟩ := validD_way hd (n := n) (by omega) hnl
      have hu := carT_ok hd t.length h (Nat.le_refl _)
      have hl := car_lack hd t.length h (Nat.le_refl _)
      obtain ⟨T, U, e1, e2, e3, e4⟩ := car_node hd h (by omega)
      have ec := carT_node (d := d) h (by omega)
      rw [hh] at ec g2
      rw [e1] at ec
      unfold carA at ec
      obtain ⟨eT, eU⟩ := List.cons.inj ec
      have hTm : T ∈ tosD d := by rw [e1] at hl; exact lack_mem hl (by simp) e3
      have hhd : (carT a d t).headD 0 = T := by rw [e1]; rfl
      obtain ⟨r1, r2, r3, r4, r5, r6⟩ := fet_node hd hu.1 (by rw [hhd]; exact e3) (by rw [hhd]; exact hTm) e4 rfl rfl
      rw [hhd] at r1 r2 r3 r4 r5 r6
      have hi : fetI d T ≤ n.toNat := by
        rw [eT]
        exact fetI_le (by omega)
      rw [r1]
      conv => lhs; rw [g2]
      rw [lexc]
      by_cases hlt : (fetI d T : Int) < n
      · rw [if_pos hlt]; omega
      · rw [if_neg hlt, if_neg (by omega)]
        have hin : fetI d T = n.toNat := by omega
        rw [hin] at r1 r3 r4 r5 r6 ⊢
        obtain ⟨w, hw⟩ : ∃ w, d.getD n.toNat (0, []) = w := ⟨_, rfl⟩
        rw [hw] at w1 w2 w3 w4 w5 eT eU r1 r3 r4 r5 r6 ⊢
        obtain ⟨A, hAe⟩ : ∃ A, argsT a t = A := ⟨_, rfl⟩
        rw [hAe] at e2 eU g3 g2 ⊢
        have hUA : U.length = A.length := by rw [e2.length_eq, List.length_map]
        have hU2 : U = w.2.map (fun k => (A.map (carT a d)).getD k.toNat []) := by
          have e5 : argsT b (T :: U.flatten) = U := by rw [← e1]; exact e4
          have e6 : argsT b (T :: (w.2.map (fun k => (A.map (carT a d)).getD k.toNat [])).flatten) = w.2.map (fun k => (A.map (carT a d)).getD k.toNat []) := by
            refine argsT_build hB1 e3 (by rw [eT]; exact w2) (fun u hu => ?_) (by rw [List.length_map, eT, w3, w4])
            obtain ⟨k, hk, rfl⟩ := List.mem_map.1 hu
            have := mem_ascL.1 (w5.mem_iff.1 hk)
            have hlt2 : k.toNat < A.length := by omega
            rw [getD_at (by rw [List.length_map]; exact hlt2), List.getElem_map]
            exact (okT_parts (carT_ok hd _ (g3 _ (List.getElem_mem hlt2)) (Nat.le_refl _)).1).2.2.2
          rw [← eU, e5] at e6
          exact e6
        refine lexc_flat (by rw [List.length_map, invA_len, r4, hUA]) (fun p h1 h2 => ?_)
        obtain ⟨q, hq, eq⟩ := ord_surj r6 (p := p) (by omega)
        have hv := invA_perm r6 q hq
        rw [getD_at hq, eq, Int.toNat_natCast, getD_at (by rw [invA_len]; omega)] at hv
        rw [List.getElem_map, hv, Int.toNat_natCast, getD_at (by rw [List.length_map]; omega), List.getElem_map]
        have hUq : U[q]'(by omega) = carT a d A[p] := by
          simp only [hU2, List.getElem_map]
          rw [eq, Int.toNat_natCast, getD_at (by rw [List.length_map]; exact h2), List.getElem_map]
        rw [hUq]
        have hmA := List.getElem_mem h2
        have hlen := carT_ok hd _ (g3 _ hmA) (Nat.le_refl _)
        refine ⟨?_, fet_lex hd f (g3 _ hmA) (by have := len_arg h (by rw [hAe]; exact hmA); omega)⟩
        rw [(fet_ok hd _ hlen.1 (car_lack hd _ (g3 _ hmA) (Nat.le_refl _)) (Nat.le_refl _)).2.2, hlen.2]
/-- no term that is carried to the same one stands before the fetched one -/
theorem fet_first {a b : Sg} {d : Ways} (hd : validD a b d = true) {t : List Int} (h : okT a t = true) : compareT (carT b (fetD d b.length) (carT a d t)) t ≤ 0 := by
  have h1 := carT_ok hd t.length h (Nat.le_refl _)
  have h2 := fet_ok hd _ h1.1 (car_lack hd t.length h (Nat.le_refl _)) (Nat.le_refl _)
  unfold compareT
  rw [if_neg (by omega), if_neg (by omega)]
  exact fet_lex hd t.length h (Nat.le_refl _)
end Go.Proofs.YtnhaoalcpbefoaaGreatDoor

/- Walks: Depth of the reference, Vars of the reference. -/
namespace Go.Proofs.YtnhaoalcpbefoaaGreatDoor
open Go Go.RowKit Go.Maps

def depRel (s : Sg) (t r : List Int) (p m F : Nat) (w : World) (most i : Value) (wr : World) : Prop :=
  ∃ j q D : Nat, i = .int .i64 j ∧ most = .int .i64 D ∧ j ≤ m ∧ q ≤ t.length ∧ p < q ∧ skip s j (t.drop (p + 1)) = some (t.drop q) ∧ skip s (m - j) (t.drop q) = some r ∧
    D ≤ F ∧ max D (depArgs (dep s F) s (m - j) (t.drop q)) = depArgs (dep s F) s m (t.drop (p + 1)) ∧ Below w.heap.size w wr
def depE (s : Sg) (t : List Int) : Int × Int := if okT s t = true then (((depth s t : Nat) : Int), 0) else (0, 1)
theorem depE_eq (s : Sg) (t : List Int) : (if okT s t then #[Value.int .i64 (depth s t : Nat), .int .i64 0] else #[.int .i64 0, .int .i64 1]) = #[.int .i64 (depE s t).1, .int .i64 (depE s t).2] := by
  unfold depE; split <;> rfl
end Go.Proofs.YtnhaoalcpbefoaaGreatDoor

/- Walks: Counts, of both; Vars of the reference; slices.Contains. -/
namespace Go.Proofs.YtnhaoalcpbefoaaGreatDoor
open Go Go.RowKit Go.Maps

set_option maxHeartbeats 1000000 in
theorem Index_any {S : Nat → Prop} (a : Option Addr) (c : Nat) (l : List Int) (x : Int) (w : World) (h : Ints S w a c l) :
    Calls Tryz.prog 105 #[.slice a l.length c, .int .i64 x] w fun e w' => ∃ n : Int, e = .returned (.int .i64 n) ∧ -1 ≤ n ∧ decide (0 ≤ n) = decide (x ∈ l) ∧ w = w' := by
  have m := h.le
  go_enter Tryz.func105, Tryz.ntmps105
  go_wp2_with fail
  go_loop [8] (fun i => ∃ k : Nat, k ≤ l.length ∧ i = .int .i64 k ∧ x ∉ l.take k) (fun i => l.length - (intOf i).toNat)
  case atStart => exact ⟨0, by omega, rfl, by simp⟩
  case round =>
    obtain ⟨k, hk, rfl, hn⟩ := hrel
    have hnH := Lib.hid hn
    clear hn
    by_cases hlt : k < l.length
    · obtain ⟨b, o, rfl, -, q, -⟩ := h.int k hlt
      by_cases hx : x = l[k]
      · have hb : (x == l[k]) = true := by simpa using hx
        have hm : x ∈ l := by rw [hx]; exact List.getElem_mem hlt
        have hmH := Lib.hid hm
        clear hx h hm
        go_wp2_with fail
        go_ret
        exact ⟨k, rfl, by omega, by simp [hmH.out], rfl⟩
      · have hb : (x == l[k]) = false := by simpa using hx
        have hbf : (l[k] == x) = false := by simp; exact fun e => hx e.symm
        have hst := Lib.hid (has_step hlt hnH.out hbf)
        clear hx h hbf
        go_wp2_with fail
        go_round
        case rel => exact ⟨k + 1, by omega, by go_num, hst.out⟩
        case measure => simp [intOf]; omega
    · clear h
      go_wp2_with fail
      go_ret
      refine ⟨-1, rfl, by omega, ?_, rfl⟩
      have := hnH.out
      rw [List.take_of_length_le (by omega)] at this
      simp [this]
set_option maxHeartbeats 1000000 in
theorem Contains_any {S : Nat → Prop} (a : Option Addr) (c : Nat) (l : List Int) (x : Int) (w : World) (h : Ints S w a c l) :
    Calls Tryz.prog 65 #[.slice a l.length c, .int .i64 x] w fun e w' => e = .returned (.bool (decide (x ∈ l))) ∧ w = w' := by
  have ci := Lib.hid (Index_any a c l x w h)
  clear h
  go_enter Tryz.func65, Tryz.ntmps65
  go_wp2_with (go_at_call 105; refine ci.out.mono ?_; rintro e w' ⟨n, rfl, hn, hn2, rfl⟩; have hn2H := Lib.hid hn2; clear hn2)
  go_ret
  exact ⟨ret_bool hn2H.out, rfl⟩

def varsE (s : Sg) (t : List Int) : List Int × Int := errE s t (varsV t)
/-! ### Counts -/
def cntL (n : Nat) (t : List Int) : List Int := (List.range n).map (fun (j : Nat) => ((t.count ((j : Nat) : Int) : Nat) : Int))
theorem cntL_length (n : Nat) (t : List Int) : (cntL n t).length = n := by simp [cntL]
theorem cntL_nil (n : Nat) : cntL n [] = List.replicate n 0 := by
  apply List.ext_getElem
  · simp [cntL]
  · intro i h1 h2; simp [cntL]
theorem cntL_get {n k : Nat} {t : List Int} (h : k < n) : (cntL n t)[k]'(by rw [cntL_length]; exact h) = ((t.count (k : Int) : Nat) : Int) := by simp [cntL]
theorem cntL_pos {n x k : Nat} {t : List Int} (hk : k < t.length) (hx : t[k] = (x : Int)) (_hn : x < n) : (cntL n (t.take k)).set x (((t.take k).count (x : Int) : Nat) + 1) = cntL n (t.take (k + 1)) := by
  rw [List.take_succ_eq_append_getElem hk]
  apply List.ext_getElem
  · simp [cntL]
  · intro i h1 h2
    rw [List.length_set, cntL_length] at h1
    rw [List.getElem_set, cntL_get h1, cntL_get h1]
    by_cases hi : x = i
    · subst hi
      rw [if_pos rfl, List.count_append, hx]; simp
    · rw [if_neg hi, List.count_append, hx]
      have : ([(x : Int)] : List Int).count (i : Int) = 0 := by rw [List.count_eq_zero]; simp; omega
      rw [this]; simp
theorem cntL_neg {n k : Nat} {t : List Int} (hk : k < t.length) (hx : t[k] < 0) : cntL n (t.take (k + 1)) = cntL n (t.take k) := by
  rw [List.take_succ_eq_append_getElem hk]
  apply List.ext_getElem
  · simp [cntL]
  · intro i h1 h2
    rw [cntL_length] at h1
    rw [cntL_get h1, cntL_get h1, List.count_append]
    have : ([t[k]] : List Int).count (i : Int) = 0 := by rw [List.count_eq_zero]; simp; omega
    rw [this]; simp
theorem okT_codes {s : Sg} {t : List Int} (h : okT s t = true) : ∀ x ∈ t, x < 0 ∨ (0 ≤ x ∧ x < s.length) := by
  intro x hx
  have := skip_codes s 1 t (okT_parts h).2.2.2 x hx
  simp [codeOk] at this
  omega
def cntE (s : Sg) (t : List Int) : List Int × Int := errE s t (cntL s.length t)
def cntRel (n : Nat) (t : List Int) (w : World) (B g cap : Nat) (i : Value) (wr : World) : Prop := ∃ k : Nat, i = .int .i64 k ∧ k ≤ t.length ∧ OwnI wr B (.slice (some ⟨g, 0, none⟩) n cap) (cntL n (t.take k)) ∧ Below B w wr
theorem makeZeros {W : World} (n : Nat) (hn : n ≤ 100) : (Instr.makeSlice 27 (.int .i64 (n : Int)) (.int .i64 (n : Int))).run Tryz.prog W = .ok (.slice (some ⟨W.heap.size, 0, none⟩) n n) (W.alloc (.cells (Array.replicate n (.int .i64 0)) 3)) := by
  obtain ⟨i, hi, hz0, hz1, hz2⟩ := info_parts infoInt
  have := run_make (P := Tryz.prog) W 27 3 i (.int .i64 0) Tryz.underlying27 hi hz0 .i64 .i64 n n (by omega) (by omega) (by rw [hz2]; omega) (by omega)
  rw [this, hz1, Int.toNat_natCast, Nat.mul_one]
  have hm : madeCells (Value.int .i64 0).cells n = Array.replicate n (.int .i64 0) := by
    apply Array.ext
    · simp [madeCells]
    · intro i h1 h2; simp [madeCells, Value.cells, Nat.mod_one]
  rw [hm]
end Go.Proofs.YtnhaoalcpbefoaaGreatDoor

/- Walks of package kernel: steps in memory; right, valid, ValidGivens, asked. -/
namespace Go.Proofs.YtnhaoalcpbefoaaGreatDoor
open Go Go.RowKit Go.Maps

/-- struct { Kind, A, B int } -/
def stpE : Enc Stp := pairE intE (pairE intE intE)
abbrev Steps := Sl stpE
abbrev stpV (x : Stp) : Value := .agg #[.int .i64 x.1, .int .i64 x.2.1, .int .i64 x.2.2]
def stpR (x : Stp) : Prop := inRange x.1 ∧ inRange x.2.1 ∧ inRange x.2.2
theorem Sl.stp {S : Nat → Prop} {w : World} {a : Option Addr} {c : Nat} {l : List Stp} (h : Steps S w a c l) (i : Nat) (hi : i < l.length) :
    ∃ b off, a = some ⟨b, off, none⟩ ∧ S b ∧ w.cell? ⟨b, off + i * 3, none⟩ = some (.int .i64 l[i].1) ∧ w.cell? ⟨b, off + i * 3 + 1, none⟩ = some (.int .i64 l[i].2.1) ∧ w.cell? ⟨b, off + i * 3 + 2, none⟩ = some (.int .i64 l[i].2.2) ∧ stpR l[i] := by
  obtain ⟨b, off, ha, hb, _, vs, _, hv, hr⟩ := h.at1 i hi
  obtain ⟨us, ts, rfl, ⟨rfl, h1⟩, us', ts', rfl, ⟨rfl, h2⟩, ⟨rfl, h3⟩⟩ := hr
  have h0 := hv 0 (by simp)
  have h4 := hv 1 (by simp)
  have h5 := hv 2 (by simp)
  simp [stpE, pairE, intE] at h0 h4 h5
  exact ⟨b, off, ha, hb, h0, h4, h5, h1, h2, h3⟩

theorem okSteps_snoc {G : Int} : ∀ (p : List Stp) (n : Nat) (x : Stp), okSteps G n (p ++ [x]) = (okSteps G n p && rightB G (n + p.length) x)
  | [], n, x => by simp [okSteps]
  | y :: p, n, x => by
    rw [List.cons_append, okSteps, okSteps, okSteps_snoc p (n + 1) x, Bool.and_assoc, List.length_cons, show n + 1 + p.length = n + (p.length + 1) by omega]
theorem okSteps_take {G : Int} : ∀ (p : List Stp) (n k : Nat), okSteps G n p = true → okSteps G n (p.take k) = true
  | [], _, _, _ => by simp [okSteps]
  | x :: p, n, 0, _ => rfl
  | x :: p, n, k + 1, h => by
    simp only [okSteps, Bool.and_eq_true] at h
    rw [List.take_succ_cons, okSteps, Bool.and_eq_true]
    exact ⟨h.1, okSteps_take p (n + 1) k h.2⟩
end Go.Proofs.YtnhaoalcpbefoaaGreatDoor

/- Facts of the program's types that the rows over the kernel want; the start of a row that lists variables. -/
namespace Go.Proofs.YtnhaoalcpbefoaaGreatDoor
open Go Go.RowKit Go.ChangeShapes Go.WideShapes Go.ChangeAt Go.Deep

theorem gives3 {P : Program} {t : TypeId} {α β γ : Type} {E : Enc α} {F : Enc β} {G : Enc γ} {f0 f1 f2 : Field} (ht : P.underlying t = some (.struct #[f0, f1, f2])) (h0 : f0.offset = 0) (h1 : f1.offset = E.size) (h2 : f2.offset = E.size + F.size) (hc : P.cellsOf t = E.size + (F.size + G.size))
    (hc0 : P.cellsOf f0.type = E.size) (hc1 : P.cellsOf f1.type = F.size) (hc2 : P.cellsOf f2.type = G.size) (g0 : Gives P f0.type E) (g1 : Gives P f1.type F) (g2 : Gives P f2.type G) : Gives P t (pairE E (pairE F G)) := by
  intro H enc w base spare held n cs x h
  obtain ⟨y0, y1, y2, n', _, hl, r0, r1, r2⟩ := trod_struct3 ht h
  obtain ⟨a, ha⟩ := g0 H enc w base spare held n' _ _ r0
  obtain ⟨b, hb⟩ := g1 H enc w base spare held n' _ _ r1
  obtain ⟨c, hcc⟩ := g2 H enc w base spare held n' _ _ r2
  refine ⟨(a, b, c), _, _, ?_, ha, _, _, rfl, hb, hcc⟩
  rw [h0, h1, h2, hc0, hc1, hc2, List.drop_zero]
  have e1 : (cs.drop (E.size + F.size)).take G.size = cs.drop (E.size + F.size) := List.take_of_length_le (by simp; omega)
  rw [e1, ← List.drop_drop, List.take_append_drop, List.take_append_drop]
theorem gives_array2 {P : Program} {t e : TypeId} {α : Type} {E : Enc α} (ht : P.underlying t = some (.array 2 e)) (hc : P.cellsOf t = E.size + E.size) (he : P.cellsOf e = E.size) (g : Gives P e E) : Gives P t (pairE E E) := by
  intro H enc w base spare held n cs x h
  obtain ⟨xs, m, _, _, hl, hx, hf⟩ := DataW.trod_array ht h
  match xs, hx with
  | [x0, x1], _ =>
    obtain ⟨a, ha⟩ := g H enc w base spare held m _ _ (hf 0 (by omega))
    obtain ⟨b, hb⟩ := g H enc w base spare held m _ _ (hf 1 (by omega))
    refine ⟨(a, b), _, _, ?_, ha, hb⟩
    rw [he, Nat.zero_mul, Nat.one_mul, List.drop_zero]
    have e1 : (cs.drop E.size).take E.size = cs.drop E.size := List.take_of_length_le (by simp; omega)
    rw [e1, List.take_append_drop]
end Go.Proofs.YtnhaoalcpbefoaaGreatDoor

/- Walks: lemmaryref03.OneToOne, in, Image; few, small of the laws on tongues. -/
namespace Go.Proofs.YtnhaoalcpbefoaaGreatDoor
open Go Go.RowKit Go.Maps

def roRel1 (d : Ways) (w : World) (i : Value) (wr : World) : Prop := ∃ k : Nat, i = .int .i64 k ∧ k ≤ d.length ∧ (tosD (d.take k)).Nodup ∧ Drew w wr
def roRel2 (d : Ways) (i : Nat) (w : World) (j : Value) (wr : World) : Prop := ∃ k : Nat, j = .int .i64 k ∧ k ≤ i ∧ (∀ (m : Nat) (h : m < d.length) (hi : i < d.length), m < k → d[m].1 ≠ d[i].1) ∧ Drew w wr
theorem nodup_snoc {l : List Int} {x : Int} (h : l.Nodup) (hx : x ∉ l) : (l ++ [x]).Nodup := by
  rw [List.nodup_append]
  exact ⟨h, by simp, fun a ha b hb => by rw [List.mem_singleton] at hb; rw [hb]; exact fun e => hx (by rw [← e]; exact ha)⟩
set_option maxRecDepth 20000 in
set_option maxHeartbeats 2000000 in
theorem rOneToOne_any {S1 S2 S3 : Nat → Prop} (a1 a2 a3 : Option Addr) (c1 c2 c3 : Nat) (a b : Sg) (d : Ways) (w : World) (h1 : Sign S1 w a1 c1 a) (h2 : Sign S2 w a2 c2 b) (h3 : WaysL S3 w a3 c3 d) :
    Calls Tryz.prog 51 #[.slice a1 a.length c1, .slice a2 b.length c2, .slice a3 d.length c3] w fun e w' => e = .returned (.bool (validD a b d && oneB a b d)) ∧ Drew w w' := by
  have m1 := h1.le
  have m2 := h2.le
  have m3 := h3.le
  have v1 := rValid3_any a1 a2 a3 c1 c2 c3 a b d w h1 h2 h3
  cases hx : validD a b d with
  | false =>
    rw [hx] at v1
    have v1H := Lib.hid v1
    clear v1 h1 h2 h3 hx
    go_enter Tryz.func51, Tryz.ntmps51
    go_wp2_with fail
    refine v1H.out.mono ?_
    rintro e w1 ⟨rfl, hb1⟩
    go_wp2_with fail
    go_ret
    exact ⟨rfl, hb1⟩
  | true =>
  rw [hx] at v1
  have v1H := Lib.hid v1
  rw [Bool.true_and]
  by_cases hab : a.length = b.length
  case neg =>
    have hn : ((a.length : Int) != (b.length : Int)) = true := by simp; omega
    have hR := Lib.hid (show oneB a b d = false by rw [oneB, decide_eq_false hab]; rfl)
    clear v1 h1 h2 h3 hx hab
    go_enter Tryz.func51, Tryz.ntmps51
    go_wp2_with fail
    refine v1H.out.mono ?_
    rintro e w1 ⟨rfl, hb1⟩
    go_wp2_with fail
    go_ret
    rw [hR.out]
    exact ⟨rfl, hb1⟩
  have hn : ((a.length : Int) != (b.length : Int)) = false := by simp; omega
  have hR := show oneB a b d = decide ((tosD d).Nodup) by rw [oneB, decide_eq_true hab, Bool.true_and]
  rw [hR]
  have h3H := Lib.hid h3
  clear v1 h1 h2 h3 hx hab hR
  go_enter Tryz.func51, Tryz.ntmps51
  go_wp2_with fail
  refine v1H.out.mono ?_
  rintro e w1 ⟨rfl, hb1⟩
  have hb1H := Lib.hid hb1
  clear hb1 v1H
  go_wp2_with fail
  go_loopw [7] (fun i wr => roRel1 d w i wr) (fun i _ => d.length - (intOf i).toNat)
  case atStart => exact ⟨0, rfl, Nat.zero_le _, by simp [tosD], hb1H.out⟩
  case round =>
    obtain ⟨i, rfl, hi, hnd, hB⟩ := hrel
    have hndH := Lib.hid hnd
    have hBH := Lib.hid hB
    clear hnd hB
    by_cases hlt : i < d.length
    · go_wp2_with fail
      go_loopw [8] (fun j wr => roRel2 d i w j wr) (fun j _ => i - (intOf j).toNat)
      case atStart => exact ⟨0, rfl, Nat.zero_le _, fun m _ _ h => by omega, hBH.out⟩
      case round =>
        obtain ⟨j, rfl, hj, hall, hB⟩ := hrel
        by_cases hlt2 : j < i
        · have hjd : j < d.length := by omega
          obtain ⟨b3, o3, ai, ci, rfl, -, qi, -, -, -⟩ := (h3H.out.drew hB).way i hlt
          obtain ⟨b4, o4, aj, cj, he, -, qj, -, -, -⟩ := (h3H.out.drew hB).way j hjd
          simp only [Option.some.injEq, Addr.mk.injEq, and_true] at he
          obtain ⟨rfl, rfl⟩ := he
          have hst : d[j].1 ≠ d[i].1 → ∀ (m : Nat) (h : m < d.length) (hi : i < d.length), m < j + 1 → d[m].1 ≠ d[i].1 := fun h0 m h hi hm => by
            by_cases e : m = j
            · subst e; exact h0
            · exact hall m h hi (by omega)
          have hbad : d[j].1 = d[i].1 → decide ((tosD d).Nodup) = false := fun h0 => decide_eq_false (fun hn => by
            have hp := List.pairwise_iff_getElem.1 hn j i (by simp [tosD]; omega) (by simp [tosD]; omega) hlt2
            exact hp (by simp [tosD, h0]))
          obtain ⟨x, hx⟩ : ∃ x, d[i].1 = x := ⟨_, rfl⟩
          obtain ⟨y, hy⟩ : ∃ x, d[j].1 = x := ⟨_, rfl⟩
          rw [hx] at qi hbad
          rw [hy] at qj hbad
          by_cases hxy : y = x
          · have hb : (y == x) = true := by simpa using hxy
            have hf := Lib.hid (hbad hxy)
            have hBJ := Lib.hid hB
            clear hall hB hst hbad hx hy hxy
            go_wp2_with fail
            go_quiet (fail)
            all_goals go_wp2_with fail
            all_goals go_ret
            rw [hf.out]
            exact ⟨rfl, drew_trans3 hBJ.out (Drew.mk _ _)⟩
          · have hb : (y == x) = false := by simpa using hxy
            have hf := Lib.hid (hst (by rw [hx, hy]; exact hxy))
            have hBJ := Lib.hid hB
            clear hall hB hst hbad hx hy hxy
            go_wp2_with fail
            go_quiet (fail)
            all_goals go_wp2_with fail
            go_roundw
            case rel => exact ⟨j + 1, by go_num, by omega, hf.out, drew_trans3 hBJ.out (Drew.mk _ _)⟩
            case measure => simp [intOf]; omega
        · have hji : j = i := by omega
          subst hji
          have hnew : (tosD (d.take (j + 1))).Nodup := by
            rw [tos_take hlt]
            refine nodup_snoc hndH.out (fun hm => ?_)
            obtain ⟨x, hx, he⟩ := List.mem_map.1 hm
            obtain ⟨m, hm2, rfl⟩ := List.getElem_of_mem hx
            rw [List.length_take] at hm2
            rw [List.getElem_take] at he
            exact hall m (by omega) hlt (by omega) he
          have hnH := Lib.hid hnew
          have hBJ := Lib.hid hB
          clear hall hB hnew
          go_wp2_with fail
          go_roundw
          case rel => exact ⟨j + 1, by go_num, by omega, hnH.out, hBJ.out⟩
          case measure => simp [intOf]; omega
    · have hkk : i = d.length := by omega
      subst hkk
      have hnd := hndH.out
      rw [List.take_length] at hnd
      have hR := Lib.hid (show decide ((tosD d).Nodup) = true from decide_eq_true hnd)
      clear hnd
      go_wp2_with fail
      go_ret
      rw [hR.out]
      exact ⟨rfl, hBH.out⟩
def rinnRel (d : Ways) (x : Int) (w : World) (i : Value) (wr : World) : Prop := ∃ k : Nat, i = .int .i64 k ∧ k ≤ d.length ∧ x ∉ tosD (d.take k) ∧ w = wr
theorem rin_any {S3 : Nat → Prop} (a3 : Option Addr) (c3 : Nat) (d : Ways) (x : Int) (w : World) (h3 : WaysL S3 w a3 c3 d) :
    Calls Tryz.prog 99 #[.slice a3 d.length c3, .int .i64 x] w fun e w' => e = .returned (.bool ((tosD d).contains x)) ∧ w = w' := by
  have m3 := h3.le
  have h3H := Lib.hid h3
  clear h3
  go_enter Tryz.func99, Tryz.ntmps99
  go_wp2_with fail
  go_loopw [5] (fun i wr => rinnRel d x w i wr) (fun i _ => d.length - (intOf i).toNat)
  case atStart => exact ⟨0, rfl, Nat.zero_le _, by simp [tosD], rfl⟩
  case round =>
    obtain ⟨k, rfl, hk, hnm, rfl⟩ := hrel
    by_cases hlt : k < d.length
    · obtain ⟨b3, o3, ai, ci, rfl, -, qi, -, -, -⟩ := h3H.out.way k hlt
      have htk := tos_take hlt
      have hin : d[k].1 ∈ tosD d := List.mem_map.2 ⟨_, List.getElem_mem hlt, rfl⟩
      obtain ⟨y, hy⟩ : ∃ y, d[k].1 = y := ⟨_, rfl⟩
      rw [hy] at qi htk hin
      by_cases hxy : y = x
      · have hb : (y == x) = true := by simpa using hxy
        have hf : (tosD d).contains x = true := by rw [← hxy]; simpa using hin
        have hfH := Lib.hid hf
        clear hnm htk hin hy hxy hf
        go_wp2_with fail
        go_ret
        rw [hfH.out]
        exact ⟨rfl, rfl⟩
      · have hb : (y == x) = false := by simpa using hxy
        have hn2 : x ∉ tosD (d.take (k + 1)) := by
          rw [htk, List.mem_append, List.mem_singleton]
          exact fun e => e.elim hnm (fun e => hxy e.symm)
        have hnH := Lib.hid hn2
        clear hnm htk hin hy hxy hn2
        go_wp2_with fail
        go_roundw
        case rel => exact ⟨k + 1, by go_num, by omega, hnH.out, rfl⟩
        case measure => simp [intOf]; omega
    · rw [List.take_of_length_le (by omega)] at hnm
      have hf : (tosD d).contains x = false := by
        rw [Bool.eq_false_iff]
        intro e
        exact hnm (by simpa using e)
      have hfH := Lib.hid hf
      clear hnm hf
      go_wp2_with fail
      go_ret
      rw [hfH.out]
      exact ⟨rfl, rfl⟩
def rimgRel (d : Ways) (n : Nat) (w : World) (out i : Value) (wr : World) : Prop := ∃ k : Nat, i = .int .i64 k ∧ k ≤ n ∧ OwnI wr w.heap.size out (imgK d k) ∧ Below w.heap.size w wr
theorem imgK_len (d : Ways) (n : Nat) : (imgK d n).length ≤ n := by unfold imgK; exact Nat.le_trans (List.length_filter_le _ _) (by rw [ascL_len]; exact Nat.le_refl _)
end Go.Proofs.YtnhaoalcpbefoaaGreatDoor

/- Walks: few, small of the laws on tongues. -/
namespace Go.Proofs.YtnhaoalcpbefoaaGreatDoor
open Go Go.RowKit Go.Maps

def fewB (d : Ways) : Bool := d.all (fun x => decide (x.2.length ≤ 40)) && decide (d.length ≤ 40)
theorem fewB_le {d : Ways} (h : fewB d = true) : d.length ≤ 40 ∧ ∀ x ∈ d, x.2.length ≤ 1000 := by
  unfold fewB at h
  rw [Bool.and_eq_true, List.all_eq_true, decide_eq_true_eq] at h
  refine ⟨h.2, fun x hx => ?_⟩
  have := h.1 x hx
  rw [decide_eq_true_eq] at this
  omega
def fewRel (d : Ways) (w : World) (i : Value) (wr : World) : Prop := ∃ k : Nat, i = .int .i64 k ∧ k ≤ d.length ∧ (d.take k).all (fun x => decide (x.2.length ≤ 40)) = true ∧ w = wr
theorem few_any {S3 : Nat → Prop} (a3 : Option Addr) (c3 : Nat) (d : Ways) (w : World) (h3 : WaysL S3 w a3 c3 d) :
    Calls Tryz.prog 18 #[.slice a3 d.length c3] w fun e w' => e = .returned (.bool (fewB d)) ∧ w = w' := by
  have m3 := h3.le
  have h3H := Lib.hid h3
  clear h3
  go_enter Tryz.func18, Tryz.ntmps18
  go_wp2_with fail
  go_loopw [3] (fun i wr => fewRel d w i wr) (fun i _ => d.length - (intOf i).toNat)
  case atStart => exact ⟨0, rfl, Nat.zero_le _, by simp, rfl⟩
  case round =>
    obtain ⟨k, rfl, hk, hal, rfl⟩ := hrel
    by_cases hlt : k < d.length
    · obtain ⟨b3, o3, ai, ci, rfl, -, -, qi, -, hI⟩ := h3H.out.way k hlt
      have hma := hI.le
      have hst : d[k].2.length ≤ 40 → (d.take (k + 1)).all (fun x => decide (x.2.length ≤ 40)) = true := fun h => by
        rw [List.take_succ_eq_append_getElem hlt, List.all_append, hal]
        simpa using h
      have hbad : 40 < d[k].2.length → fewB d = false := fun h => by
        have : d.all (fun x => decide (x.2.length ≤ 40)) = false := by rw [List.all_eq_false]; exact ⟨d[k], List.getElem_mem hlt, by simpa using h⟩
        unfold fewB; rw [this]; rfl
      obtain ⟨n, hn⟩ : ∃ n, d[k].2.length = n := ⟨_, rfl⟩
      rw [hn] at qi hst hbad hma
      by_cases h40 : n ≤ 40
      · have hf := Lib.hid (hst h40)
        clear hst hbad hal hn hI
        go_wp2_with fail
        go_roundw
        case rel => exact ⟨k + 1, by go_num, by omega, hf.out, rfl⟩
        case measure => simp [intOf]; omega
      · have hf := Lib.hid (hbad (by omega))
        clear hst hbad hal hn hI
        go_wp2_with fail
        go_ret
        exact ⟨ret_bool hf.out.symm, rfl⟩
    · rw [List.take_of_length_le (by omega)] at hal
      have hf : fewB d = decide (d.length ≤ 40) := by unfold fewB; rw [hal, Bool.true_and]
      have hfH := Lib.hid hf
      clear hal hf
      go_wp2_with fail
      go_ret
      refine ⟨ret_bool ?_, rfl⟩
      rw [hfH.out, Bool.eq_iff_iff]; simp; omega
def smallTr (a b : Sg) (d : Ways) : Bool := smallT a [] && (smallT b [] && fewB d)
set_option maxHeartbeats 1000000 in
theorem smallTr_any {S1 S2 S3 : Nat → Prop} (a1 a2 a3 : Option Addr) (c1 c2 c3 : Nat) (a b : Sg) (d : Ways) (w : World) (h1 : Sign S1 w a1 c1 a) (h2 : Sign S2 w a2 c2 b) (h3 : WaysL S3 w a3 c3 d) :
    Calls Tryz.prog 8 #[.agg #[.slice a1 a.length c1, .slice a2 b.length c2, .slice a3 d.length c3]] w fun e w' => e = .returned (.bool (smallTr a b d)) ∧ Below w.heap.size w w' := by
  have m1 := h1.le
  have m2 := h2.le
  have m3 := h3.le
  obtain ⟨W, hW⟩ : ∃ W, w.alloc (.cells #[.slice a1 a.length c1, .slice a2 b.length c2, .slice a3 d.length c3] 26) = W := ⟨_, rfl⟩
  have hB : Below w.heap.size w W := by rw [← hW]; exact below1 w _
  have q0 : W.cell? ⟨w.heap.size, 0, none⟩ = some (.slice a1 a.length c1) := by rw [← hW]; clear hW; go_simp
  have q1 : W.cell? ⟨w.heap.size, 1, none⟩ = some (.slice a2 b.length c2) := by rw [← hW]; clear hW; go_simp
  have q2 : W.cell? ⟨w.heap.size, 2, none⟩ = some (.slice a3 d.length c3) := by rw [← hW]; clear hW; go_simp
  have s1 : Calls Tryz.prog 9 #[.slice a1 a.length c1, .slice none 0 0] W fun e w' => e = .returned (.bool (smallT a [])) ∧ W = w' := Small_any a1 none c1 0 a [] W (h1.below hB) (Sl.empty (S := fun _ => True))
  have s2 : Calls Tryz.prog 9 #[.slice a2 b.length c2, .slice none 0 0] W fun e w' => e = .returned (.bool (smallT b [])) ∧ W = w' := Small_any a2 none c2 0 b [] W (h2.below hB) (Sl.empty (S := fun _ => True))
  have s3 := few_any a3 c3 d W (h3.below hB)
  have s1H := Lib.hid s1
  have s2H := Lib.hid s2
  have s3H := Lib.hid s3
  have hBH := Lib.hid hB
  clear s1 s2 s3 hB h1 h2 h3
  unfold smallTr
  cases hx : smallT a [] with
  | false =>
    rw [hx] at s1H
    clear hx
    go_enter Tryz.func8, Tryz.ntmps8
    go_wp2_with fail
    try rw [hW]
    go_wp2_with fail
    refine s1H.out.mono ?_
    rintro e w1 ⟨rfl, rfl⟩
    go_wp2_with fail
    go_ret
    exact ⟨rfl, hBH.out⟩
  | true =>
  rw [hx] at s1H
  cases hy : smallT b [] with
  | false =>
    rw [hy] at s2H
    clear hx hy
    go_enter Tryz.func8, Tryz.ntmps8
    go_wp2_with fail
    try rw [hW]
    go_wp2_with fail
    refine s1H.out.mono ?_
    rintro e w1 ⟨rfl, rfl⟩
    go_wp2_with fail
    refine s2H.out.mono ?_
    rintro e w1 ⟨rfl, rfl⟩
    go_wp2_with fail
    go_ret
    exact ⟨rfl, hBH.out⟩
  | true =>
  rw [hy] at s2H
  obtain ⟨z, hz⟩ : ∃ z, fewB d = z := ⟨_, rfl⟩
  rw [hz] at s3H ⊢
  clear hx hy hz
  go_enter Tryz.func8, Tryz.ntmps8
  go_wp2_with fail
  try rw [hW]
  go_wp2_with fail
  refine s1H.out.mono ?_
  rintro e w1 ⟨rfl, rfl⟩
  go_wp2_with fail
  refine s2H.out.mono ?_
  rintro e w1 ⟨rfl, rfl⟩
  go_wp2_with fail
  refine s3H.out.mono ?_
  rintro e w1 ⟨rfl, rfl⟩
  go_wp2_with fail
  go_ret
  exact ⟨by simp, hBH.out⟩
end Go.Proofs.YtnhaoalcpbefoaaGreatDoor

/- Walks: lemmaryref03.Inverse. -/
namespace Go.Proofs.YtnhaoalcpbefoaaGreatDoor
open Go Go.RowKit Go.Maps

theorem keepJ3 {W1 w1 w2 : World} {p1 p2 p3 : Addr} {v1 v2 v3 : Value} (h : Below W1.heap.size W1 w1 ∧ w1.cell? p1 = some v1 ∧ w1.cell? p2 = some v2 ∧ w1.cell? p3 = some v3) (hb : Below w1.heap.size w1 w2) :
    Below W1.heap.size W1 w2 ∧ w2.cell? p1 = some v1 ∧ w2.cell? p2 = some v2 ∧ w2.cell? p3 = some v3 :=
  ⟨bcall h.1 hb, cell_later hb h.2.1, cell_later hb h.2.2.1, cell_later hb h.2.2.2⟩
def ijRel (A : List Int) (g : Nat) (W1 : World) (i : Value) (wr : World) : Prop := ∃ q : Nat, i = .int .i64 q ∧ q ≤ A.length ∧ OwnI wr g (.slice (some ⟨g, 0, none⟩) A.length A.length) (invA A A.length q) ∧ W1.grownBy wr (some g)
end Go.Proofs.YtnhaoalcpbefoaaGreatDoor

/- The law TongueCarries, walked. -/
namespace Go.Proofs.YtnhaoalcpbefoaaGreatDoor
open Go Go.RowKit Go.Maps

theorem crdE_casesT (a b : Sg) (d : Ways) (t : List Int) : ((crdE a b d t).2 ≠ 0) ∨ (validD a b d = true ∧ okT a t = true ∧ crdE a b d t = (carT a d t, 0)) := by
  unfold crdE
  cases h1 : validD a b d
  · left; simp
  · cases h2 : okT a t
    · left; simp
    · right; simp
theorem crdE_okT {a b : Sg} {d : Ways} {t : List Int} (h1 : validD a b d = true) (h2 : okT a t = true) : crdE a b d t = (carT a d t, 0) := by
  unfold crdE
  rw [h1, h2, Bool.and_self, if_pos rfl]
theorem Canon_ok {S1 S2 : Nat → Prop} (a1 a2 : Option Addr) (c1 c2 : Nat) (s : Sg) (t : List Int) (w : World) (h1 : Sign S1 w a1 c1 s) (h2 : Ints S2 w a2 c2 t) (h : okT s t = true) :
    Calls Tryz.prog 16 #[.slice a1 s.length c1, .slice a2 t.length c2] w (retIE (canon t, 0) w) :=
  (Canonical_any a1 a2 c1 c2 s t w h1 h2).mono fun e w' ⟨v, n, he, hb, _, hc⟩ => by
    obtain ⟨rfl, ho⟩ := hc h
    obtain ⟨aC, cC, rfl, hC⟩ := OwnI.ints ho
    exact ⟨aC, cC, he, hC, hb⟩
theorem Depth_ok {S1 S2 : Nat → Prop} (a1 a2 : Option Addr) (c1 c2 : Nat) (s : Sg) (t : List Int) (w : World) (h1 : Sign S1 w a1 c1 s) (h2 : Ints S2 w a2 c2 t) (h : okT s t = true) {n : Nat} (hn : depth s t = n) :
    Calls Tryz.prog 14 #[.slice a1 s.length c1, .slice a2 t.length c2] w fun e w' => e = .returned (.tuple #[.int .i64 (n : Int), .int .i64 0]) ∧ Below w.heap.size w w' := by
  have := Depth_any a1 a2 c1 c2 s t w h1 h2
  rw [if_pos h, hn] at this
  exact this
theorem VarsN_any {S : Nat → Prop} (a : Option Addr) (c : Nat) (t : List Int) (w : World) (h : Ints S w a c t) (hl : t.length ≤ lim) (ht : tame t) {n : Nat} (hn : (varsC t).length = n) :
    Calls Tryz.prog 15 #[.slice a t.length c] w fun e w' => ∃ aV cV, e = .returned (.slice aV n cV) ∧ Below w.heap.size w w' :=
  (Variables_any a c t w h hl ht).mono fun e w' ⟨v, he, ho, hb⟩ => by
    obtain ⟨aC, cC, rfl, hC⟩ := OwnI.ints ho
    have e1 : (varsV t).length = n := by unfold varsV; rw [List.length_map, hn]
    rw [e1] at he
    exact ⟨aC, cC, he, hb⟩
set_option maxRecDepth 100000 in
set_option maxHeartbeats 8000000 in
theorem TongueCarries_walk {S1 S2 S3 S4 : Nat → Prop} (a1 : Option Addr) (c1 : Nat) (a : Sg) (a2 : Option Addr) (c2 : Nat) (b : Sg) (a3 : Option Addr) (c3 : Nat) (d : Ways) (a4 : Option Addr) (c4 : Nat) (t : List Int) (w : World) (h1 : Sign S1 w a1 c1 a) (h2 : Sign S2 w a2 c2 b) (h3 : WaysL S3 w a3 c3 d) (h4 : Ints S4 w a4 c4 t) :
    Calls Tryz.prog 3 #[.agg #[.slice a1 a.length c1, .slice a2 b.length c2, .slice a3 d.length c3], .slice a4 t.length c4] w fun e w' => e = .returned (.bool true) ∧ Below w.heap.size w w' := by
  have m1 := h1.le
  have m2 := h2.le
  have m3 := h3.le
  have m4 := h4.le
  obtain ⟨W, hW⟩ : ∃ W, w.alloc (.cells #[.slice a1 a.length c1, .slice a2 b.length c2, .slice a3 d.length c3] 26) = W := ⟨_, rfl⟩
  have hB : Below w.heap.size w W := by rw [← hW]; exact below1 w _
  have q0 : W.cell? ⟨w.heap.size, 0, none⟩ = some (.slice a1 a.length c1) := by rw [← hW]; clear hW; go_simp
  have q1 : W.cell? ⟨w.heap.size, 1, none⟩ = some (.slice a2 b.length c2) := by rw [← hW]; clear hW; go_simp
  have q2 : W.cell? ⟨w.heap.size, 2, none⟩ = some (.slice a3 d.length c3) := by rw [← hW]; clear hW; go_simp
  have sm := smallTr_any a1 a2 a3 c1 c2 c3 a b d W (h1.below hB) (h2.below hB) (h3.below hB)
  have aw := Lib.hid (fun W' (hb : Below w.heap.size w W') => aw3_from hb (Nat.le_refl _))
  have hBH := Lib.hid hB
  cases hs : smallTr a b d with
  | false =>
    rw [hs] at sm
    have smH := Lib.hid sm
    clear hB h1 h2 h3 h4 sm hs
    go_enter Tryz.func3, Tryz.ntmps3
    go_wp2_with fail
    try rw [hW]
    go_wp2_with fail
    refine smH.out.mono ?_
    rintro e w1 ⟨rfl, hb1⟩
    go_wp2_with fail
    refine (aw.out _ (bcall hBH.out hb1)).mono ?_
    rintro e w2 ⟨rfl, hb2⟩
    go_wp2_with fail
    go_ret
    exact ⟨rfl, hb2⟩
  | true =>
  rw [hs] at sm
  have smH := Lib.hid sm
  have hda : ∀ x ∈ d, x.2.length ≤ 1000 := by
    unfold smallTr at hs
    simp only [Bool.and_eq_true] at hs
    exact (fewB_le hs.2.2).2
  have Q : ∀ W', Below W.heap.size W W' → Below w.heap.size w W' ∧ W'.cell? ⟨w.heap.size, 0, none⟩ = some (.slice a1 a.length c1) ∧ W'.cell? ⟨w.heap.size, 1, none⟩ = some (.slice a2 b.length c2) ∧ W'.cell? ⟨w.heap.size, 2, none⟩ = some (.slice a3 d.length c3) := fun W' hb =>
    ⟨bcall hBH.out hb, cell_later hb q0, cell_later hb q1, cell_later hb q2⟩
  have QH := Lib.hid Q
  have st : ∀ W', Below w.heap.size w W' → Calls Tryz.prog 9 #[.slice none 0 0, .slice (some ⟨W'.heap.size, 0, none⟩) 1 1] (W'.alloc (.cells #[.slice a4 t.length c4] 28)) fun e w' => e = .returned (.bool (smallT [] [t])) ∧ W'.alloc (.cells #[.slice a4 t.length c4] 28) = w' := fun W' hb =>
    Small_any none (some ⟨W'.heap.size, 0, none⟩) 0 1 [] [t] _ (Sl.empty (S := fun _ => True)) (Sl.new (E := slE intE) (S := fun _ => True) W' [[.slice a4 t.length c4]] [t] 28 rfl (by unfold big; simp) (fun i g1 g2 => by
      match i, g1 with
      | 0, _ => exact ⟨_, _, rfl, (h4.below hb).any⟩))
  have stH := Lib.hid st
  have h1H := Lib.hid h1
  have h2H := Lib.hid h2
  have h3H := Lib.hid h3
  have h4H := Lib.hid h4
  have hdaH := Lib.hid hda
  clear hB h1 h2 h3 h4 sm hs hda Q st
  cases hz : smallT [] [t] with
  | false =>
    go_enter Tryz.func3, Tryz.ntmps3
    go_wp2_with fail
    try rw [hW]
    go_wp2_with fail
    refine smH.out.mono ?_
    rintro e w1 ⟨rfl, hb1⟩
    have hBB := bcall hBH.out hb1
    have st1 := stH.out w1 hBB
    rw [hz] at st1
    have st1H := Lib.hid st1
    clear st1
    go_wp2_with fail
    refine st1H.out.mono ?_
    rintro e w2 ⟨rfl, rfl⟩
    go_wp2_with fail
    refine (aw.out _ (bcall hBB (below1 _ _))).mono ?_
    rintro e w2 ⟨rfl, hb2⟩
    go_wp2_with fail
    go_ret
    exact ⟨rfl, hb2⟩
  | true =>
  have hRc := Lib.hid (crdE_casesT a b d t)
  obtain ⟨⟨U, E3⟩, hU⟩ : ∃ x, crdE a b d t = x := ⟨_, rfl⟩
  have f1 : (E3 != E3) = false := by simp
  go_enter Tryz.func3, Tryz.ntmps3
  go_wp2_with fail
  try rw [hW]
  go_wp2_with fail
  refine smH.out.mono ?_
  rintro e w1 ⟨rfl, hb1⟩
  have hBB := bcall hBH.out hb1
  have st1 := stH.out w1 hBB
  obtain ⟨w0, hW2⟩ : ∃ W2, w1.alloc (.cells #[.slice a4 t.length c4] 28) = W2 := ⟨_, rfl⟩
  rw [hz, hW2] at st1
  have st1H := Lib.hid st1
  have hb2 := bcall hb1 (below1 w1 (.cells #[.slice a4 t.length c4] 28))
  rw [hW2] at hb2
  obtain ⟨hb3, p0, p1, p2⟩ := QH.out _ hb2
  have hT0H := Lib.hid hb2
  have hw0H := Lib.hid hb3
  clear st1 hb2 hb3 hBB hW hb1 hz
  go_wp2_with fail
  refine st1H.out.mono ?_
  rintro e w2 ⟨rfl, rfl⟩
  clear st1H smH hW2
  have cc10 := Carried_any a1 a2 a3 a4 c1 c2 c3 c4 a b d t _ (h1H.out.below hw0H.out) (h2H.out.below hw0H.out) (h3H.out.below hw0H.out) (h4H.out.below hw0H.out) hdaH.out
  rw [hU] at cc10
  have cc1 := Lib.hid cc10
  clear cc10
  go_wp2_with fail
  refine cc1.out.mono ?_
  rintro e w1 ⟨aU, cU, rfl, hU, hb1⟩
  have hT1 := bcall hT0H.out hb1
  obtain ⟨hw1, p0, p1, p2⟩ := QH.out _ hT1
  have U_1 := Lib.hid hU
  have mU := hU.le
  have hT1H := Lib.hid hT1
  have hw1H := Lib.hid hw1
  clear hT1 hw1 hb1 hT0H hw0H hU cc1
  have cc20 := rCarried_any a1 a2 a3 a4 c1 c2 c3 c4 a b d t _ (h1H.out.below hw1H.out) (h2H.out.below hw1H.out) (h3H.out.below hw1H.out) (h4H.out.below hw1H.out)
  rw [hU] at cc20
  have cc2 := Lib.hid cc20
  clear cc20
  go_wp2_with fail
  refine cc2.out.mono ?_
  rintro e w2 ⟨aV, cV, rfl, hV, hb2⟩
  have hT2 := bcall hT1H.out hb2
  obtain ⟨hw2, p0, p1, p2⟩ := QH.out _ hT2
  have U_2 := Lib.hid (U_1.out.below hb2)
  have V_2 := Lib.hid hV
  have mV := hV.le
  have hT2H := Lib.hid hT2
  have hw2H := Lib.hid hw2
  clear hT2 hw2 hb2 hT1H hw1H U_1 hV cc2
  have cc30 := Same_any aU aV cU cV U U _ U_2.out V_2.out
  rw [decide_eq_true rfl] at cc30
  have cc3 := Lib.hid cc30
  clear cc30
  go_wp2_with fail
  refine cc3.out.mono ?_
  rintro e w3 ⟨rfl, hd3⟩
  have hb3 := hd3.below w2.heap.size
  have hT3 := bcall hT2H.out hb3
  obtain ⟨hw3, p0, p1, p2⟩ := QH.out _ hT3
  have U_3 := Lib.hid (U_2.out.below hb3)
  have V_3 := Lib.hid (V_2.out.below hb3)
  have hT3H := Lib.hid hT3
  have hw3H := Lib.hid hw3
  clear hT3 hw3 hb3 hT2H hw2H U_2 V_2 cc3 hd3
  have hRc0 := hRc.out
  rw [hU] at hRc0
  rcases hRc0 with hF | ⟨hv, ht, hUe⟩
  · have f3 : (E3 != 0) = true := by simpa using hF
    clear hF hU hRc
    have ca4 := Lib.hid (aw.out _ hw3H.out)
    go_wp2_with fail
    refine ca4.out.mono ?_
    rintro e wZ ⟨rfl, hbZ⟩
    go_wp2_with fail
    go_ret
    exact ⟨rfl, hbZ⟩
  obtain ⟨rfl, rfl⟩ : U = carT a d t ∧ E3 = 0 := by
    injection hUe with x1 x2
    exact ⟨x1, x2⟩
  obtain ⟨hok, hln⟩ := carT_ok hv t.length ht (Nat.le_refl _)
  have hdp := car_depth hv t.length ht (Nat.le_refl _)
  have hvr := car_vars hv ht
  have hcn := car_canon hv ht
  have htc := okT_canon ht
  have hok2 := (carT_ok hv _ htc (Nat.le_refl _)).1
  have o4 := crdE_okT hv htc
  have ok1 := okT_parts ht
  have htm := okT_tame ht
  have htm2 := okT_tame hok
  have hl60 : t.length ≤ lim := by unfold lim; omega
  obtain ⟨R, hR⟩ : ∃ R, carT a d t = R := ⟨_, rfl⟩
  rw [hR] at hok hln hdp hvr hcn htm2 U_3 mU
  try simp only [hR]
  obtain ⟨R2, hR2⟩ : ∃ R2, carT a d (canon t) = R2 := ⟨_, rfl⟩
  rw [hR2] at hok2 hcn o4
  obtain ⟨n, hn⟩ : ∃ n, depth a t = n := ⟨_, rfl⟩
  obtain ⟨k, hk⟩ : ∃ k, (varsC t).length = k := ⟨_, rfl⟩
  rw [hn] at hdp
  rw [hk] at hvr
  have hR60 : R.length ≤ lim := by omega
  have f4 : (((n : Nat) : Int) != ((n : Nat) : Int)) = false := by simp
  have f5 : (((R.length : Nat) : Int) != ((t.length : Nat) : Int)) = false := by rw [hln]; simp
  have f6 : (((k : Nat) : Int) != ((k : Nat) : Int)) = false := by simp
  have hk60 : k ≤ 1000 := by have := varsC_length t; unfold lim at hl60; omega
  have hal : alikeT b R R2 = true := by unfold alikeT; rw [hok, hok2, decide_eq_true hcn.symm]; rfl
  have htH := Lib.hid ht
  have hokH := Lib.hid hok
  have hdpH := Lib.hid hdp
  have hvrH := Lib.hid hvr
  have hnH := Lib.hid hn
  have hkH := Lib.hid hk
  have htmH := Lib.hid htm
  have htm2H := Lib.hid htm2
  have halH := Lib.hid hal
  have o4H := Lib.hid o4
  have hl60H := Lib.hid hl60
  have hR60H := Lib.hid hR60
  obtain ⟨K, hK⟩ : ∃ K, canon t = K := ⟨_, rfl⟩
  simp only [hK] at o4H
  have hKH := Lib.hid hK
  clear hv ht hU hRc hUe hok hln hdp hvr hcn htc hok2 o4 ok1 htm htm2 hR hR2 hn hk hal hl60 hR60 hK
  have cc40 := Depth_ok a1 a4 c1 c4 a t _ (h1H.out.below hw3H.out) (h4H.out.below hw3H.out) htH.out hnH.out
  have cc4 := Lib.hid cc40
  clear cc40
  go_wp2_with fail
  refine cc4.out.mono ?_
  rintro e w4 ⟨rfl, hb4⟩
  have hT4 := bcall hT3H.out hb4
  obtain ⟨hw4, p0, p1, p2⟩ := QH.out _ hT4
  have U_4 := Lib.hid (U_3.out.below hb4)
  have hT4H := Lib.hid hT4
  have hw4H := Lib.hid hw4
  clear hT4 hw4 hb4 hT3H hw3H U_3 V_3 cc4
  have cc50 := Depth_ok a2 aU c2 cU b R _ (h2H.out.below hw4H.out) U_4.out hokH.out hdpH.out
  have cc5 := Lib.hid cc50
  clear cc50
  go_wp2_with fail
  refine cc5.out.mono ?_
  rintro e w5 ⟨rfl, hb5⟩
  have hT5 := bcall hT4H.out hb5
  obtain ⟨hw5, p0, p1, p2⟩ := QH.out _ hT5
  have U_5 := Lib.hid (U_4.out.below hb5)
  have hT5H := Lib.hid hT5
  have hw5H := Lib.hid hw5
  clear hT5 hw5 hb5 hT4H hw4H U_4 cc5
  have cc60 := VarsN_any aU cU R _ U_5.out hR60H.out htm2H.out hvrH.out
  have cc6 := Lib.hid cc60
  clear cc60
  go_wp2_with fail
  refine cc6.out.mono ?_
  rintro e w6 ⟨aP, cP, rfl, hb6⟩
  have hT6 := bcall hT5H.out hb6
  obtain ⟨hw6, p0, p1, p2⟩ := QH.out _ hT6
  have U_6 := Lib.hid (U_5.out.below hb6)
  have hT6H := Lib.hid hT6
  have hw6H := Lib.hid hw6
  clear hT6 hw6 hb6 hT5H hw5H U_5 cc6
  have cc70 := VarsN_any a4 c4 t _ (h4H.out.below hw6H.out) hl60H.out htmH.out hkH.out
  have cc7 := Lib.hid cc70
  clear cc70
  go_wp2_with fail
  refine cc7.out.mono ?_
  rintro e w7 ⟨aQ, cQ, rfl, hb7⟩
  have hT7 := bcall hT6H.out hb7
  obtain ⟨hw7, p0, p1, p2⟩ := QH.out _ hT7
  have U_7 := Lib.hid (U_6.out.below hb7)
  have hT7H := Lib.hid hT7
  have hw7H := Lib.hid hw7
  clear hT7 hw7 hb7 hT6H hw6H U_6 cc7
  have cc80 := Canon_ok a1 a4 c1 c4 a t _ (h1H.out.below hw7H.out) (h4H.out.below hw7H.out) htH.out
  rw [hKH.out] at cc80
  have cc8 := Lib.hid cc80
  clear cc80
  go_wp2_with fail
  refine cc8.out.mono ?_
  rintro e w8 ⟨aC, cC, rfl, hC, hb8⟩
  have hT8 := bcall hT7H.out hb8
  obtain ⟨hw8, p0, p1, p2⟩ := QH.out _ hT8
  have U_8 := Lib.hid (U_7.out.below hb8)
  have C_8 := Lib.hid hC
  have mC := hC.le
  have hT8H := Lib.hid hT8
  have hw8H := Lib.hid hw8
  clear hT8 hw8 hb8 hT7H hw7H U_7 hC cc8
  have cc90 := Carried_any a1 a2 a3 aC c1 c2 c3 cC a b d K _ (h1H.out.below hw8H.out) (h2H.out.below hw8H.out) (h3H.out.below hw8H.out) C_8.out hdaH.out
  rw [o4H.out] at cc90
  have cc9 := Lib.hid cc90
  clear cc90
  go_wp2_with fail
  refine cc9.out.mono ?_
  rintro e w9 ⟨aD, cD, rfl, hD, hb9⟩
  have hT9 := bcall hT8H.out hb9
  obtain ⟨hw9, p0, p1, p2⟩ := QH.out _ hT9
  have U_9 := Lib.hid (U_8.out.below hb9)
  have C_9 := Lib.hid (C_8.out.below hb9)
  have D_9 := Lib.hid hD
  have mD := hD.le
  have hT9H := Lib.hid hT9
  have hw9H := Lib.hid hw9
  clear hT9 hw9 hb9 hT8H hw8H U_8 C_8 hD cc9
  have cc100 := Alike_any a2 aU aD c2 cU cD b R R2 _ (h2H.out.below hw9H.out) U_9.out D_9.out
  rw [halH.out] at cc100
  have cc10 := Lib.hid cc100
  clear cc100
  go_wp2_with fail
  refine cc10.out.mono ?_
  rintro e w10 ⟨rfl, hb10⟩
  have hT10 := bcall hT9H.out hb10
  obtain ⟨hw10, p0, p1, p2⟩ := QH.out _ hT10
  have U_10 := Lib.hid (U_9.out.below hb10)
  have C_10 := Lib.hid (C_9.out.below hb10)
  have D_10 := Lib.hid (D_9.out.below hb10)
  have hT10H := Lib.hid hT10
  have hw10H := Lib.hid hw10
  clear hT10 hw10 hb10 hT9H hw9H U_9 C_9 D_9 cc10
  have ca11 := Lib.hid (aw.out _ hw10H.out)
  go_wp2_with fail
  refine ca11.out.mono ?_
  rintro e wZ ⟨rfl, hbZ⟩
  go_wp2_with fail
  go_ret
  exact ⟨rfl, hbZ⟩
end Go.Proofs.YtnhaoalcpbefoaaGreatDoor

/- Made lists of terms, set; the closures of Lacks and Fetched; the first way that leads to a symbol. -/
namespace Go.Proofs.YtnhaoalcpbefoaaGreatDoor
open Go Go.RowKit Go.Maps

theorem flat1_set {v : Value} : ∀ {xs : List (List Value)} (_ : ∀ x ∈ xs, x.length = 1) (j : Nat) (_ : j < xs.length), xs.flatten.set j v = (xs.set j [v]).flatten
  | [], _, j, hj => by simp at hj
  | x :: xs, h, 0, _ => by
    have hx := h x (by simp)
    match x, hx with
    | [p], _ => rfl
  | x :: xs, h, j + 1, hj => by
    have hx := h x (by simp)
    have ih := flat1_set (v := v) (xs := xs) (fun y hy => h y (by simp [hy])) j (by simpa using hj)
    match x, hx with
    | [p], _ =>
      rw [List.flatten_cons, List.set_cons_succ, List.flatten_cons, ← ih]
      rfl
theorem OwnTs.setT {St : Nat → Prop} {w : World} {base g n cap : Nat} {l : List (List Int)} (h : OwnL (slE intE) St w base 28 (.slice (some ⟨g, 0, none⟩) n cap) l) (hn : n = l.length) {j : Nat} (hj : j < l.length) {x : List Int} {S : Nat → Prop} {a : Option Addr} {c : Nat} (hI : Ints S w a c x) (hS : ∀ b, S b → St b ∧ b ≠ g) :
    OwnL (slE intE) St (w.setCell ⟨g, j, none⟩ (.slice a x.length c)) base 28 (.slice (some ⟨g, 0, none⟩) n cap) (l.set j x) ∧ w.grownBy (w.setCell ⟨g, j, none⟩ (.slice a x.length c)) (some g) := by
  subst hn
  obtain ⟨xs, ho, hl, hR⟩ := h
  obtain ⟨h1, g1⟩ := ho.stored j (.slice a x.length c)
  have hln : ∀ y ∈ xs, y.length = 1 := fun y hy => by
    obtain ⟨i, hi, rfl⟩ := List.getElem_of_mem hy
    exact (slE intE).len (hR i hi (by omega))
  rw [flat1_set hln j (by omega)] at h1
  have hA : Agree (Off St (.slice (some ⟨g, 0, none⟩) l.length cap)) w (w.setCell ⟨g, j, none⟩ (.slice a x.length c)) :=
    .of_grown g1 (fun b hb e => hb.2 (by injection e with e; rw [e]; rfl))
  refine ⟨⟨xs.set j [.slice a x.length c], by rw [List.length_set]; exact h1, by rw [List.length_set, List.length_set]; exact hl, fun i hi1 hi2 => ?_⟩, g1⟩
  rw [List.length_set] at hi1 hi2
  rw [List.getElem_set, List.getElem_set]
  by_cases e : j = i
  · rw [if_pos e, if_pos e]
    exact ⟨a, c, rfl, hI.mono (fun b _ hb => ⟨(hS b hb).1, fun e => (hS b hb).2 (by simpa [Value.ownBlock] using e)⟩) (.of_grown g1 (fun b hb e => (hS b hb).2 (Option.some.inj e)))⟩
  · rw [if_neg e, if_neg e]
    exact (slE intE).mono (hR i hi1 hi2) (fun _ _ h => h) hA
theorem OwnTs.cellT {St : Nat → Prop} {w : World} {base g n cap : Nat} {l : List (List Int)} (h : OwnL (slE intE) St w base 28 (.slice (some ⟨g, 0, none⟩) n cap) l) (hn : n = l.length) {j : Nat} (hj : j < l.length) : (∃ v, w.cell? ⟨g, j, none⟩ = some v) ∧ w.frozen? ⟨g, j, none⟩ = false := by
  subst hn
  obtain ⟨xs, ho, hl, hR⟩ := h
  have hln : ∀ y ∈ xs, y.length = 1 := fun y hy => by
    obtain ⟨i, hi, rfl⟩ := List.getElem_of_mem hy
    exact (slE intE).len (hR i hi (by omega))
  have hfl : xs.flatten.length = xs.length * 1 := flatten_len hln
  exact ⟨⟨_, (ho.cellAt j (by show j < l.length * 1; omega)).trans (List.getElem?_eq_getElem (by rw [hfl]; omega))⟩, ho.frozenAt j⟩
theorem makeTs {W : World} (n : Nat) (hn : n ≤ 1000) : (Instr.makeSlice 56 (.int .i64 (n : Int)) (.int .i64 (n : Int))).run Tryz.prog W = .ok (.slice (some ⟨W.heap.size, 0, none⟩) n n) (W.alloc (.cells (Array.replicate n (Value.slice none 0 0)) 28)) := by
  obtain ⟨i, hi, hz0, hz1, hz2⟩ := info_parts infoTerm
  have := run_make (P := Tryz.prog) W 56 28 i (.slice none 0 0) Tryz.underlying56 hi hz0 .i64 .i64 n n (by omega) (by omega) (by rw [hz2]; omega) (by omega)
  rw [this, hz1, Int.toNat_natCast, Nat.mul_one]
  have hm : madeCells (Value.slice none 0 0).cells n = Array.replicate n (Value.slice none 0 0) := by
    apply Array.ext
    · simp [madeCells]
    · intro i h1 h2; simp [madeCells, Value.cells, Nat.mod_one]
  rw [hm]
theorem OwnTs.madeT (St : Nat → Prop) (w : World) (n : Nat) (hn : n ≤ 1000) : OwnL (slE intE) St (w.alloc (.cells (Array.replicate n (Value.slice none 0 0)) 28)) w.heap.size 28 (.slice (some ⟨w.heap.size, 0, none⟩) n n) (List.replicate n []) := by
  refine ⟨List.replicate n [.slice none 0 0], ⟨?_, .inr ⟨w.heap.size, n, _, ?_, Nat.le_refl _, heap_alloc_new w _, ?_, ?_, ?_, ?_⟩⟩, by simp, fun i h1 h2 => ?_⟩
  · simp [slE]
  · rw [List.length_replicate]
  · rw [List.length_replicate]; exact Nat.le_refl _
  · have : (1000 : Nat) < maxLen := by decide
    omega
  · simp [slE]
  · simp [slE]
  · rw [List.getElem_replicate, List.getElem_replicate]
    exact ⟨none, 0, rfl, Sl.empty⟩
/-- the first k arguments put where they belong -/
def setK (L : List Int) (B : List (List Int)) (n : Nat) : Nat → List (List Int)
  | 0 => List.replicate n []
  | k + 1 => (setK L B n k).set (L.getD k 0).toNat (B.getD k [])
theorem setK_len (L : List Int) (B : List (List Int)) (n : Nat) : ∀ k, (setK L B n k).length = n
  | 0 => by simp [setK]
  | k + 1 => by rw [setK, List.length_set, setK_len L B n k]
theorem setK_at {l : List Int} {B : List (List Int)} {n : Nat} (hn : l.Nodup) (hr : ∀ x ∈ l, 0 ≤ x ∧ x < n) : ∀ {k : Nat}, k ≤ l.length → ∀ i, i < k → (setK l B n k).getD (l.getD i 0).toNat [] = B.getD i []
  | 0, _, i, hi => by omega
  | k + 1, hk, i, hi => by
    rw [setK]
    have hki : k < l.length := by omega
    have hii : i < l.length := by omega
    have rk := hr _ (List.getElem_mem hki)
    have ri := hr _ (List.getElem_mem hii)
    rw [getD_at hki, getD_at hii]
    by_cases e : i = k
    · subst e
      rw [getD_set_eq (by rw [setK_len]; omega)]
    · have hne : l[k] ≠ l[i] := fun h => e ((List.getElem_inj hn).1 h.symm)
      rw [getD_set_ne (by omega)]
      have := setK_at (B := B) hn hr (k := k) (by omega) i (by omega)
      rwa [getD_at hii] at this
theorem setK_all {l : List Int} (h : l.Perm (ascL l.length)) (B : List (List Int)) : setK l B l.length l.length = (invA l l.length l.length).map (fun q => B.getD q.toNat []) := by
  have hn := h.nodup_iff.2 (ascL_nodup _)
  have hr : ∀ x ∈ l, 0 ≤ x ∧ x < l.length := fun _ hx => mem_ascL.1 (h.mem_iff.1 hx)
  apply List.ext_getElem
  · rw [setK_len, List.length_map, invA_len]
  · intro p h1 h2
    rw [setK_len] at h1
    obtain ⟨q, hq, e⟩ := ord_surj h h1
    have a1 := setK_at (B := B) hn hr (Nat.le_refl _) q hq
    have a2 := invA_perm h q hq
    rw [getD_at hq, e, Int.toNat_natCast, getD_at (by rw [setK_len]; exact h1)] at a1
    rw [getD_at hq, e, Int.toNat_natCast, getD_at (by rw [invA_len]; exact h1)] at a2
    rw [List.getElem_map, a1, a2, Int.toNat_natCast]
theorem fetI_of {d : Ways} {x : Int} {k : Nat} (hk : k < d.length) (h : d[k].1 = x) (hb : ∀ (j : Nat) (hj : j < d.length), j < k → d[j].1 ≠ x) : fetI d x = k := by
  have hk1 : k < (tosD d).length := by simpa [tosD] using hk
  have hx : (tosD d)[k] = x := by rw [tosD_get hk1]; exact h
  have h1 := idxOf_le_get hk1
  rw [hx] at h1
  by_cases e : fetI d x = k
  · exact e
  · have hlt : (tosD d).idxOf x < k := by unfold fetI at e; omega
    have hl : (tosD d).idxOf x < (tosD d).length := by omega
    have h3 : (tosD d)[(tosD d).idxOf x]'hl = x := List.getElem_idxOf hl
    rw [tosD_get hl] at h3
    exact (hb _ (by omega) hlt h3).elim
set_option maxHeartbeats 1000000 in
theorem FetF_any (T : Int) (v2 : Value) (x : Int) (bx : Nat) (w : World) (hq : w.cell? ⟨bx, 0, none⟩ = some (.int .i64 x)) :
    Calls Tryz.prog 58 #[.agg #[.int .i64 T, v2], .pointer (some ⟨bx, 0, none⟩)] w fun e w' => e = .returned (.bool (T == x)) ∧ Below w.heap.size w w' := by
  obtain ⟨W1, hW1⟩ : ∃ W1, w.alloc (.cells #[.int .i64 T, v2] 69) = W1 := ⟨_, rfl⟩
  have hb1 : Below w.heap.size w W1 := by rw [← hW1]; exact below1 _ _
  have p1 : W1.cell? ⟨w.heap.size, 0, none⟩ = some (.int .i64 T) := by rw [← hW1]; clear hW1; go_simp
  have q1 := cell_later hb1 hq
  have hbH := Lib.hid hb1
  clear hq hb1
  go_enter Tryz.func58, Tryz.ntmps58
  go_wp2_with fail
  go_ret
  exact ⟨rfl, hbH.out⟩
def iwRel (d : Ways) (x : Int) (w : World) (i : Value) (wr : World) : Prop := ∃ k : Nat, i = .int .i64 k ∧ k ≤ d.length ∧ (∀ (j : Nat) (hj : j < d.length), j < k → d[j].1 ≠ x) ∧ Below w.heap.size w wr
set_option maxHeartbeats 1000000 in
theorem IndexWy_any {S : Nat → Prop} (x : Int) (a : Option Addr) (c : Nat) (d : Ways) (bx : Nat) (w : World) (h : WaysL S w a c d) (hq : w.cell? ⟨bx, 0, none⟩ = some (.int .i64 x)) (hx : x ∈ tosD d) :
    Calls Tryz.prog 57 #[.slice a d.length c, .func (.func 58) #[] #[.pointer (some ⟨bx, 0, none⟩)]] w fun e w' => e = .returned (.int .i64 (fetI d x : Int)) ∧ Below w.heap.size w w' := by
  have m2 := h.le
  have hH := Lib.hid h
  have hqH := Lib.hid (fun (W : World) (hb : Below w.heap.size w W) => cell_later hb hq)
  have hxH := Lib.hid (fetI_at hx)
  clear hq h hx
  go_enter Tryz.func57, Tryz.ntmps57
  go_wp2_with fail
  go_loopw [8] (fun i wr => iwRel d x w i wr) (fun i _ => d.length - (intOf i).toNat)
  case atStart => exact ⟨0, rfl, Nat.zero_le _, fun j hj h => by omega, .refl _ _⟩
  case round =>
    obtain ⟨k, rfl, hk, hall, hB⟩ := hrel
    have hlt : k < d.length := by
      obtain ⟨x1, x2⟩ := hxH.out
      by_cases e : k < d.length
      · exact e
      · have := hall _ x1 (by omega)
        rw [getD_at x1] at x2
        exact (this x2).elim
    obtain ⟨bb, o, ak, ck, rfl, -, q0, q1, -, hI⟩ := (hH.out.below hB).way k hlt
    have hst : d[k].1 ≠ x → ∀ (j : Nat) (hj : j < d.length), j < k + 1 → d[j].1 ≠ x := fun h0 j hj hm => by
      by_cases e : j = k
      · subst e; exact h0
      · exact hall j hj (by omega)
    have hfd : d[k].1 = x → fetI d x = k := fun h0 => fetI_of hlt h0 hall
    have mI := hI.le
    obtain ⟨z, hz⟩ : ∃ z, d[k].1 = z := ⟨_, rfl⟩
    obtain ⟨L, hL⟩ : ∃ z, d[k].2 = z := ⟨_, rfl⟩
    rw [hz] at hst hfd q0
    rw [hL] at q1 mI
    have cf1 := FetF_any z (.slice ak L.length ck) x bx wr (hqH.out wr hB)
    have hBH := Lib.hid hB
    clear hB hall hz hL hI
    by_cases hzr : z = x
    · rw [show (z == x) = true by simpa using hzr] at cf1
      have cfH := Lib.hid cf1
      have hf := Lib.hid (hfd hzr)
      clear cf1 hst hfd hzr
      go_wp2_with (go_at_call 58; refine cfH.out.mono ?_; rintro e w1 ⟨rfl, hb1⟩)
      go_ret
      rw [hf.out]
      exact ⟨rfl, bcall hBH.out hb1⟩
    · rw [show (z == x) = false by simpa using hzr] at cf1
      have cfH := Lib.hid cf1
      have hf := Lib.hid (hst hzr)
      clear cf1 hst hfd hzr
      go_wp2_with (go_at_call 58; refine cfH.out.mono ?_; rintro e w1 ⟨rfl, hb1⟩)
      go_roundw
      case rel => exact ⟨k + 1, by go_num, by omega, hf.out, bcall hBH.out hb1⟩
      case measure => simp [intOf]; omega
/-- a symbol that is not in a list -/
def notIn (l : List Int) (n : Int) : Bool := decide (0 ≤ n) && !decide (n ∈ l)
set_option maxHeartbeats 1000000 in
theorem LacksF_any {S : Nat → Prop} (a : Option Addr) (c : Nat) (l : List Int) (n : Int) (bx : Nat) (w : World) (h : Ints S w a c l) (hq : w.cell? ⟨bx, 0, none⟩ = some (.slice a l.length c)) :
    Calls Tryz.prog 64 #[.int .i64 n, .pointer (some ⟨bx, 0, none⟩)] w fun e w' => e = .returned (.bool (notIn l n)) ∧ Below w.heap.size w w' := by
  have m := h.le
  have cc := Contains_any a c l n w h
  unfold notIn
  obtain ⟨z, hz⟩ : ∃ z, decide (n ∈ l) = z := ⟨_, rfl⟩
  rw [hz] at cc ⊢
  have ccH := Lib.hid cc
  clear cc h hz
  by_cases h0 : 0 ≤ n
  · rw [decide_eq_true h0]
    go_enter Tryz.func64, Tryz.ntmps64
    go_wp2_with fail
    refine ccH.out.mono ?_
    rintro e w1 ⟨rfl, rfl⟩
    go_wp2_with fail
    go_ret
    exact ⟨by simp, .refl _ _⟩
  · rw [decide_eq_false h0]
    have h1 : n < 0 := by omega
    go_enter Tryz.func64, Tryz.ntmps64
    go_wp2_with fail
    go_ret
    exact ⟨by simp, .refl _ _⟩
def ilRel (t l : List Int) (w : World) (i : Value) (wr : World) : Prop := ∃ k : Nat, i = .int .i64 k ∧ k ≤ t.length ∧ (t.take k).any (notIn l) = false ∧ Below w.heap.size w wr
def ixPost (b : Bool) (w : World) (e : Ending) (w' : World) : Prop := ∃ n : Int, e = .returned (.int .i64 n) ∧ decide (0 ≤ n) = b ∧ Below w.heap.size w w'
set_option maxHeartbeats 1000000 in
theorem IndexLk_any {S S2 : Nat → Prop} (a a2 : Option Addr) (c c2 : Nat) (l t : List Int) (bx : Nat) (w : World) (h : Ints S w a c l) (h2 : Ints S2 w a2 c2 t) (hq : w.cell? ⟨bx, 0, none⟩ = some (.slice a l.length c)) :
    Calls Tryz.prog 104 #[.slice a2 t.length c2, .func (.func 64) #[] #[.pointer (some ⟨bx, 0, none⟩)]] w (ixPost (t.any (notIn l)) w) := by
  have m2 := h2.le
  have hH := Lib.hid h
  have h2H := Lib.hid h2
  have hqH := Lib.hid (fun (W : World) (hb : Below w.heap.size w W) => cell_later hb hq)
  clear hq h h2
  go_enter Tryz.func104, Tryz.ntmps104
  go_wp2_with fail
  go_loopw [8] (fun i wr => ilRel t l w i wr) (fun i _ => t.length - (intOf i).toNat)
  case atStart => exact ⟨0, rfl, Nat.zero_le _, by simp, .refl _ _⟩
  case round =>
    obtain ⟨k, rfl, hk, hall, hB⟩ := hrel
    by_cases hlt : k < t.length
    · obtain ⟨bb, o, rfl, -, q0, -⟩ := (h2H.out.below hB).int k hlt
      have hst : notIn l t[k] = false → (t.take (k + 1)).any (notIn l) = false := fun h0 => by
        rw [List.take_succ_eq_append_getElem hlt, List.any_append, hall]
        simpa using h0
      have hfd : notIn l t[k] = true → t.any (notIn l) = true := fun h0 => by
        rw [List.any_eq_true]; exact ⟨_, List.getElem_mem hlt, h0⟩
      obtain ⟨z, hz⟩ : ∃ z, t[k] = z := ⟨_, rfl⟩
      rw [hz] at hst hfd q0
      have cf1 := LacksF_any a c l z bx wr (hH.out.below hB) (hqH.out wr hB)
      have hBH := Lib.hid hB
      clear hB hall hz
      cases hzr : notIn l z with
      | true =>
        rw [hzr] at cf1
        have cfH := Lib.hid cf1
        have hf := Lib.hid (hfd hzr)
        clear cf1 hst hfd hzr
        go_wp2_with (go_at_call 64; refine cfH.out.mono ?_; rintro e w1 ⟨rfl, hb1⟩)
        go_ret
        exact ⟨_, rfl, by rw [hf.out]; simp, bcall hBH.out hb1⟩
      | false =>
        rw [hzr] at cf1
        have cfH := Lib.hid cf1
        have hf := Lib.hid (hst hzr)
        clear cf1 hst hfd hzr
        go_wp2_with (go_at_call 64; refine cfH.out.mono ?_; rintro e w1 ⟨rfl, hb1⟩)
        go_roundw
        case rel => exact ⟨k + 1, by go_num, by omega, hf.out, bcall hBH.out hb1⟩
        case measure => simp [intOf]; omega
    · rw [List.take_of_length_le (by omega)] at hall
      have hfH := Lib.hid hall
      have hBH := Lib.hid hB
      clear hall hB
      go_wp2_with fail
      go_ret
      exact ⟨_, rfl, by rw [hfH.out]; simp, hBH.out⟩
theorem ContLk_any {S S2 : Nat → Prop} (a a2 : Option Addr) (c c2 : Nat) (l t : List Int) (bx : Nat) (w : World) (h : Ints S w a c l) (h2 : Ints S2 w a2 c2 t) (hq : w.cell? ⟨bx, 0, none⟩ = some (.slice a l.length c)) :
    Calls Tryz.prog 63 #[.slice a2 t.length c2, .func (.func 64) #[] #[.pointer (some ⟨bx, 0, none⟩)]] w fun e w' => e = .returned (.bool (t.any (notIn l))) ∧ Below w.heap.size w w' := by
  have ci := Lib.hid (IndexLk_any a a2 c c2 l t bx w h h2 hq)
  clear h h2 hq
  go_enter Tryz.func63, Tryz.ntmps63
  go_wp2_with (go_at_call 104; refine ci.out.mono ?_; rintro e w' ⟨n, rfl, hn, hb⟩; have hnH := Lib.hid hn; clear hn)
  go_ret
  exact ⟨ret_bool hnH.out, hb⟩
end Go.Proofs.YtnhaoalcpbefoaaGreatDoor

/- Walks: the closure of tongue.Fetched. -/
namespace Go.Proofs.YtnhaoalcpbefoaaGreatDoor
open Go Go.RowKit Go.Maps

abbrev fxV (bt ba bd bs bw : Nat) : Value := .func (.func 56) #[] #[.pointer (some ⟨bt, 0, none⟩), .pointer (some ⟨ba, 0, none⟩), .pointer (some ⟨bd, 0, none⟩), .pointer (some ⟨bs, 0, none⟩), .pointer (some ⟨bw, 0, none⟩)]
/-- the boxes of a call of Fetched -/
structure GBox (wI : World) (bt ba bd bs bw : Nat) (a1 a2 a3 : Option Addr) (c1 c2 c3 : Nat) (s : Sg) (t : List Int) (d : Ways) : Prop where
  ct : wI.cell? ⟨bt, 0, none⟩ = some (.slice a2 t.length c2)
  cs : wI.cell? ⟨bs, 0, none⟩ = some (.slice a1 s.length c1)
  cw : wI.cell? ⟨bw, 0, none⟩ = some (fxV bt ba bd bs bw)
  cd : wI.cell? ⟨bd, 0, none⟩ = some (.slice a3 d.length c3)
  nt : bt ≠ ba
  ns : bs ≠ ba
  nw : bw ≠ ba
  nd : bd ≠ ba
  sg : Sign (fun b => b ≠ ba) wI a1 c1 s
  tm : Ints (fun b => b ≠ ba) wI a2 c2 t
  wy : WaysL (fun b => b ≠ ba) wI a3 c3 d
def fxRet (W : World) (ba p : Nat) (b : Sg) (d : Ways) (u : List Int) (e : Ending) (w' : World) : Prop := ∃ v, e = .returned v ∧ OwnI w' W.heap.size v (carT b (fetD d b.length) u) ∧ W.grownBy w' (some ba) ∧ AtBox w' ba (p + u.length)
def FxAt (wI : World) (bt ba bd bs bw : Nat) (b : Sg) (d : Ways) (p : Nat) (u : List Int) : Prop :=
  ∀ W, wI.grownBy W (some ba) → AtBox W ba p → Calls Tryz.prog 56 #[.pointer (some ⟨bt, 0, none⟩), .pointer (some ⟨ba, 0, none⟩), .pointer (some ⟨bd, 0, none⟩), .pointer (some ⟨bs, 0, none⟩), .pointer (some ⟨bw, 0, none⟩)] W (fxRet W ba p b d u)
set_option maxRecDepth 20000 in
set_option maxHeartbeats 2000000 in
/-- a variable is fetched -/
theorem fx_var {wI : World} {bt ba bd bs bw : Nat} {a1 a2 a3 : Option Addr} {c1 c2 c3 : Nat} {s b : Sg} {t : List Int} {d : Ways} (hb : GBox wI bt ba bd bs bw a1 a2 a3 c1 c2 c3 s t d) (hl : t.length ≤ 60) {p : Nat} (hp : p < t.length) (hn : t[p] < 0) :
    FxAt wI bt ba bd bs bw b d p [t[p]] := by
  intro W hg hA
  have hAg : Agree (fun b => b ≠ ba) wI W := .of_grown hg (fun b hb e => hb (by cases e; rfl))
  obtain ⟨b2, o2, rfl, hb2, q2, r2⟩ := (hb.tm.same hAg).int p hp
  have qt := gby_cell hg hb.ct hb.nt
  have qa := hA.cell
  have fa := hA.frozen
  obtain ⟨x, hx⟩ : ∃ x, t[p] = x := ⟨_, rfl⟩
  rw [hx] at q2 hn r2 ⊢
  have hcar : carT b (fetD d b.length) [x] = [x] := carT_neg hn
  have hw0 : IntKind.i64.wrap ((p : Int) + 1) = (p : Int) + 1 := by rw [IntWalk.i64_in _ (by omega)]
  have e1 : ((p + 1 : Nat) : Int) = (p : Int) + 1 := by omega
  have hdv : decide (x < 0) = true := by simpa using hn
  have m2 := hb.tm.le
  have hban : ba < W.heap.size := hA.lt
  have hsz : (W.setCell ⟨ba, 0, none⟩ (.int .i64 ((p : Int) + 1))).heap.size = W.heap.size := by simp [World.setCell]
  obtain ⟨W2, hW2⟩ : ∃ W2, (W.setCell ⟨ba, 0, none⟩ (.int .i64 ((p : Int) + 1))).alloc (.cells #[.int .i64 x] 3) = W2 := ⟨_, rfl⟩
  have hA2 : AtBox W2 ba (p + 1) := by
    have h0 := (hA.set (p + 1)).below (below1 _ (.cells #[.int .i64 x] 3))
    rw [e1] at h0
    rw [← hW2]
    exact h0
  have hg2 : W.grownBy W2 (some ba) := by rw [← hW2]; exact gby_trans' (gby_setAt _ _ _) (gby_below' (below1 _ _))
  have qn : W2.cell? ⟨W.heap.size, 0, none⟩ = some (.int .i64 x) := by
    have h0 : ((W.setCell ⟨ba, 0, none⟩ (.int .i64 ((p : Int) + 1))).alloc (.cells #[.int .i64 x] 3)).cell? ⟨(W.setCell ⟨ba, 0, none⟩ (.int .i64 ((p : Int) + 1))).heap.size, 0, none⟩ = some (.int .i64 x) := by clear hA2 hg2 hW2; go_simp
    rw [hsz] at h0
    rw [← hW2]
    exact h0
  have hlit : OwnI (W2.alloc (.cells #[.int .i64 x] 3)) W2.heap.size (.slice (some ⟨W2.heap.size, 0, none⟩) 1 1) [x] := OwnL.lit W2 [x] 3 (by intro y hy; rw [List.mem_singleton] at hy; rw [hy]; exact r2) (by show 1 ≤ maxLen; decide)
  have hA3 : AtBox (W2.alloc (.cells #[.int .i64 x] 3)) ba (p + 1) := hA2.below (below1 _ _)
  have hg3 : W.grownBy (W2.alloc (.cells #[.int .i64 x] 3)) (some ba) := gby_trans' hg2 (gby_below' (below1 _ _))
  have hA3H := Lib.hid hA3
  have hg3H := Lib.hid hg3
  have hW2H := Lib.hid hW2
  have hlH := Lib.hid (OwnL.baseMono hlit hg2.size)
  have hcH := Lib.hid hcar
  clear hb hg hA hAg hn hA2 hg2 hW2 hx e1 hA3 hg3 hlit hcar hsz
  go_enter Tryz.func56, Tryz.ntmps56
  go_upto_region 3 with fail
  rw [hW2H.out]
  clear qt qa fa q2 hb2
  go_wp2_with fail
  go_ret
  exact ⟨_, rfl, by rw [hcH.out]; exact hlH.out, hg3H.out, hA3H.out⟩
def fxRel (b : Sg) (F : List Int → List Int) (L : List Int) (t : List Int) (p m ba g : Nat) (W3 : World) (i : Value) (wr : World) : Prop :=
  ∃ (j p' : Nat), i = .int .i64 j ∧ j ≤ m ∧ skip b j (t.drop (p + 1)) = some (t.drop p') ∧ p + 1 ≤ p' ∧ p' ≤ t.length ∧ OwnL (slE intE) (fun b => b ≠ ba) wr W3.heap.size 28 (.slice (some ⟨g, 0, none⟩) m m) (setK L ((splitK b m (t.drop (p + 1))).map F) m j) ∧ W3.grownBy wr (some ba) ∧ AtBox wr ba p'
set_option maxRecDepth 20000 in
set_option maxHeartbeats 8000000 in
/-- a symbol is fetched -/
theorem fx_node {wI : World} {bt ba bd bs bw : Nat} {a1 a2 a3 : Option Addr} {c1 c2 c3 : Nat} {s b : Sg} {t : List Int} {d : Ways} (hb : GBox wI bt ba bd bs bw a1 a2 a3 c1 c2 c3 s t d) (hv : validD s b d = true) (hl : t.length ≤ 60) (hlk : lackB d t = false)
    {p : Nat} {r : List Int} (hsk : skip b 1 (t.drop p) = some r) (hp : p < t.length) (hn : ¬ t[p] < 0)
    (hrec : ∀ p' r', p < p' → skip b 1 (t.drop p') = some r' → FxAt wI bt ba bd bs bw b d p' (partAt b (t.drop p'))) : FxAt wI bt ba bd bs bw b d p (partAt b (t.drop p)) := by
  intro W hg hA
  obtain ⟨hokS, hok, hdl, -⟩ := validD_parts hv
  have hAg : Agree (fun b => b ≠ ba) wI W := .of_grown hg (fun b hb e => hb (by cases e; rfl))
  obtain ⟨b2, o2, rfl, hb2, q2, r2⟩ := (hb.tm.same hAg).int p hp
  obtain ⟨hp', hc, hss⟩ := skip_drop (k := 0) hsk
  rw [Nat.zero_add] at hss
  obtain ⟨g1, -, -, -⟩ := part_args hsk
  rw [List.getD_eq_getElem?_getD, List.getElem?_eq_getElem hp, Option.getD_some] at g1
  obtain ⟨pr1, pr2, pr3⟩ := part_rest hsk (by omega)
  have hpe := partAt_eq hsk
  obtain ⟨u, hu⟩ : ∃ u, partAt b (t.drop p) = u := ⟨_, rfl⟩
  rw [hu] at g1 pr1 pr2 pr3 hpe ⊢
  have huok : okT b u = true := okT_of_skip hok hpe.2.1 (by omega)
  have hulk : lackB d u = false := lack_sub hlk (fun y hy => List.mem_of_mem_drop (by rw [hpe.1]; exact List.mem_append_left _ hy))
  have hhead : u.headD 0 = t[p] := by
    have h1 := hpe.1
    rw [List.drop_eq_getElem_cons hp] at h1
    cases hu2 : u with
    | nil => rw [hu2] at pr3; simp at pr3
    | cons y z => rw [hu2, List.cons_append] at h1; rw [List.headD_cons]; exact (List.cons.inj h1).1.symm
  have htm : t[p] ∈ tosD d := lack_mem hlk (List.getElem_mem hp) (by omega)
  obtain ⟨x, hx⟩ : ∃ x, t[p] = x := ⟨_, rfl⟩
  rw [hx] at q2 hn hc hss g1 hhead htm r2
  obtain ⟨m, hm⟩ : ∃ m, ar b x = m := ⟨_, rfl⟩
  rw [hm] at hss g1
  have hspl : (splitK b m (t.drop (p + 1))).length = m := by
    obtain ⟨f1, -, -⟩ := argsT_spec huok
    rw [g1] at f1; rw [f1, hhead, hm]
  obtain ⟨htx, hin, -, hLm, har, hLp⟩ := fet_node hv huok (by rw [hhead]; omega) (by rw [hhead]; exact htm) g1 rfl rfl
  rw [hspl] at hLm
  rw [hhead] at htx hin hLm har hLp
  obtain ⟨n, hnI⟩ : ∃ n, fetI d x = n := ⟨_, rfl⟩
  rw [hnI] at htx hin hLm har hLp
  have hnd : n < d.length := by omega
  have hdn : d.getD n (0, []) = d[n] := getD_at hnd
  rw [hdn] at htx hLm har hLp
  have hlen60 : ∀ y ∈ splitK b m (t.drop (p + 1)), (carT b (fetD d b.length) y).length = y.length := fun y hy => by
    obtain ⟨f1, f2, f3⟩ := argsT_spec huok
    rw [g1] at f1 f2 f3
    exact (fet_ok hv y.length (f3 y hy) (lack_sub hulk (fun z hz => by rw [f2]; exact List.mem_cons_of_mem _ (List.mem_flatten.2 ⟨y, hy, hz⟩))) (Nat.le_refl _)).2.2
  have hfin := (fet_ok hv u.length huok hulk (Nat.le_refl _)).2.2
  obtain ⟨F, hF⟩ : ∃ F, carT b (fetD d b.length) = F := ⟨_, rfl⟩
  have hFx : ∀ W ba p u e w', fxRet W ba p b d u e w' ↔ ∃ v, e = .returned v ∧ OwnI w' W.heap.size v (F u) ∧ W.grownBy w' (some ba) ∧ AtBox w' ba (p + u.length) := fun W ba p u e w' => by rw [← hF]; exact Iff.rfl
  rw [hF] at htx hlen60 hfin
  have hsk := hLp
  have hset := setK_all hLp ((splitK b m (t.drop (p + 1))).map F)
  have hLr : ∀ k ∈ d[n].2, 0 ≤ k ∧ k < m := fun k hk => by
    have := mem_ascL.1 (hLp.mem_iff.1 hk)
    omega
  rw [hLm] at hset
  rw [hLm] at htx
  rw [← hset] at htx
  have hm3 : m ≤ 3 := by
    obtain ⟨e1, e2⟩ := ar_at hok (n := x) (by omega) (by simp [codeOk] at hc; omega)
    have := (arC_ok hok hc).2
    omega
  have har2 : s[n].2 = (m : Int) := by
    have : arAt s (n : Int) = s[n].2 := by unfold arAt; rw [Int.toNat_natCast, List.getD_eq_getElem?_getD, List.getElem?_eq_getElem hin]; rfl
    rw [← this, ← har, hLm]
  have qt := gby_cell hg hb.ct hb.nt
  have qa := hA.cell
  have fa := hA.frozen
  have m2 := hb.tm.le
  have hw0 : IntKind.i64.wrap ((p : Int) + 1) = (p : Int) + 1 := by rw [IntWalk.i64_in _ (by omega)]
  have e1 : ((p + 1 : Nat) : Int) = (p : Int) + 1 := by omega
  have hdv : decide (x < 0) = false := by simpa using hn
  have hban : ba < W.heap.size := hA.lt
  have hsz : (W.setCell ⟨ba, 0, none⟩ (.int .i64 ((p : Int) + 1))).heap.size = W.heap.size := by simp [World.setCell]
  obtain ⟨W2, hW2⟩ : ∃ W2, (W.setCell ⟨ba, 0, none⟩ (.int .i64 ((p : Int) + 1))).alloc (.cells #[.int .i64 x] 3) = W2 := ⟨_, rfl⟩
  have hA2 : AtBox W2 ba (p + 1) := by
    have h0 := (hA.set (p + 1)).below (below1 _ (.cells #[.int .i64 x] 3))
    rw [e1] at h0
    rw [← hW2]
    exact h0
  have hg2 : W.grownBy W2 (some ba) := by rw [← hW2]; exact gby_trans' (gby_setAt _ _ _) (gby_below' (below1 _ _))
  have qn : W2.cell? ⟨W.heap.size, 0, none⟩ = some (.int .i64 x) := by
    have h0 : ((W.setCell ⟨ba, 0, none⟩ (.int .i64 ((p : Int) + 1))).alloc (.cells #[.int .i64 x] 3)).cell? ⟨(W.setCell ⟨ba, 0, none⟩ (.int .i64 ((p : Int) + 1))).heap.size, 0, none⟩ = some (.int .i64 x) := by clear hA2 hg2 hW2; go_simp
    rw [hsz] at h0
    rw [← hW2]
    exact h0
  have hI2 := gby_trans' hg hg2
  have hAg2 : Agree (fun b => b ≠ ba) wI W2 := .of_grown hI2 (fun b hb e => hb (by cases e; rfl))
  have qd2 := gby_cell hI2 hb.cd hb.nd
  have ci0 := IndexWy_any x a3 c3 d W.heap.size W2 (hb.wy.same hAg2) qn htm
  rw [hnI] at ci0
  obtain ⟨bS, oS, hs1, hbS, -, r1, -⟩ := (hb.sg).sym n hin
  rw [har2] at r1
  obtain ⟨bD, oD, aL, cL, hd1, hbD, t0, t1, rT, hL⟩ := hb.wy.way n hnd
  obtain ⟨y, hy⟩ : ∃ y, d[n] = y := ⟨_, rfl⟩
  rw [hy] at t0 t1 rT hL htx hLr hLm hset
  obtain ⟨T, L⟩ := y
  dsimp only at t0 t1 rT hL htx hLr hLm hset
  have hcx : ∀ w', wI.grownBy w' (some ba) → w'.cell? ⟨bs, 0, none⟩ = some (.slice (some ⟨bS, oS, none⟩) s.length c1) ∧ w'.cell? ⟨bS, oS + n * 2 + 1, none⟩ = some (.int .i64 (m : Int)) ∧ w'.cell? ⟨bd, 0, none⟩ = some (.slice (some ⟨bD, oD, none⟩) d.length c3) ∧ w'.cell? ⟨bw, 0, none⟩ = some (fxV bt ba bd bs bw) ∧ w'.cell? ⟨bD, oD + n * 2 + 1, none⟩ = some (.slice aL m cL) ∧ Ints (fun b => b ≠ ba) w' aL cL L := fun w' h =>
    ⟨by rw [← hs1]; exact gby_cell h hb.cs hb.ns, gby_cell h r1 hbS, by rw [← hd1]; exact gby_cell h hb.cd hb.nd, gby_cell h hb.cw hb.nw, by rw [← hLm]; exact gby_cell h t1 hbD, hL.same (.of_grown h (fun b hb e => hb (by cases e; rfl)))⟩
  have ci : Calls _ _ _ _ fun e w' => e = .returned (.int .i64 (n : Int)) ∧ Below W2.heap.size W2 w' := ci0
  have hcxH := Lib.hid hcx
  have hI2H := Lib.hid hI2
  have hg2H := Lib.hid hg2
  have hA2H := Lib.hid hA2
  have hW2H := Lib.hid hW2
  have hrecH := Lib.hid hrec
  have hssH := Lib.hid hss
  have h60H := Lib.hid hlen60
  have hsplH := Lib.hid hspl
  have htxH := Lib.hid htx
  have prH := Lib.hid pr1
  have hLrH := Lib.hid hLr
  have hLmH := Lib.hid hLm
  have hFH := Lib.hid hFx
  have hFFH := Lib.hid hF
  have hfinH := Lib.hid hfin
  have ciH := Lib.hid ci
  have m3 := hb.sg.le
  have m4 := hL.le
  have m5 := hb.wy.le
  have mkT := fun W => makeTs (W := W) m (by omega)
  have hrx : n ≤ 12 := by have := okSign_len hokS; omega
  clear hb hg hA hAg hc hrec hss g1 hpe huok hhead hx hm htx hlen60 hspl har har2 hA2 hg2 hI2 hAg2 hcx hW2 hu pr1 hsk e1 hp' hv hLr hLm hdn t0 t1 hL hy hok hokS hdl hset hLp htm hlk hulk hnI hs1 hd1 r1 hFx hF hfin ci0 ci hsz hbS hbD rT
  go_enter Tryz.func56, Tryz.ntmps56
  go_upto_region 3 with fail
  rw [hW2H.out]
  clear qt qa fa q2 hb2
  go_wp2_with fail
  refine ciH.out.mono ?_
  rintro e W3 ⟨rfl, hb3⟩
  have hg3 := gby_trans' hg2H.out (gby_below' (row := some ba) hb3)
  have hI3 := gby_trans' hI2H.out (gby_below' (row := some ba) hb3)
  have hA3 := hA2H.out.below hb3
  obtain ⟨z1, z2, z3, z4, z5, -⟩ := hcxH.out W3 hI3
  obtain ⟨W4, hW4⟩ : ∃ W4, W3.alloc (.cells (Array.replicate m (Value.slice none 0 0)) 28) = W4 := ⟨_, rfl⟩
  have hb4 : Below W3.heap.size W3 W4 := by rw [← hW4]; exact below1 _ _
  have ho4 : OwnL (slE intE) (fun b => b ≠ ba) W4 W3.heap.size 28 (.slice (some ⟨W3.heap.size, 0, none⟩) m m) (setK L ((splitK b m (t.drop (p + 1))).map F) m 0) := by rw [← hW4]; exact OwnTs.madeT _ W3 m (by omega)
  have hA4 := hA3.below hb4
  have y3 := cell_later hb4 z3
  have y5 := cell_later hb4 z5
  have hg3H := Lib.hid hg3
  have hI3H := Lib.hid hI3
  have hb4H := Lib.hid hb4
  have ho4H := Lib.hid ho4
  have hA4H := Lib.hid hA4
  have hgz : ba < W3.heap.size := hA3.lt
  clear hb3 hg3 hI3 hA3 hb4 ho4 hA4 hg2H hI2H hA2H hW2H ciH qn qd2
  go_wp2_with fail
  clear mkT hW4 z1 z2 z3 z4 z5 y3 y5
  go_loopw [36] (fun i wr => fxRel b F L t p m ba W3.heap.size W3 i wr) (fun i _ => m - (intOf i).toNat)
  case atStart => exact ⟨0, p + 1, rfl, Nat.zero_le _, skip_zero _ _, Nat.le_refl _, hp, ho4H.out, gby_below' hb4H.out, hA4H.out⟩
  case round =>
    obtain ⟨j, p', rfl, hj, hs, hp1, hp2, ho, hg, hAt⟩ := hrel
    have hIr := gby_trans' hI3H.out hg
    have hol := OwnL.lt ho
    obtain ⟨x1, x2, x3, x4, x5, hL⟩ := hcxH.out wr hIr
    by_cases hjm : j < m
    · obtain ⟨l2, n1, n2⟩ := skip_stepK hs hssH.out hjm
      have hcall := hrecH.out p' l2 (by omega) n1
      obtain ⟨y1, y2, y3⟩ := part_rest n1 hp2
      rw [y1] at n2
      have hel := splitK_get hs hjm
      obtain ⟨v, hv⟩ : ∃ v, partAt b (t.drop p') = v := ⟨_, rfl⟩
      rw [hv] at hcall y2 y3 n2 hel
      have hjL : j < L.length := by have := hLmH.out; omega
      obtain ⟨bL, oL, haL, -, w1, -⟩ := hL.int j hjL
      obtain ⟨g0, g1⟩ := hLrH.out _ (List.getElem_mem hjL)
      have hBl : ((splitK b m (t.drop (p + 1))).map F).getD j [] = F v := by
        rw [List.getD_eq_getElem?_getD, List.getElem?_map, hel]; rfl
      have hsu : setK L ((splitK b m (t.drop (p + 1))).map F) m (j + 1) = (setK L ((splitK b m (t.drop (p + 1))).map F) m j).set (L[j]).toNat (F v) := by
        rw [setK, hBl, getD_at hjL]
      obtain ⟨k0, hk0⟩ : ∃ z, L[j] = z := ⟨_, rfl⟩
      rw [hk0] at w1 g0 g1 hsu
      obtain ⟨k, rfl⟩ : ∃ k : Nat, k0 = (k : Int) := ⟨k0.toNat, by omega⟩
      rw [Int.toNat_natCast] at hsu
      have hkm : k < m := by omega
      subst haL
      have hc0 : Calls _ _ _ _ (fxRet wr ba p' b d v) := hcall wr hIr hAt
      obtain ⟨X, hX⟩ : ∃ X, F v = X := ⟨_, rfl⟩
      rw [hX] at hsu
      have hpush : ∀ w1 aX cX, Ints (fun b => wr.heap.size ≤ b) w1 aX cX X → wr.grownBy w1 (some ba) → AtBox w1 ba (p' + v.length) → (∃ v0, w1.cell? ⟨W3.heap.size, k, none⟩ = some v0) ∧ w1.frozen? ⟨W3.heap.size, k, none⟩ = false ∧ RowKit.Hid (fxRel b F L t p m ba W3.heap.size W3 (.int .i64 ((j + 1 : Nat) : Int)) (w1.setCell ⟨W3.heap.size, k, none⟩ (.slice aX X.length cX))) := fun w1 aX cX hI h1 h2 => by
        have ho1 : OwnL (slE intE) (fun b => b ≠ ba) w1 W3.heap.size 28 _ _ := OwnL.grown ho h1 (fun k hk e => by
          injection e with e
          have := (hol k hk).1
          omega) (fun b hb _ e => hb (by injection e with e; exact e.symm))
        have hlw := OwnL.lt ho W3.heap.size rfl
        have hba' : ba < wr.heap.size := hAt.lt
        obtain ⟨f1, f2⟩ := OwnTs.cellT ho1 (setK_len _ _ _ _).symm (j := k) (by rw [setK_len]; exact hkm)
        obtain ⟨f3, f4⟩ := OwnTs.setT ho1 (setK_len _ _ _ _).symm (j := k) (by rw [setK_len]; exact hkm) hI (fun b hb => ⟨fun e => by omega, fun e => by omega⟩)
        rw [← hsu] at f3
        refine ⟨f1, f2, Lib.hid ⟨j + 1, p' + v.length, rfl, hjm, n2, by omega, y2, f3, ?_, h2.kept f4 (fun e => by injection e with e; omega)⟩⟩
        exact gby_more (gby_trans' hg h1) f4 (fun i e => by injection e with e; omega)
      unfold fxRet at hc0
      rw [hFFH.out] at hc0
      rw [hX] at hc0
      have hc := Lib.hid hc0
      have hpushH := Lib.hid hpush
      clear hc0 hs ho hg hAt hIr hol n1 n2 hcall hel hpush hv hX hL hk0 hBl hsu
      go_wp2_with (go_at_call 56; (with_reducible refine hc.out.mono ?_); rintro e w1 ⟨vX, rfl, hoX, hg1, hA1⟩; obtain ⟨aX, cX, rfl, hIX⟩ := OwnI.ints hoX; obtain ⟨⟨v0, f1⟩, f2, hrel'⟩ := hpushH.out w1 aX cX hIX hg1 hA1; clear hoX hg1 hA1 hIX)
      go_roundw
      case rel => exact hrel'.out
      case measure => simp [intOf]; omega
    · have hjm' : j = m := by omega
      subst hjm'
      have hpp : p' = p + u.length := by
        have h1 := Option.some.inj (hs.symm.trans hssH.out)
        rw [prH.out] at h1
        have h2 := congrArg List.length h1
        rw [List.length_drop, List.length_drop] at h2
        omega
      have htx := htxH.out
      obtain ⟨M, hM⟩ : ∃ M, setK L ((splitK b j (t.drop (p + 1))).map F) j j = M := ⟨_, rfl⟩
      rw [hM] at ho htx
      have hMl : M.length = j := by rw [← hM, setK_len]
      obtain ⟨aM, cM, heM, hT⟩ := OwnL.sl ho
      rw [hMl] at heM
      injection heM with e1 e2 e3
      subst e1
      subst e3
      have hla := lit_append (w2 := wr) (n : Int) (by unfold inRange; omega) hT (.refl _ _) (by omega)
      rw [hMl] at hla
      obtain ⟨a9, c9, w9, hrunH, hT9, hB9⟩ := hla
      have hcat : Calls Tryz.prog 59 #[.slice a9 (j + 1) c9] w9 (retOwn w9 (F u)) := by
        have hfl : ([(n : Int)] :: M).flatten = F u := by rw [htx]; rfl
        have h60 : (F u).length ≤ 60 := by rw [hfinH.out]; omega
        have := Concat_any a9 c9 ([(n : Int)] :: M) w9 hT9.out (by rw [hfl]; unfold lim; omega)
        rw [hfl, List.length_cons, hMl] at this
        exact this
      rw [hpp] at hAt
      have hgH := Lib.hid (gby_trans' (gby_trans' hg3H.out hg) (gby_below' (row := some ba) hB9.out))
      have hszH := Lib.hid (gby_trans' (gby_trans' hg3H.out hg) (gby_below' (row := some ba) hB9.out)).size
      have hAtH := Lib.hid (hAt.below hB9.out)
      have hcatH := Lib.hid hcat
      clear hs ho hg hAt hIr hol hpp htx hM hT hcat hMl hL
      go_wp2_with (first | (at_builtin; refine wpList_append_run rfl (.tmp 48) (.tmp 49) _ rfl rfl rfl hrunH.out ?_) | (go_at_call 59; refine hcatH.out.mono ?_; rintro e w10 ⟨v10, rfl, ho10, hb10⟩; obtain ⟨a8, c8, hv8, -⟩ := OwnI.ints ho10; subst hv8; have ho10H := Lib.hid ho10; have hb10H := Lib.hid hb10; clear ho10 hb10))
      go_ret
      exact (hFH.out _ _ _ _ _ _).2 ⟨_, rfl, OwnL.baseMono ho10H.out hszH.out, gby_trans' hgH.out (gby_below' hb10H.out), hAtH.out.below hb10H.out⟩
theorem fx_any {wI : World} {bt ba bd bs bw : Nat} {a1 a2 a3 : Option Addr} {c1 c2 c3 : Nat} {s b : Sg} {t : List Int} {d : Ways} (hb : GBox wI bt ba bd bs bw a1 a2 a3 c1 c2 c3 s t d) (hv : validD s b d = true) (hl : t.length ≤ 60) (hlk : lackB d t = false) :
    ∀ (N p : Nat) (r : List Int), t.length - p ≤ N → skip b 1 (t.drop p) = some r → FxAt wI bt ba bd bs bw b d p (partAt b (t.drop p)) := by
  intro N
  induction N with
  | zero =>
    intro p r hN h
    obtain ⟨hp, -, -⟩ := skip_drop (k := 0) h
    omega
  | succ N ih =>
    intro p r hN h
    obtain ⟨hp, hc, -⟩ := skip_drop (k := 0) h
    by_cases hn : t[p] < 0
    · rw [part_neg h hp hn]
      exact fx_var hb hl hp hn
    · exact fx_node hb hv hl hlk h hp hn (fun p' r' h1 h2 => ih p' r' (by omega) h2)
end Go.Proofs.YtnhaoalcpbefoaaGreatDoor

/- Walks: tongue.Lacks, Fetched; the reference's Lacks. -/
namespace Go.Proofs.YtnhaoalcpbefoaaGreatDoor
open Go Go.RowKit Go.Maps

theorem lack_img {a b : Sg} {d : Ways} (hv : validD a b d = true) (t : List Int) : t.any (notIn (imgK d b.length)) = lackB d t := by
  have hw := (validD_parts hv).2.2.2.1
  unfold lackB
  congr 1
  funext n
  unfold notIn
  congr 2
  have : (n ∈ imgK d b.length) ↔ n ∈ tosD d := by
    rw [mem_imgK]
    exact ⟨fun h => h.2, fun h => ⟨tos_range hw n h, h⟩⟩
  rw [Bool.eq_iff_iff, decide_eq_true_eq, this]
  simp
set_option maxRecDepth 20000 in
set_option maxHeartbeats 1000000 in
theorem Lacks_any {S1 S2 S3 S4 : Nat → Prop} (a1 a2 a3 a4 : Option Addr) (c1 c2 c3 c4 : Nat) (a b : Sg) (d : Ways) (t : List Int) (w : World) (h1 : Sign S1 w a1 c1 a) (h2 : Sign S2 w a2 c2 b) (h3 : WaysL S3 w a3 c3 d) (h4 : Ints S4 w a4 c4 t) (hda : ∀ x ∈ d, x.2.length ≤ 1000) :
    Calls Tryz.prog 28 #[.slice a1 a.length c1, .slice a2 b.length c2, .slice a3 d.length c3, .slice a4 t.length c4] w fun e w' => e = .returned (.tuple #[.bool (lackE a b d t).1, .int .i64 (lackE a b d t).2]) ∧ Below w.heap.size w w' := by
  have m1 := h1.le
  have m2 := h2.le
  have m3 := h3.le
  have m4 := h4.le
  have v1 := Image_any a1 a2 a3 c1 c2 c3 a b d w h1 h2 h3 hda
  unfold lackE
  cases hx : validD a b d with
  | false =>
    have e1 : imgE a b d = ([], 1) := by unfold imgE; rw [hx]; rfl
    rw [e1] at v1
    have v1H := Lib.hid v1
    clear v1 h1 h2 h3 h4 hda hx e1
    go_enter Tryz.func28, Tryz.ntmps28
    go_wp2_with fail
    refine v1H.out.mono ?_
    rintro e w1 ⟨aL, cL, rfl, hL, hb1⟩
    have hB1 := Lib.hid (bcall hb1 (below1 w1 (.cells #[.slice aL ([] : List Int).length cL] 27)))
    clear hL
    go_wp2_with fail
    go_ret2
    exact ⟨rfl, hB1.out⟩
  | true =>
  have e1 : imgE a b d = (imgK d b.length, 0) := by unfold imgE; rw [hx]; rfl
  rw [e1] at v1
  have v2 := fun W (hb : Below w.heap.size w W) => Valid_any a2 a4 c2 c4 b t W (h2.below hb) (h4.below hb)
  have hli := lack_img hx t
  obtain ⟨l, hl⟩ : ∃ l, imgK d b.length = l := ⟨_, rfl⟩
  rw [hl] at v1 hli
  cases hy : okT b t with
  | false =>
    simp only [hy] at v2
    have v1H := Lib.hid v1
    have v2H := Lib.hid v2
    clear v1 v2 h1 h2 h3 h4 hda hx hy e1 hli hl
    go_enter Tryz.func28, Tryz.ntmps28
    go_wp2_with fail
    refine v1H.out.mono ?_
    rintro e w1 ⟨aL, cL, rfl, hL, hb1⟩
    have mL := hL.le
    obtain ⟨W1, hW1⟩ : ∃ W1, w1.alloc (.cells #[.slice aL l.length cL] 27) = W1 := ⟨_, rfl⟩
    have hB1 : Below w.heap.size w W1 := by rw [← hW1]; exact bcall hb1 (below1 w1 _)
    have c2' := Lib.hid (v2H.out _ hB1)
    have hB1H := Lib.hid hB1
    clear hL hb1 hB1
    go_wp2_with fail
    try rw [hW1]
    refine c2'.out.mono ?_
    rintro e w2 ⟨rfl, hb2⟩
    go_wp2_with fail
    go_ret2
    exact ⟨rfl, bcall hB1H.out hb2⟩
  | true =>
  simp only [hy] at v2
  rw [show (true && true) = true from rfl, if_pos rfl, ← hli]
  obtain ⟨z, hz⟩ : ∃ z, t.any (notIn l) = z := ⟨_, rfl⟩
  rw [hz]
  have v3 := fun W (hb : Below w.heap.size w W) aL cL (hL : Ints (fun _ => True) W aL cL l) bx (hq : W.cell? ⟨bx, 0, none⟩ = some (.slice aL l.length cL)) => ContLk_any aL a4 cL c4 l t bx W hL (h4.below hb) hq
  simp only [hz] at v3
  have v1H := Lib.hid v1
  have v2H := Lib.hid v2
  have v3H := Lib.hid v3
  clear v1 v2 v3 h1 h2 h3 h4 hda hx hy e1 hli hl hz
  go_enter Tryz.func28, Tryz.ntmps28
  go_wp2_with fail
  refine v1H.out.mono ?_
  rintro e w1 ⟨aL, cL, rfl, hL, hb1⟩
  have mL := hL.le
  obtain ⟨W1, hW1⟩ : ∃ W1, w1.alloc (.cells #[.slice aL l.length cL] 27) = W1 := ⟨_, rfl⟩
  have hbx : Below w1.heap.size w1 W1 := by rw [← hW1]; exact below1 w1 _
  have hB1 : Below w.heap.size w W1 := bcall hb1 hbx
  have q1 : W1.cell? ⟨w1.heap.size, 0, none⟩ = some (.slice aL l.length cL) := by rw [← hW1]; clear hW1; go_simp
  have hLH := Lib.hid (hL.below hbx)
  have c2' := Lib.hid (v2H.out _ hB1)
  have hB1H := Lib.hid hB1
  clear hL hb1 hB1 hbx
  go_wp2_with fail
  try rw [hW1]
  refine c2'.out.mono ?_
  rintro e w2 ⟨rfl, hb2⟩
  have hB2 := bcall hB1H.out hb2
  have c3' := Lib.hid (v3H.out _ hB2 aL cL (hLH.out.below hb2).any w1.heap.size (cell_later hb2 q1))
  have hB2H := Lib.hid hB2
  clear hb2 hB2 c2' hW1
  go_wp2_with fail
  refine c3'.out.mono ?_
  rintro e w3 ⟨rfl, hb3⟩
  go_wp2_with fail
  go_ret2
  exact ⟨rfl, bcall hB2H.out hb3⟩
set_option maxRecDepth 20000 in
set_option maxHeartbeats 2000000 in
theorem Fetched_any {S1 S2 S3 S4 : Nat → Prop} (a1 a2 a3 a4 : Option Addr) (c1 c2 c3 c4 : Nat) (a b : Sg) (d : Ways) (t : List Int) (w : World) (h1 : Sign S1 w a1 c1 a) (h2 : Sign S2 w a2 c2 b) (h3 : WaysL S3 w a3 c3 d) (h4 : Ints S4 w a4 c4 t) (hda : ∀ x ∈ d, x.2.length ≤ 1000) :
    Calls Tryz.prog 26 #[.slice a1 a.length c1, .slice a2 b.length c2, .slice a3 d.length c3, .slice a4 t.length c4] w (retIE (fetE a b d t) w) := by
  have m1 := h1.le
  have m2 := h2.le
  have m3 := h3.le
  have m4 := h4.le
  obtain ⟨W, hW⟩ : ∃ W, ((w.alloc (.cells #[.slice a1 a.length c1] 23)).alloc (.cells #[.slice a3 d.length c3] 24)).alloc (.cells #[.slice a4 t.length c4] 28) = W := ⟨_, rfl⟩
  have hB : Below w.heap.size w W := by rw [← hW]; exact below3 _ _ _ _
  have hz : W.heap.size = w.heap.size + 1 + 1 + 1 := by rw [← hW]; simp
  have cs : W.cell? ⟨w.heap.size, 0, none⟩ = some (.slice a1 a.length c1) := by rw [← hW]; clear hz hB hW; go_simp
  have cd : W.cell? ⟨w.heap.size + 1, 0, none⟩ = some (.slice a3 d.length c3) := by rw [← hW]; clear hz hB hW; go_simp
  have ct : W.cell? ⟨w.heap.size + 1 + 1, 0, none⟩ = some (.slice a4 t.length c4) := by rw [← hW]; clear hz hB hW; go_simp
  have v1 := Lacks_any a1 a2 a3 a4 c1 c2 c3 c4 a b d t W (h1.below hB) (h2.below hB) (h3.below hB) (h4.below hB) hda
  have hBH := Lib.hid hB
  have hWH := Lib.hid hW
  unfold fetE
  by_cases hv : (validD a b d && okT b t) = true
  case neg =>
    have e1 : lackE a b d t = (false, 1) := by unfold lackE; rw [if_neg hv]
    rw [if_neg hv]
    rw [e1] at v1
    have v1H := Lib.hid v1
    clear v1 h1 h2 h3 h4 hda hv e1 hz hB hW
    go_enter Tryz.func26, Tryz.ntmps26
    go_upto_region 1 with fail
    rw [hWH.out]
    go_wp2_with fail
    refine v1H.out.mono ?_
    rintro e w1 ⟨rfl, hb1⟩
    go_wp2_with fail
    go_ret2
    exact ⟨_, _, rfl, Sl.empty, bcall hBH.out hb1⟩
  case pos =>
  rw [if_pos hv]
  obtain ⟨hx, hy⟩ := Bool.and_eq_true_iff.1 hv
  have e1 : lackE a b d t = (lackB d t, 0) := by unfold lackE; rw [if_pos hv]
  rw [e1] at v1
  cases hlk : lackB d t with
  | true =>
    rw [hlk] at v1
    rw [if_pos rfl]
    have v1H := Lib.hid v1
    clear v1 h1 h2 h3 h4 hda hv e1 hz hB hW hx hy hlk
    go_enter Tryz.func26, Tryz.ntmps26
    go_upto_region 1 with fail
    rw [hWH.out]
    go_wp2_with fail
    refine v1H.out.mono ?_
    rintro e w1 ⟨rfl, hb1⟩
    go_wp2_with fail
    go_ret2
    exact ⟨_, _, rfl, Sl.empty, bcall hBH.out hb1⟩
  | false =>
  rw [hlk] at v1
  rw [if_neg (by decide)]
  obtain ⟨hs, -, hl, hsk⟩ := okT_parts hy
  have key : ∀ w4 W9, Below W.heap.size W w4 → (w4.alloc (.cells #[.int .i64 0] 3)).alloc (.cells #[fxV (w.heap.size + 1 + 1) w4.heap.size (w.heap.size + 1) w.heap.size (w4.heap.size + 1)] 74) = W9 →
      Below w4.heap.size w4 W9 ∧ W9.cell? ⟨w4.heap.size + 1, 0, none⟩ = some (fxV (w.heap.size + 1 + 1) w4.heap.size (w.heap.size + 1) w.heap.size (w4.heap.size + 1)) ∧ Calls Tryz.prog 56 #[.pointer (some ⟨w.heap.size + 1 + 1, 0, none⟩), .pointer (some ⟨w4.heap.size, 0, none⟩), .pointer (some ⟨w.heap.size + 1, 0, none⟩), .pointer (some ⟨w.heap.size, 0, none⟩), .pointer (some ⟨w4.heap.size + 1, 0, none⟩)] W9 (retOwn w (carT b (fetD d b.length) t)) := fun w4 W9 hb4 h9 => by
    have hs4 := hb4.size
    have hb9 : Below w4.heap.size w4 W9 := by rw [← h9]; exact below2 _ _ _
    have hbI : Below w.heap.size w W9 := bcall (bcall hB hb4) hb9
    have hA0 : AtBox W9 w4.heap.size 0 := by
      have h0 : AtBox (w4.alloc (.cells #[.int .i64 0] 3)) w4.heap.size 0 := heap_alloc_new w4 _
      rw [← h9]
      exact h0.below (below1 _ _)
    have cw : W9.cell? ⟨w4.heap.size + 1, 0, none⟩ = some (fxV (w.heap.size + 1 + 1) w4.heap.size (w.heap.size + 1) w.heap.size (w4.heap.size + 1)) := by
      have h0 := cell_new (w := w4.alloc (.cells #[.int .i64 0] 3)) [fxV (w.heap.size + 1 + 1) w4.heap.size (w.heap.size + 1) w.heap.size (w4.heap.size + 1)] 74 0 (by simp)
      rw [World.size_alloc] at h0
      rw [← h9]
      exact h0
    have hbox : GBox W9 (w.heap.size + 1 + 1) w4.heap.size (w.heap.size + 1) w.heap.size (w4.heap.size + 1) a1 a4 a3 c1 c4 c3 a t d :=
      ⟨cell_later hb9 (cell_later hb4 ct), cell_later hb9 (cell_later hb4 cs), cw, cell_later hb9 (cell_later hb4 cd), by omega, by omega, by omega, by omega, (h1.lt.below hbI).weak (fun b hb => by have := hb.2; omega), (h4.lt.below hbI).weak (fun b hb => by have := hb.2; omega), (h3.lt.below hbI).weak (fun b hb => by have := hb.2; omega)⟩
    have hc := fx_any hbox hx hl hlk t.length 0 [] (Nat.sub_le _ _) hsk W9 (gby_refl' _ _) hA0
    have hpt : partAt b (t.drop 0) = t := by
      rw [List.drop_zero]; unfold partAt; rw [hsk]; simp
    rw [hpt] at hc
    exact ⟨hb9, cw, hc.mono fun e w' ⟨v, h, ho, hg, _⟩ => ⟨v, h, OwnL.baseMono ho hbI.size, hbI.grown hg hbI.size (fun j e => by
      have := hB.size
      injection e with e; omega)⟩⟩
  obtain ⟨R, hR⟩ : ∃ R, carT b (fetD d b.length) t = R := ⟨_, rfl⟩
  simp only [hR] at key ⊢
  have v1H := Lib.hid v1
  have keyH := Lib.hid key
  clear v1 h1 h2 h3 h4 hda hv e1 hz hB hW hx hy hlk hs hsk key hR
  go_enter Tryz.func26, Tryz.ntmps26
  go_upto_region 1 with fail
  rw [hWH.out]
  go_wp2_with fail
  refine v1H.out.mono ?_
  rintro e w4 ⟨rfl, hb4⟩
  obtain ⟨W9, h9⟩ : ∃ W9, (w4.alloc (.cells #[.int .i64 0] 3)).alloc (.cells #[fxV (w.heap.size + 1 + 1) w4.heap.size (w.heap.size + 1) w.heap.size (w4.heap.size + 1)] 74) = W9 := ⟨_, rfl⟩
  obtain ⟨hb9, cw, hc⟩ := keyH.out w4 W9 hb4 h9
  have hcH := Lib.hid hc
  have h9H := Lib.hid h9
  clear h9 hc hb4 hb9 keyH
  go_upto_region 9 with fail
  rw [h9H.out]
  go_wp2_with fail
  (with_reducible refine hcH.out.mono ?_)
  rintro e w2 ⟨v, rfl, hov, hb2⟩
  obtain ⟨aZ, cZ, rfl, hI⟩ := OwnI.ints hov
  go_wp2_with fail
  go_ret2
  exact ⟨_, _, rfl, hI, hb2⟩
def rlRel (d : Ways) (t : List Int) (w : World) (i : Value) (wr : World) : Prop := ∃ k : Nat, i = .int .i64 k ∧ k ≤ t.length ∧ lackB d (t.take k) = false ∧ w = wr
set_option maxHeartbeats 1000000 in
theorem rlacks_any {S3 S4 : Nat → Prop} (a3 a4 : Option Addr) (c3 c4 : Nat) (d : Ways) (t : List Int) (w : World) (h3 : WaysL S3 w a3 c3 d) (h4 : Ints S4 w a4 c4 t) :
    Calls Tryz.prog 60 #[.slice a3 d.length c3, .slice a4 t.length c4] w fun e w' => e = .returned (.bool (lackB d t)) ∧ w = w' := by
  have m3 := h3.le
  have m4 := h4.le
  have v1 := fun x => rin_any a3 c3 d x w h3
  have v1H := Lib.hid v1
  have h4H := Lib.hid h4
  clear v1 h3 h4
  go_enter Tryz.func60, Tryz.ntmps60
  go_wp2_with fail
  go_loopw [5] (fun i wr => rlRel d t w i wr) (fun i _ => t.length - (intOf i).toNat)
  case atStart => exact ⟨0, rfl, Nat.zero_le _, by simp [lackB], rfl⟩
  case round =>
    obtain ⟨k, rfl, hk, hall, rfl⟩ := hrel
    by_cases hlt : k < t.length
    · obtain ⟨bb, o, rfl, -, q0, -⟩ := h4H.out.int k hlt
      have hst : (decide (0 ≤ t[k]) && !(tosD d).contains t[k]) = false → lackB d (t.take (k + 1)) = false := fun h0 => by
        unfold lackB at hall ⊢
        rw [List.take_succ_eq_append_getElem hlt, List.any_append, hall, List.any_cons, h0, List.any_nil]; rfl
      have hfd : (decide (0 ≤ t[k]) && !(tosD d).contains t[k]) = true → lackB d t = true := fun h0 => by
        unfold lackB
        rw [List.any_eq_true]; exact ⟨_, List.getElem_mem hlt, h0⟩
      obtain ⟨z, hz⟩ : ∃ z, t[k] = z := ⟨_, rfl⟩
      rw [hz] at hst hfd q0
      have ci := v1H.out z
      obtain ⟨y, hy⟩ : ∃ y, (tosD d).contains z = y := ⟨_, rfl⟩
      rw [hy] at ci hst hfd
      have ciH := Lib.hid ci
      clear hall hz hy ci
      by_cases h0 : 0 ≤ z
      · rw [decide_eq_true h0] at hst hfd
        cases y with
        | true =>
          have hf := Lib.hid (hst rfl)
          clear hst hfd
          go_wp2_with fail
          refine ciH.out.mono ?_
          rintro e w1 ⟨rfl, rfl⟩
          go_wp2_with fail
          go_roundw
          case rel => exact ⟨k + 1, by go_num, by omega, hf.out, rfl⟩
          case measure => simp [intOf]; omega
        | false =>
          have hf := Lib.hid (hfd rfl)
          clear hst hfd
          go_wp2_with fail
          refine ciH.out.mono ?_
          rintro e w1 ⟨rfl, rfl⟩
          go_wp2_with fail
          go_ret
          rw [hf.out]
          exact ⟨rfl, rfl⟩
      · rw [decide_eq_false h0] at hst
        have hf := Lib.hid (hst rfl)
        have h1 : z < 0 := by omega
        clear hst hfd h0
        go_wp2_with fail
        go_roundw
        case rel => exact ⟨k + 1, by go_num, by omega, hf.out, rfl⟩
        case measure => simp [intOf]; omega
    · rw [List.take_of_length_le (by omega)] at hall
      have hf := Lib.hid hall
      clear hall
      go_wp2_with fail
      go_ret
      rw [hf.out]
      exact ⟨rfl, rfl⟩
set_option maxHeartbeats 1000000 in
theorem rLacks_any {S1 S2 S3 S4 : Nat → Prop} (a1 a2 a3 a4 : Option Addr) (c1 c2 c3 c4 : Nat) (a b : Sg) (d : Ways) (t : List Int) (w : World) (h1 : Sign S1 w a1 c1 a) (h2 : Sign S2 w a2 c2 b) (h3 : WaysL S3 w a3 c3 d) (h4 : Ints S4 w a4 c4 t) :
    Calls Tryz.prog 29 #[.slice a1 a.length c1, .slice a2 b.length c2, .slice a3 d.length c3, .slice a4 t.length c4] w fun e w' => e = .returned (.tuple #[.bool (lackE a b d t).1, .int .i64 (lackE a b d t).2]) ∧ Below w.heap.size w w' := by
  have m1 := h1.le
  have m2 := h2.le
  have m3 := h3.le
  have m4 := h4.le
  have v1 : Calls _ _ _ _ _ := (rValid3_any a1 a2 a3 c1 c2 c3 a b d w h1 h2 h3).mono (fun e w' h => And.intro h.1 (h.2.below w.heap.size))
  have v2 := fun W (hb : Below w.heap.size w W) => (rValid_any a2 a4 c2 c4 b t W (h2.below hb) (h4.below hb)).mono (fun e w' h => And.intro h.1 (h.2.below W.heap.size))
  have v3 := fun W (hb : Below w.heap.size w W) => rlacks_any a3 a4 c3 c4 d t W (h3.below hb) (h4.below hb)
  unfold lackE
  cases hx : validD a b d with
  | false =>
    rw [hx] at v1
    have v1H := Lib.hid v1
    clear v1 v2 v3 h1 h2 h3 h4 hx
    go_enter Tryz.func29, Tryz.ntmps29
    go_wp2_with fail
    refine v1H.out.mono ?_
    rintro e w1 ⟨rfl, hb1⟩
    go_wp2_with fail
    go_ret2
    exact ⟨rfl, hb1⟩
  | true =>
  rw [hx] at v1
  cases hy : okT b t with
  | false =>
    simp only [hy] at v2
    have v1H := Lib.hid v1
    have v2H := Lib.hid v2
    clear v1 v2 v3 h1 h2 h3 h4 hx hy
    go_enter Tryz.func29, Tryz.ntmps29
    go_wp2_with fail
    refine v1H.out.mono ?_
    rintro e w1 ⟨rfl, hb1⟩
    go_wp2_with fail
    refine (v2H.out _ hb1).mono ?_
    rintro e w2 ⟨rfl, hb2⟩
    go_wp2_with fail
    go_ret2
    exact ⟨rfl, bcall hb1 hb2⟩
  | true =>
  simp only [hy] at v2
  rw [show (true && true) = true from rfl, if_pos rfl]
  obtain ⟨z, hz⟩ : ∃ z, lackB d t = z := ⟨_, rfl⟩
  simp only [hz] at v3 ⊢
  have v1H := Lib.hid v1
  have v2H := Lib.hid v2
  have v3H := Lib.hid v3
  clear v1 v2 v3 h1 h2 h3 h4 hx hy hz
  go_enter Tryz.func29, Tryz.ntmps29
  go_wp2_with fail
  refine v1H.out.mono ?_
  rintro e w1 ⟨rfl, hb1⟩
  go_wp2_with fail
  refine (v2H.out _ hb1).mono ?_
  rintro e w2 ⟨rfl, hb2⟩
  have hB2 := bcall hb1 hb2
  go_wp2_with fail
  refine (v3H.out _ hB2).mono ?_
  rintro e w3 ⟨rfl, rfl⟩
  go_wp2_with fail
  go_ret2
  exact ⟨rfl, hB2⟩
end Go.Proofs.YtnhaoalcpbefoaaGreatDoor

/- Facts of the program's types that the rows over the tongues want. -/
namespace Go.Proofs.YtnhaoalcpbefoaaGreatDoor
open Go Go.RowKit Go.ChangeShapes Go.WideShapes Go.ChangeAt Go.Deep

theorem gWay : Gives Tryz.prog 69 wayE := gives_pair Tryz.underlying69 rfl rfl (by kernel_rfl) (by kernel_rfl) (by kernel_rfl) gInt gInts
theorem gWays : Gives Tryz.prog 24 (slE wayE) := gives_slice Tryz.underlying24 (by kernel_rfl) gWay
theorem gTrade : Gives Tryz.prog 26 (pairE (slE symE) (pairE (slE symE) (slE wayE))) := gives3 Tryz.underlying26 rfl rfl rfl (by kernel_rfl) (by kernel_rfl) (by kernel_rfl) (by kernel_rfl) gSign gSign gWays
end Go.Proofs.YtnhaoalcpbefoaaGreatDoor

/- The law TongueFetchesFirst, walked. -/
namespace Go.Proofs.YtnhaoalcpbefoaaGreatDoor
open Go Go.RowKit Go.Maps

theorem fetE_ok {a b : Sg} {d : Ways} {t : List Int} (hv : validD a b d = true) (ht : okT a t = true) : fetE a b d (carT a d t) = (carT b (fetD d b.length) (carT a d t), 0) := by
  unfold fetE
  rw [hv, (carT_ok hv t.length ht (Nat.le_refl _)).1, Bool.and_self, if_pos rfl, if_neg (by rw [car_lack hv t.length ht (Nat.le_refl _)]; decide)]
set_option maxRecDepth 100000 in
set_option maxHeartbeats 8000000 in
theorem TongueFetchesFirst_walk {S1 S2 S3 S4 : Nat → Prop} (a1 : Option Addr) (c1 : Nat) (a : Sg) (a2 : Option Addr) (c2 : Nat) (b : Sg) (a3 : Option Addr) (c3 : Nat) (d : Ways) (a4 : Option Addr) (c4 : Nat) (t : List Int) (w : World) (h1 : Sign S1 w a1 c1 a) (h2 : Sign S2 w a2 c2 b) (h3 : WaysL S3 w a3 c3 d) (h4 : Ints S4 w a4 c4 t) :
    Calls Tryz.prog 6 #[.agg #[.slice a1 a.length c1, .slice a2 b.length c2, .slice a3 d.length c3], .slice a4 t.length c4] w fun e w' => e = .returned (.bool true) ∧ Below w.heap.size w w' := by
  have m1 := h1.le
  have m2 := h2.le
  have m3 := h3.le
  have m4 := h4.le
  obtain ⟨W, hW⟩ : ∃ W, w.alloc (.cells #[.slice a1 a.length c1, .slice a2 b.length c2, .slice a3 d.length c3] 26) = W := ⟨_, rfl⟩
  have hB : Below w.heap.size w W := by rw [← hW]; exact below1 w _
  have q0 : W.cell? ⟨w.heap.size, 0, none⟩ = some (.slice a1 a.length c1) := by rw [← hW]; clear hW; go_simp
  have q1 : W.cell? ⟨w.heap.size, 1, none⟩ = some (.slice a2 b.length c2) := by rw [← hW]; clear hW; go_simp
  have q2 : W.cell? ⟨w.heap.size, 2, none⟩ = some (.slice a3 d.length c3) := by rw [← hW]; clear hW; go_simp
  have sm := smallTr_any a1 a2 a3 c1 c2 c3 a b d W (h1.below hB) (h2.below hB) (h3.below hB)
  have aw := Lib.hid (fun W' (hb : Below w.heap.size w W') => aw3_from hb (Nat.le_refl _))
  have hBH := Lib.hid hB
  cases hs : smallTr a b d with
  | false =>
    rw [hs] at sm
    have smH := Lib.hid sm
    clear hB h1 h2 h3 h4 sm hs
    go_enter Tryz.func6, Tryz.ntmps6
    go_wp2_with fail
    try rw [hW]
    go_wp2_with fail
    refine smH.out.mono ?_
    rintro e w1 ⟨rfl, hb1⟩
    go_wp2_with fail
    refine (aw.out _ (bcall hBH.out hb1)).mono ?_
    rintro e w2 ⟨rfl, hb2⟩
    go_wp2_with fail
    go_ret
    exact ⟨rfl, hb2⟩
  | true =>
  rw [hs] at sm
  have smH := Lib.hid sm
  have hda : ∀ x ∈ d, x.2.length ≤ 1000 := by
    unfold smallTr at hs
    simp only [Bool.and_eq_true] at hs
    exact (fewB_le hs.2.2).2
  have Q : ∀ W', Below W.heap.size W W' → Below w.heap.size w W' ∧ W'.cell? ⟨w.heap.size, 0, none⟩ = some (.slice a1 a.length c1) ∧ W'.cell? ⟨w.heap.size, 1, none⟩ = some (.slice a2 b.length c2) ∧ W'.cell? ⟨w.heap.size, 2, none⟩ = some (.slice a3 d.length c3) := fun W' hb =>
    ⟨bcall hBH.out hb, cell_later hb q0, cell_later hb q1, cell_later hb q2⟩
  have QH := Lib.hid Q
  have st : ∀ W', Below w.heap.size w W' → Calls Tryz.prog 9 #[.slice none 0 0, .slice (some ⟨W'.heap.size, 0, none⟩) 1 1] (W'.alloc (.cells #[.slice a4 t.length c4] 28)) fun e w' => e = .returned (.bool (smallT [] [t])) ∧ W'.alloc (.cells #[.slice a4 t.length c4] 28) = w' := fun W' hb =>
    Small_any none (some ⟨W'.heap.size, 0, none⟩) 0 1 [] [t] _ (Sl.empty (S := fun _ => True)) (Sl.new (E := slE intE) (S := fun _ => True) W' [[.slice a4 t.length c4]] [t] 28 rfl (by unfold big; simp) (fun i g1 g2 => by
      match i, g1 with
      | 0, _ => exact ⟨_, _, rfl, (h4.below hb).any⟩))
  have stH := Lib.hid st
  have h1H := Lib.hid h1
  have h2H := Lib.hid h2
  have h3H := Lib.hid h3
  have h4H := Lib.hid h4
  have hdaH := Lib.hid hda
  clear hB h1 h2 h3 h4 sm hs hda Q st
  cases hz : smallT [] [t] with
  | false =>
    go_enter Tryz.func6, Tryz.ntmps6
    go_wp2_with fail
    try rw [hW]
    go_wp2_with fail
    refine smH.out.mono ?_
    rintro e w1 ⟨rfl, hb1⟩
    have hBB := bcall hBH.out hb1
    have st1 := stH.out w1 hBB
    rw [hz] at st1
    have st1H := Lib.hid st1
    clear st1
    go_wp2_with fail
    refine st1H.out.mono ?_
    rintro e w2 ⟨rfl, rfl⟩
    go_wp2_with fail
    refine (aw.out _ (bcall hBB (below1 _ _))).mono ?_
    rintro e w2 ⟨rfl, hb2⟩
    go_wp2_with fail
    go_ret
    exact ⟨rfl, hb2⟩
  | true =>
  have hRc := Lib.hid (crdE_casesT a b d t)
  obtain ⟨⟨U, E3⟩, hU⟩ : ∃ x, crdE a b d t = x := ⟨_, rfl⟩
  go_enter Tryz.func6, Tryz.ntmps6
  go_wp2_with fail
  try rw [hW]
  go_wp2_with fail
  refine smH.out.mono ?_
  rintro e w1 ⟨rfl, hb1⟩
  have hBB := bcall hBH.out hb1
  have st1 := stH.out w1 hBB
  obtain ⟨w0, hW2⟩ : ∃ W2, w1.alloc (.cells #[.slice a4 t.length c4] 28) = W2 := ⟨_, rfl⟩
  rw [hz, hW2] at st1
  have st1H := Lib.hid st1
  have hb2 := bcall hb1 (below1 w1 (.cells #[.slice a4 t.length c4] 28))
  rw [hW2] at hb2
  obtain ⟨hb3, p0, p1, p2⟩ := QH.out _ hb2
  have hT0H := Lib.hid hb2
  have hw0H := Lib.hid hb3
  clear st1 hb2 hb3 hBB hW hb1 hz
  go_wp2_with fail
  refine st1H.out.mono ?_
  rintro e w2 ⟨rfl, rfl⟩
  clear st1H smH hW2
  have cc10 := Carried_any a1 a2 a3 a4 c1 c2 c3 c4 a b d t _ (h1H.out.below hw0H.out) (h2H.out.below hw0H.out) (h3H.out.below hw0H.out) (h4H.out.below hw0H.out) hdaH.out
  rw [hU] at cc10
  have cc1 := Lib.hid cc10
  clear cc10
  go_wp2_with fail
  refine cc1.out.mono ?_
  rintro e w1 ⟨aU, cU, rfl, hU, hb1⟩
  have hT1 := bcall hT0H.out hb1
  obtain ⟨hw1, p0, p1, p2⟩ := QH.out _ hT1
  have U_1 := Lib.hid hU
  have mU := hU.le
  have hT1H := Lib.hid hT1
  have hw1H := Lib.hid hw1
  clear hT1 hw1 hb1 hT0H hw0H hU cc1
  have hRc0 := hRc.out
  rw [hU] at hRc0
  rcases hRc0 with hF | ⟨hv, ht, hUe⟩
  · have f3 : (E3 != 0) = true := by simpa using hF
    clear hF hU hRc
    have ca2 := Lib.hid (aw.out _ hw1H.out)
    go_wp2_with fail
    refine ca2.out.mono ?_
    rintro e wZ ⟨rfl, hbZ⟩
    go_wp2_with fail
    go_ret
    exact ⟨rfl, hbZ⟩
  obtain ⟨rfl, rfl⟩ : U = carT a d t ∧ E3 = 0 := by
    injection hUe with x1 x2
    exact ⟨x1, x2⟩
  have o4 := fetE_ok hv ht
  have o5 := fet_first hv ht
  obtain ⟨R, hR⟩ : ∃ R, carT a d t = R := ⟨_, rfl⟩
  rw [hR] at o4 o5 U_1 mU
  try simp only [hR]
  obtain ⟨R2, hR2⟩ : ∃ R2, carT b (fetD d b.length) R = R2 := ⟨_, rfl⟩
  rw [hR2] at o4 o5
  obtain ⟨z, hz⟩ : ∃ z, compareT R2 t = z := ⟨_, rfl⟩
  rw [hz] at o5
  have f5 : decide (z ≤ 0) = true := by simpa using o5
  have o4H := Lib.hid o4
  have hzH := Lib.hid hz
  clear hv ht hU hRc hUe hR hR2 o4 o5 hz
  have cc20 := Fetched_any a1 a2 a3 aU c1 c2 c3 cU a b d R _ (h1H.out.below hw1H.out) (h2H.out.below hw1H.out) (h3H.out.below hw1H.out) U_1.out hdaH.out
  rw [o4H.out] at cc20
  have cc2 := Lib.hid cc20
  clear cc20
  go_wp2_with fail
  refine cc2.out.mono ?_
  rintro e w2 ⟨aV, cV, rfl, hV, hb2⟩
  have hT2 := bcall hT1H.out hb2
  obtain ⟨hw2, p0, p1, p2⟩ := QH.out _ hT2
  have U_2 := Lib.hid (U_1.out.below hb2)
  have V_2 := Lib.hid hV
  have mV := hV.le
  have hT2H := Lib.hid hT2
  have hw2H := Lib.hid hw2
  clear hT2 hw2 hb2 hT1H hw1H U_1 hV cc2
  have cc30 := Compare_any aV a4 cV c4 R2 t _ V_2.out (h4H.out.below hw2H.out)
  rw [hzH.out] at cc30
  have cc3 := Lib.hid cc30
  clear cc30
  go_wp2_with fail
  refine cc3.out.mono ?_
  rintro e w3 ⟨rfl, hb3⟩
  have hT3 := bcall hT2H.out hb3
  obtain ⟨hw3, p0, p1, p2⟩ := QH.out _ hT3
  have V_3 := Lib.hid (V_2.out.below hb3)
  have hT3H := Lib.hid hT3
  have hw3H := Lib.hid hw3
  clear hT3 hw3 hb3 hT2H hw2H V_2 U_2 cc3
  have ca4 := Lib.hid (aw.out _ hw3H.out)
  go_wp2_with fail
  refine ca4.out.mono ?_
  rintro e wZ ⟨rfl, hbZ⟩
  go_wp2_with fail
  go_ret
  exact ⟨rfl, hbZ⟩
end Go.Proofs.YtnhaoalcpbefoaaGreatDoor

/- The card of TongueFetchesFirst: for every input TongueFetchesFirst returns true and leaves its arguments as they were; the listed variables are tied to the program's text. No condition. -/
namespace Go.Proofs.YtnhaoalcpbefoaaGreatDoor
open Go Go.RowKit Go.ChangeShapes Go.WideShapes Go.ChangeAt

theorem tongueFetchesFirst_door (os : Os) (args : Array Value) : laidMetH Tryz.prog Rows.tongueFetchesFirstRow.laid ((World.doorLaid Tryz.prog 400 os).forCall (fun _ _ => 0) ⟨#[], args, []⟩).memory :=
  laidMetH_of_parts3 (fuel := 8) (laidMet_of_run' 8 (by kernel_rfl) (by kernel_rfl)) (by kernel_rfl) (by kernel_rfl)
set_option maxRecDepth 100000 in
theorem tongueFetchesFirst_lifted (os : Os) (started : os.Started) (H : Type) (enc : TypeId × Value → H) :
    ReturnsInHanded {} Tryz.checked os 6 .any (fun w args => (Rows.tongueFetchesFirstSpec.pre enc Tryz.prog Tryz.f6 [] false w args ∧ laidMetH Tryz.prog Rows.tongueFetchesFirstRow.laid w) ∧ sizedMet enc Tryz.prog Tryz.f6 (OpenSpec.ofChange Rows.tongueFetchesFirstSpec) false w args)
      (Rows.tongueFetchesFirstSpec.post enc Tryz.prog Tryz.f6 false true false false) := by
  refine returnsInHanded_of_change_and (C := Tryz.checked) (X := fun w _ => laidMetH Tryz.prog Rows.tongueFetchesFirstRow.laid w) (fun _ _ _ hh h => h.of_heap hh) Tryz.own started (by kernel_rfl) Tryz.func6
    (ChangeSpec.witness_shaped (enc := enc) (C := Tryz.checked) (os := os) (X := fun w _ => laidMetH Tryz.prog Rows.tongueFetchesFirstRow.laid w) false (World.doorLaid Tryz.prog 400 os) #[.agg #[.slice none 0 0, .slice none 0 0, .slice none 0 0], .slice none 0 0] 8 rfl (World.shaped_of_RefB (by kernel_rfl) (by kernel_rfl)) (by kernel_rfl) (by kernel_rfl) (by kernel_rfl) (tongueFetchesFirst_door os _)) ?_
  intro W base args ds gs before hval0 hW _ _ hL _
  clear hL
  have hval : ∀ (j : Nat) t v, Tryz.f6.params[j]? = some t → args[j]? = some v → Value.okWide Tryz.prog W .any base t v := hval0
  have hW' := hW
  obtain ⟨p, q, hA0, hV, rfl, hfz, hnd⟩ := hW
  have hA : DataW.TrodAll enc Tryz.prog W 0 (fun _ => true) true Tryz.f6.params.toList args.toList ds p := hA0
  rw [Tryz.params6] at hA hval
  obtain ⟨v0, v1, d0, d1, p0, p1, rfl, rfl, rfl, h0, h1⟩ := trodAll_two hA
  obtain ⟨rfl, rfl⟩ := trodVars_none hV
  clear hA0 hval0
  simp only [List.append_nil] at hW'
  have hlt : ∀ x ∈ p0 ++ p1, x.block < W.heap.size := fun x hx => hW'.lt x (by simpa using hx)
  have keep0 := fun (W' : World) (hn : Below W.heap.size W W') => Below.trod Tryz.laidOut (by kernel_rfl) (of_decide_eq_true (by kernel_rfl)) h0 hn (fun x hx => hlt x (by simp [hx]))
  have keep1 := fun (W' : World) (hn : Below W.heap.size W W') => Below.trod Tryz.laidOut (by kernel_rfl) (of_decide_eq_true (by kernel_rfl)) h1 hn (fun x hx => hlt x (by simp [hx]))
  obtain ⟨⟨t0, t1, t2⟩, vs, rfl, us, ts, rfl, ⟨a00, c00, rfl, r00⟩, us1, ts1, rfl, ⟨a01, c01, rfl, r01⟩, ⟨a02, c02, rfl, r02⟩⟩ := gTrade.argAgg h0 (let ⟨cs, h, _⟩ := okWide_struct Tryz.underlying26 (hval 0 26 v0 rfl rfl); ⟨cs, h⟩)
  obtain ⟨l1, a1, c1, rfl, r1⟩ := gTerm.arg h1 (okWide_slice Tryz.underlying28 (hval 1 28 v1 rfl rfl))
  refine (TongueFetchesFirst_walk _ _ _ _ _ _ _ _ _ _ _ _ W r00 r01 r02 r1).mono fun e W' ⟨he, hB⟩ => ?_
  subst he
  exact ⟨_, rfl, _, _, _, [], p0 ++ p1, [], hW', trodAll_mk1 (shut_bool Tryz.underlying4 true), trodAll_mk2 (keep0 _ hB) (keep1 _ hB), rfl, hB.frame _, fun h => by cases h⟩

/-- TongueFetchesFirst: for every input it returns true, and each argument reads as it did. -/
theorem tongueFetchesFirst_holds : Rows.TongueFetchesFirstSaid :=
  OpenClaim.holds_of_wide 6 Tryz.f6 rfl rfl rfl rfl rfl rfl rfl ⟨rfl, rfl, rfl, rfl, rfl⟩ rfl rfl rfl rfl rfl (by kernel_rfl) Tryz.func6 (by kernel_rfl)
    (of_decide_eq_true (by kernel_rfl)) (by unfold Func.isWrapper; first | (rw [if_pos (by decide +kernel)]; kernel_rfl) | (rw [if_neg (by decide +kernel)]; exact ⟨rfl, rfl⟩))
    (fun os started H enc _ => tongueFetchesFirst_lifted os started H enc)
/-- the card of TongueFetchesFirst -/
theorem tongueFetchesFirst_card_holds : Rows.TongueFetchesFirstCardSaid :=
  Claim7.holds_tied_plain_at .later [] [.data, .data, .data, .sentinel, .sentinel] true Rows.tongueFetchesFirstCard.stood.harness Rows.tongueFetchesFirstCard.stood.looks
    tongueFetchesFirst_holds (fun _ h => by cases h) (by kernel_rfl) (fun _ h => by cases h) tongueFetchesFirst_row_tie rfl ⟨rfl, rfl⟩ (by kernel_rfl) rfl
    (fun f fn hf hfn => by
      obtain rfl : f = 6 := Option.some.inj ((show Tryz.prog.funcNamed Rows.tongueFetchesFirstRow.func = some 6 by kernel_rfl).symm.trans hf) |>.symm
      obtain rfl : fn = Tryz.f6 := (Option.some.inj (Tryz.func6.symm.trans hfn)).symm
      exact ⟨by kernel_rfl, fun j t ht => by
        rw [Tryz.params6] at ht
        have hm : t ∈ [26, 28] := by simpa using Array.mem_of_getElem? ht
        have hall : ([26, 28].all fun u => !Tryz.prog.wantsStandIn u) = true := by kernel_rfl
        exact (show Tryz.prog.wantsStandIn t = false by simpa using List.all_eq_true.1 hall t hm)⟩)
    (by kernel_rfl)
end Go.Proofs.YtnhaoalcpbefoaaGreatDoor
