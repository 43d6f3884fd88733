/- The proof of a statement, some of its texts joined in build order: part N. -/
import Derived.Test.YtfcbdlfanmddbaaGreatDoorMsT
import Derived.Lib.SlicesCompact
import Derived.Test.YtfcbdlfanmddbaaGreatDoorMsA
import Derived.BigQuiet
import Derived.Test.YtfcbdlfanmddbaaGreatDoorRange
import Derived.Test.YtfcbdlfanmddbaaGreatDoorLeaves
import Derived.Shelf.Abstract
import Derived.Shelf.RegionOpen
import Derived.OwnWalkIn
import Derived.TacticsInMore
import Derived.LoopNIn
import Derived.LoopIn
import Derived.Test.YtfcbdlfanmddbaaGreatDoorRegRound
import Derived.RegionIn
/- Needed steps, counts and heights of proofs by their trees, in plain words. No program is named. -/
namespace Go.Proofs.YtfcbdlfanmddbaaGreatDoor

def cntT : Tr → Nat
  | .g _ => 1
  | .d a b => cntT a + cntT b + 1
def hgtT : Tr → Nat
  | .g _ => 1
  | .d a b => max (hgtT a) (hgtT b) + 1
theorem cnt_text (t : Tr) : cntT t ≤ t.text.length := by
  induction t with
  | g n => simp [cntT, Tr.text]
  | d a b iha ihb => simp [cntT, Tr.text]; omega
/-- one step of needed: what step x, needed, makes needed -/
def ndSt (f : List Bool) (x : Stp) (is : Bool) : List Bool := if is = true ∧ x.1 = 2 then (f.set x.2.1.toNat true).set x.2.2.toNat true else f
def ndGo (p : List Stp) : Nat → List Bool → List Bool
  | 0, f => f
  | k + 1, f => ndGo p k (ndSt f (p.getD k (0, 0, 0)) (f.getD k false))
def ndL (p : List Stp) : List Bool := ndGo p p.length ((List.replicate p.length false).set (p.length - 1) true)
theorem ndSt_len (f : List Bool) (x : Stp) (is : Bool) : (ndSt f x is).length = f.length := by unfold ndSt; split <;> simp
theorem ndGo_len (p : List Stp) : ∀ (k : Nat) (f : List Bool), (ndGo p k f).length = f.length
  | 0, _ => rfl
  | k + 1, f => by rw [ndGo, ndGo_len p k, ndSt_len]
theorem ndL_len (p : List Stp) : (ndL p).length = p.length := by unfold ndL; rw [ndGo_len]; simp
theorem set_getD (f : List Bool) (a j : Nat) : (f.set a true).getD j false = (if a = j ∧ j < f.length then true else f.getD j false) := by
  rw [List.getD_eq_getElem?_getD, List.getD_eq_getElem?_getD, List.getElem?_set]
  by_cases h : a = j
  · subst h
    by_cases hl : a < f.length
    · simp [hl]
    · simp [hl]
  · simp [h]
theorem ndSt_mono {f : List Bool} {x : Stp} {is : Bool} {j : Nat} (h : f.getD j false = true) : (ndSt f x is).getD j false = true := by
  unfold ndSt
  split
  · rw [set_getD, set_getD]
    split
    · rfl
    · split
      · rfl
      · exact h
  · exact h
theorem ndGo_mono (p : List Stp) {j : Nat} : ∀ (k : Nat) (f : List Bool), f.getD j false = true → (ndGo p k f).getD j false = true
  | 0, _, h => h
  | k + 1, _, h => ndGo_mono p k _ (ndSt_mono h)
theorem ndSt_same {f : List Bool} {x : Stp} {is : Bool} {j : Nat} (h : x.1 = 2 → x.2.1.toNat < j ∧ x.2.2.toNat < j) : (ndSt f x is).getD j false = f.getD j false := by
  unfold ndSt
  split
  · rename_i hc
    obtain ⟨h1, h2⟩ := h hc.2
    rw [set_getD, set_getD, if_neg (by omega), if_neg (by omega)]
  · rfl
theorem getD_stp {p : List Stp} {k : Nat} (hk : k < p.length) : p.getD k (0, 0, 0) = p[k] := by rw [List.getD_eq_getElem?_getD, List.getElem?_eq_getElem hk]; rfl
theorem ok_less {G : Int} {p : List Stp} (ok : okSteps G 0 p = true) {k : Nat} (hk : k < p.length) (h2 : p[k].1 = 2) : p[k].2.1.toNat < k ∧ p[k].2.2.toNat < k := by
  have := okS_get p 0 k hk ok
  rw [Nat.zero_add] at this
  obtain ⟨-, d1, d2, d3, d4⟩ := rightB_detach this (by omega)
  omega
theorem ndGo_same {G : Int} {p : List Stp} (ok : okSteps G 0 p = true) {j : Nat} : ∀ (k : Nat) (f : List Bool), k ≤ p.length → k ≤ j → (ndGo p k f).getD j false = f.getD j false
  | 0, _, _, _ => rfl
  | k + 1, f, h, hj => by
    rw [ndGo, ndGo_same ok k _ (by omega) (by omega)]
    refine ndSt_same fun h2 => ?_
    rw [getD_stp (by omega)] at h2 ⊢
    have := ok_less ok (by omega) h2
    omega
theorem ndGo_step {G : Int} {p : List Stp} (ok : okSteps G 0 p = true) {i : Nat} (hi : i < p.length) (h2 : p[i].1 = 2) : ∀ (k : Nat) (f : List Bool), f.length = p.length → k ≤ p.length → i < k → (ndGo p k f).getD i false = true →
    (ndGo p k f).getD p[i].2.1.toNat false = true ∧ (ndGo p k f).getD p[i].2.2.toNat false = true
  | 0, _, _, _, h, _ => by omega
  | k + 1, f, hl, hk, hik, ht => by
    rw [ndGo] at ht ⊢
    by_cases hlt : i < k
    · exact ndGo_step ok hi h2 k _ (by rw [ndSt_len]; exact hl) (by omega) hlt ht
    · obtain rfl : i = k := by omega
      have hless := ok_less ok hi h2
      rw [ndGo_same ok i _ (by omega) (Nat.le_refl _), getD_stp hi] at ht
      rw [ndSt_same (fun _ => hless)] at ht
      rw [getD_stp hi, ht]
      have hs : ndSt f p[i] true = (f.set p[i].2.1.toNat true).set p[i].2.2.toNat true := by unfold ndSt; rw [if_pos ⟨rfl, h2⟩]
      rw [hs]
      refine ⟨ndGo_mono p i _ ?_, ndGo_mono p i _ ?_⟩
      · rw [set_getD, set_getD]
        split
        · rfl
        · rw [if_pos ⟨rfl, by omega⟩]
      · rw [set_getD, if_pos ⟨rfl, by rw [List.length_set]; omega⟩]
theorem ndL_step {G : Int} {p : List Stp} (ok : okSteps G 0 p = true) {i : Nat} (hi : i < p.length) (h2 : p[i].1 = 2) (ht : (ndL p).getD i false = true) : (ndL p).getD p[i].2.1.toNat false = true ∧ (ndL p).getD p[i].2.2.toNat false = true :=
  ndGo_step ok hi h2 p.length _ (by simp) (Nat.le_refl _) hi ht
theorem ndL_last {p : List Stp} (h1 : 1 ≤ p.length) : (ndL p).getD (p.length - 1) false = true := by
  refine ndGo_mono p _ _ ?_
  rw [set_getD, if_pos ⟨rfl, by simp; omega⟩]
theorem ndL_nd {G : Int} {p : List Stp} (ok : okSteps G 0 p = true) {k j : Nat} (h : Nd p k j) : (ndL p).getD k false = true → (ndL p).getD j false = true := by
  induction h with
  | self => exact id
  | a hk h2 _ ih => exact fun ht => ih (ndL_step ok hk h2 ht).1
  | b hk h2 _ ih => exact fun ht => ih (ndL_step ok hk h2 ht).2
/-- the needed steps -/
def ndIdx (p : List Stp) : List Nat := (List.range p.length).filter fun i => (ndL p).getD i false
theorem tree_needed {G : Int} {p q : List Stp} (ok : okSteps G 0 p = true) (h1 : 1 ≤ p.length) (hq : okSteps G 0 q = true) (nd : q.Nodup) (hs : ∀ u ∈ trees q, u ∈ ((trees p).getLastD (.g 0)).subs) : q.length ≤ (ndIdx p).length := by
  classical
  have h := nodup_le (m := (ndIdx p).map fun i => (trees p).getD i (.g 0)) (trees_nodup hq nd) (fun u hu => by
    have h2 := hs u hu
    rw [last_tree h1] at h2
    obtain ⟨j, hj, hn, ht⟩ := subs_nd ok (p.length - 1) (by omega) u h2
    rw [List.mem_map]
    refine ⟨j, ?_, ht⟩
    unfold ndIdx
    rw [List.mem_filter, List.mem_range]
    exact ⟨hj, ndL_nd ok hn (ndL_last h1)⟩)
  rw [trees_len, List.length_map] at h
  exact h
end Go.Proofs.YtfcbdlfanmddbaaGreatDoor

/- Givens that needed steps cite, in plain words: a sorted list, each once, is what a range is left with. No program is named. -/
namespace Go.Proofs.YtfcbdlfanmddbaaGreatDoor

theorem cmp_inv {zs : List Int} (hs : zs.Pairwise (· ≤ ·)) : ∀ m, m ≤ zs.length → (Go.Lib.compactUpTo zs.toArray m).Pairwise (· < ·) ∧ ∀ x, x ∈ Go.Lib.compactUpTo zs.toArray m ↔ x ∈ zs.take m
  | 0, _ => ⟨by simp [Go.Lib.compactUpTo], fun x => by simp [Go.Lib.compactUpTo]⟩
  | m + 1, hm => by
    obtain ⟨ih1, ih2⟩ := cmp_inv hs m (by omega)
    have hlt : m < zs.length := by omega
    have hg : ∀ j, j < zs.length → zs.toArray[j]! = zs[j]! := fun j hj => by simp
    have hge : zs.toArray[m]! = zs[m] := by simp [getElem!_pos, hlt]
    have htk : zs.take (m + 1) = zs.take m ++ [zs[m]] := List.take_succ_eq_append_getElem hlt
    rw [Go.Lib.compactUpTo_succ, htk]
    by_cases hk : Go.Lib.keeps zs.toArray m = true
    · rw [if_pos hk, hge]
      refine ⟨?_, fun x => by rw [List.mem_append, List.mem_append, ih2 x]⟩
      rw [List.pairwise_append]
      refine ⟨ih1, by simp, fun x hx y hy => ?_⟩
      rw [List.mem_singleton] at hy
      subst hy
      rw [ih2] at hx
      obtain ⟨j, hj, rfl⟩ := List.getElem_of_mem hx
      rw [List.length_take] at hj
      rw [List.getElem_take]
      have hjm : j < m := by omega
      rw [List.pairwise_iff_getElem] at hs
      have h1 : zs[j] ≤ zs[m - 1] := by
        by_cases e : j = m - 1
        · subst e; exact Int.le_refl _
        · exact hs j (m - 1) (by omega) (by omega) (by omega)
      have h2 : zs[m - 1] ≤ zs[m] := hs (m - 1) m (by omega) hlt (by omega)
      have h3 : zs[m] ≠ zs[m - 1] := by
        simp only [Go.Lib.keeps, decide_eq_true_eq] at hk
        rcases hk with hk | hk
        · omega
        · rw [hge] at hk
          have : zs.toArray[m - 1]! = zs[m - 1] := by rw [getElem!_pos _ _ (by simp; omega)]; simp
          rw [this] at hk; exact hk
      omega
    · rw [if_neg hk, List.append_nil]
      refine ⟨ih1, fun x => ?_⟩
      rw [ih2 x, List.mem_append, List.mem_singleton]
      refine ⟨.inl, fun h => h.elim id fun e => ?_⟩
      simp only [Go.Lib.keeps, decide_eq_true_eq, not_or] at hk
      have h0 : 0 < m := by omega
      have : zs.toArray[m - 1]! = zs[m - 1] := by rw [getElem!_pos _ _ (by simp; omega)]; simp
      have h3 : zs[m] = zs[m - 1] := by
        have := hk.2
        rw [hge] at this
        rw [‹zs.toArray[m - 1]! = zs[m - 1]›] at this
        exact Classical.byContradiction this
      rw [e, h3, List.mem_iff_getElem]
      exact ⟨m - 1, by rw [List.length_take]; omega, by rw [List.getElem_take]⟩
theorem lt_ext {a b : List Int} (ha : a.Pairwise (· < ·)) (hb : b.Pairwise (· < ·)) (h : ∀ x, x ∈ a ↔ x ∈ b) : a = b := by
  induction a generalizing b with
  | nil =>
    cases b with
    | nil => rfl
    | cons y b => exact absurd ((h y).2 (by simp)) (by simp)
  | cons x a ih =>
    cases b with
    | nil => exact absurd ((h x).1 (by simp)) (by simp)
    | cons y b =>
      rw [List.pairwise_cons] at ha hb
      have hxy : x = y := by
        have h1 := (h x).1 (by simp)
        have h2 := (h y).2 (by simp)
        rw [List.mem_cons] at h1 h2
        rcases h1 with h1 | h1
        · exact h1
        · rcases h2 with h2 | h2
          · exact h2.symm
          · have := hb.1 x h1; have := ha.1 y h2; omega
      subst hxy
      rw [ih ha.2 hb.2 fun z => ?_]
      have hz := h z
      rw [List.mem_cons, List.mem_cons] at hz
      constructor
      · intro hm
        rcases hz.1 (.inr hm) with e | e
        · have := ha.1 z hm; omega
        · exact e
      · intro hm
        rcases hz.2 (.inr hm) with e | e
        · have := hb.1 z hm; omega
        · exact e
theorem sort_le (l : List Int) : (l.mergeSort fun x y => decide (x ≤ y)).Pairwise (· ≤ ·) := by
  have := List.pairwise_mergeSort (le := fun x y : Int => decide (x ≤ y)) (fun a b c h1 h2 => by simp only [decide_eq_true_eq] at h1 h2 ⊢; omega) (fun a b => by simp only [Bool.or_eq_true, decide_eq_true_eq]; omega) l
  exact this.imp fun h => by simpa using h
/-- sorted, each once -/
def uniqI (l : List Int) : List Int := Go.Lib.compact (l.mergeSort fun x y => decide (x ≤ y))
theorem uniqI_lt (l : List Int) : (uniqI l).Pairwise (· < ·) := (cmp_inv (sort_le l) _ (Nat.le_refl _)).1
theorem uniqI_mem (l : List Int) (x : Int) : x ∈ uniqI l ↔ x ∈ l := by
  have := (cmp_inv (sort_le l) _ (Nat.le_refl _)).2 x
  rw [List.take_length] at this
  unfold uniqI Go.Lib.compact
  rw [this, List.mem_mergeSort]
/-- what needed steps cite, in their order -/
def citL (p : List Stp) (L : List Nat) : List Int := (L.filter fun i => decide ((p.getD i (0, 0, 0)).1 = 1)).map fun i => (p.getD i (0, 0, 0)).2.1
/-- whether a needed step cites a given -/
def citB (p : List Stp) (g : Nat) : Bool := (List.range p.length).any fun i => (ndL p).getD i false && (decide ((p.getD i (0, 0, 0)).1 = 1) && decide ((p.getD i (0, 0, 0)).2.1 = (g : Int)))
def citR (G : Nat) (p : List Stp) : List Int := ((List.range G).filter fun g => citB p g).map fun g : Nat => (g : Int)
theorem citL_mem {p : List Stp} {x : Int} : x ∈ citL p (ndIdx p) ↔ ∃ i, i < p.length ∧ (ndL p).getD i false = true ∧ (p.getD i (0, 0, 0)).1 = 1 ∧ (p.getD i (0, 0, 0)).2.1 = x := by
  unfold citL ndIdx
  rw [List.mem_map]
  constructor
  · rintro ⟨i, hi, rfl⟩
    rw [List.mem_filter, List.mem_filter, List.mem_range, decide_eq_true_eq] at hi
    exact ⟨i, hi.1.1, hi.1.2, hi.2, rfl⟩
  · rintro ⟨i, h1, h2, h3, rfl⟩
    exact ⟨i, by rw [List.mem_filter, List.mem_filter, List.mem_range, decide_eq_true_eq]; exact ⟨⟨h1, h2⟩, h3⟩, rfl⟩
theorem cited_eq {G : Nat} {p : List Stp} (ok : okSteps (G : Int) 0 p = true) : uniqI (citL p (ndIdx p)) = citR G p := by
  refine lt_ext (uniqI_lt _) ?_ fun x => ?_
  · unfold citR
    rw [List.pairwise_map]
    exact (List.Pairwise.filter _ List.pairwise_lt_range).imp fun h => by omega
  · rw [uniqI_mem, citL_mem]
    unfold citR citB
    rw [List.mem_map]
    constructor
    · rintro ⟨i, h1, h2, h3, rfl⟩
      have hr := okS_get p 0 i h1 ok
      rw [Nat.zero_add] at hr
      rw [getD_stp h1] at h3 ⊢
      obtain ⟨c1, c2, -⟩ := rightB_cite hr h3
      refine ⟨p[i].2.1.toNat, ?_, by omega⟩
      rw [List.mem_filter, List.mem_range]
      refine ⟨by omega, ?_⟩
      rw [List.any_eq_true]
      refine ⟨i, List.mem_range.2 h1, ?_⟩
      rw [getD_stp h1]
      simp only [Bool.and_eq_true, decide_eq_true_eq]
      exact ⟨h2, h3, by omega⟩
    · rintro ⟨g, hg, rfl⟩
      rw [List.mem_filter, List.any_eq_true] at hg
      obtain ⟨-, i, hi, hb⟩ := hg
      simp only [Bool.and_eq_true, decide_eq_true_eq] at hb
      exact ⟨i, List.mem_range.1 hi, hb.1, hb.2.1, hb.2.2⟩
/-- what Cited answers -/
def citedE (G : Int) (p : List Stp) : List Int × Int := if proofB G p = true then (citR G.toNat p, 0) else ([], 1)
end Go.Proofs.YtfcbdlfanmddbaaGreatDoor

/- What Needed answers, in plain words. No program is named. -/
namespace Go.Proofs.YtfcbdlfanmddbaaGreatDoor
def ndInts (p : List Stp) : List Int := (ndIdx p).map fun i : Nat => (i : Int)
def neededE (G : Int) (p : List Stp) : List Int × Int := if proofB G p = true then (ndInts p, 0) else ([], 1)
/-- the first k steps' needed ones -/
def ndTo (p : List Stp) (k : Nat) : List Int := ((List.range k).filter fun i => (ndL p).getD i false).map fun i : Nat => (i : Int)
theorem ndTo_succ (p : List Stp) (k : Nat) : ndTo p (k + 1) = if (ndL p).getD k false = true then ndTo p k ++ [(k : Int)] else ndTo p k := by
  unfold ndTo
  rw [List.range_succ, List.filter_append, List.map_append]
  by_cases h : (ndL p).getD k false = true
  · rw [if_pos h]; simp only [List.filter_cons, h, if_true, List.filter_nil, List.map_cons, List.map_nil]
  · rw [if_neg h]; simp only [List.filter_cons, h, Bool.false_eq_true, if_false, List.filter_nil, List.map_nil, List.append_nil]
theorem ndTo_all (p : List Stp) : ndTo p p.length = ndInts p := rfl
theorem ndTo_len (p : List Stp) (k : Nat) : (ndTo p k).length ≤ k := by
  unfold ndTo
  rw [List.length_map]
  exact Nat.le_trans (List.length_filter_le _ _) (by rw [List.length_range]; exact Nat.le_refl _)
/-- the first k givens that are cited -/
theorem citR_succ (p : List Stp) (k : Nat) : citR (k + 1) p = if citB p k = true then citR k p ++ [(k : Int)] else citR k p := by
  unfold citR
  rw [List.range_succ, List.filter_append, List.map_append]
  by_cases h : citB p k = true
  · rw [if_pos h]; simp only [List.filter_cons, h, if_true, List.filter_nil, List.map_cons, List.map_nil]
  · rw [if_neg h]; simp only [List.filter_cons, h, Bool.false_eq_true, if_false, List.filter_nil, List.map_nil, List.append_nil]
theorem citR_len (p : List Stp) (k : Nat) : (citR k p).length ≤ k := by
  unfold citR
  rw [List.length_map]
  exact Nat.le_trans (List.length_filter_le _ _) (by rw [List.length_range]; exact Nat.le_refl _)
/-- whether one of the first k steps is needed and cites g -/
def citTo (p : List Stp) (g k : Nat) : Bool := (List.range k).any fun i => (ndL p).getD i false && (decide ((p.getD i (0, 0, 0)).1 = 1) && decide ((p.getD i (0, 0, 0)).2.1 = (g : Int)))
theorem citTo_succ (p : List Stp) (g k : Nat) : citTo p g (k + 1) = (citTo p g k || ((ndL p).getD k false && (decide ((p.getD k (0, 0, 0)).1 = 1) && decide ((p.getD k (0, 0, 0)).2.1 = (g : Int))))) := by
  unfold citTo
  rw [List.range_succ, List.any_append]
  simp
theorem citTo_all (p : List Stp) (g : Nat) : citTo p g p.length = citB p g := rfl
/-- of the first k needed steps what they cite -/
theorem citL_take (p : List Stp) {k : Nat} (h : k < (ndIdx p).length) : citL p ((ndIdx p).take (k + 1)) = if (p.getD (ndIdx p)[k] (0, 0, 0)).1 = 1 then citL p ((ndIdx p).take k) ++ [(p.getD (ndIdx p)[k] (0, 0, 0)).2.1] else citL p ((ndIdx p).take k) := by
  unfold citL
  rw [List.take_succ_eq_append_getElem h, List.filter_append, List.map_append]
  by_cases h1 : (p.getD (ndIdx p)[k] (0, 0, 0)).1 = 1
  · rw [if_pos h1]; simp only [List.filter_cons, h1, decide_true, if_true, List.filter_nil, List.map_cons, List.map_nil]
  · rw [if_neg h1]; simp only [List.filter_cons, h1, decide_false, Bool.false_eq_true, if_false, List.filter_nil, List.map_nil, List.append_nil]
theorem citL_len (p : List Stp) (k : Nat) : (citL p ((ndIdx p).take k)).length ≤ k := by
  unfold citL
  rw [List.length_map]
  exact Nat.le_trans (List.length_filter_le _ _) (by rw [List.length_take]; omega)
theorem ndIdx_lt {p : List Stp} {k : Nat} (h : k < (ndIdx p).length) : (ndIdx p)[k] < p.length := by
  have := List.getElem_mem h
  unfold ndIdx at this
  rw [List.mem_filter, List.mem_range] at this
  exact this.1
theorem ndIdx_len (p : List Stp) : (ndIdx p).length ≤ p.length := by
  unfold ndIdx
  exact Nat.le_trans (List.length_filter_le _ _) (by rw [List.length_range]; exact Nat.le_refl _)
end Go.Proofs.YtfcbdlfanmddbaaGreatDoor

/- Walks: kernel.up, Count, Height. -/
namespace Go.Proofs.YtfcbdlfanmddbaaGreatDoor
open Go Go.RowKit

/-- a number for a tree, from those of its parts -/
def upT (bt : Int → Int → Int) : Tr → Int
  | .g _ => 1
  | .d a b => bt (upT bt a) (upT bt b)
def upR (x : Int) : Prop := 0 ≤ x ∧ x ≤ 2000000000000000
def upL (bt : Int → Int → Int) (ts : List Tr) : List Int := ts.map (upT bt)
theorem upL_len (bt : Int → Int → Int) (ts : List Tr) (i : Nat) (h : i ≤ ts.length) : (upL bt (ts.take i)).length = i := by unfold upL; rw [List.length_map, List.length_take]; omega
theorem upL_succ {bt : Int → Int → Int} {ts : List Tr} {i : Nat} (h : i < ts.length) : upL bt (ts.take (i + 1)) = upL bt (ts.take i) ++ [upT bt (ts.getD i (.g 0))] := by
  unfold upL
  rw [List.take_succ_eq_append_getElem h, List.map_append, List.getD_eq_getElem?_getD, List.getElem?_eq_getElem h]
  rfl
theorem upL_get {bt : Int → Int → Int} {ts : List Tr} {i m : Nat} (h : i ≤ ts.length) (hm : m < i) (hl : m < (upL bt (ts.take i)).length) : (upL bt (ts.take i))[m] = upT bt (ts.getD m (.g 0)) := by
  have e : (upL bt (ts.take i))[m]? = some (upT bt (ts.getD m (.g 0))) := by
    unfold upL
    rw [List.getElem?_map, List.getElem?_take_of_lt hm, List.getD_eq_getElem?_getD, List.getElem?_eq_getElem (by omega)]
    rfl
  rw [List.getElem?_eq_getElem hl] at e
  exact Option.some.inj e
def upI (bt : Int → Int → Int) (p : List Stp) (w : World) (vL iV : Value) (wr : World) : Prop :=
  ∃ i : Nat, iV = .int .i64 i ∧ i ≤ p.length ∧ OwnI wr w.heap.size vL (upL bt ((trees p).take i)) ∧ Below w.heap.size w wr
set_option maxRecDepth 100000 in
set_option maxHeartbeats 4000000 in
theorem upCount_any {S : Nat → Prop} {G : Int} (bt : Int → Int → Int) (a : Option Addr) (c : Nat) (p : List Stp) (w : World) (h : Steps S w a c p) (ok : okSteps G 0 p = true) (p1 : 1 ≤ p.length) (p2 : p.length ≤ 60)
    (hR : ∀ k, k < p.length → upR (upT bt ((trees p).getD k (.g 0)))) (hF : ∀ (x y : Int) (W : World), upR x → upR y → Calls Tryz.prog 82 #[.int .i64 x, .int .i64 y] W fun e w' => e = .returned (.int .i64 (bt x y)) ∧ W = w') :
    Calls Tryz.prog 81 #[.slice a p.length c, .func (.func 82) #[] #[]] w fun e w' => e = .returned (.int .i64 (upT bt ((trees p).getLastD (.g 0)))) ∧ Below w.heap.size w w' := by
  have hl := trees_len p
  obtain ⟨Z, hZ⟩ : ∃ Z, upT bt ((trees p).getLastD (.g 0)) = Z := ⟨_, rfl⟩
  have hrH := Lib.hid (show upT bt ((trees p).getD (p.length - 1) (.g 0)) = Z by rw [← last_tree p1]; exact hZ)
  rw [hZ]
  clear hZ
  have hH := Lib.hid h
  have okH := Lib.hid ok
  have hlH := Lib.hid hl
  have hRH := Lib.hid hR
  have hFH := Lib.hid hF
  clear h ok hl hR hF
  go_enter Tryz.func81, Tryz.ntmps81
  go_wp2_with fail
  go_loopw [5, 11] (fun vL iV wr => upI bt p w vL iV wr) (fun _ iV _ => p.length - (intOf iV).toNat)
  case atStart => exact ⟨0, rfl, Nat.zero_le _, .nil _ _ _ _ _, Below.refl _ _⟩
  case round =>
    obtain ⟨i, rfl, hi, hO, hB⟩ := hrel
    by_cases hlt : i < p.length
    · have ok := okH.out
      have hl := hlH.out
      have hS := hH.out.below hB
      obtain ⟨bp, off, hae, -, r0, r1, r2⟩ := Sl.stp hS i hlt
      have hright := okS_get p 0 i hlt ok
      rw [Nat.zero_add] at hright
      have htr := trees_at ok i hlt
      have hsucc := upL_succ (bt := bt) (ts := trees p) (i := i) (by omega)
      have hRi := hRH.out i hlt
      obtain ⟨x, hxe⟩ : ∃ x, p[i] = x := ⟨_, rfl⟩
      rw [hxe] at r0 r1 r2 hright htr
      obtain ⟨x1, x2, x3⟩ := x
      simp only at r0 r1 r2
      obtain ⟨W0, hW0⟩ : ∃ W0, wr.alloc (.cells #[.int .i64 x1, .int .i64 x2, .int .i64 x3] 79) = W0 := ⟨_, rfl⟩
      have hb2 : Below wr.heap.size wr W0 := by rw [← hW0]; exact below1 wr _
      have hX : W0.heap[wr.heap.size]? = some (.cells #[.int .i64 x1, .int .i64 x2, .int .i64 x3] 79 (0, 0)) := by rw [← hW0]; exact heap_alloc_new wr _
      obtain ⟨q1, q2, q3⟩ : W0.cell? ⟨wr.heap.size, 0, none⟩ = some (.int .i64 x1) ∧ W0.cell? ⟨wr.heap.size, 1, none⟩ = some (.int .i64 x2) ∧ W0.cell? ⟨wr.heap.size, 2, none⟩ = some (.int .i64 x3) := by simp [World.cell?, hX]
      have hO0 := OwnL.call hO hb2
      have hlen := upL_len bt (trees p) i (by omega)
      have hB0 := bcall hB hb2
      have hpush : ∀ (W : World) (y : Int), Below W0.heap.size W0 W → y = upT bt ((trees p).getD i (.g 0)) → ∃ v' W', RowKit.Hid ((Builtin.append_ #[33, 33] 33 #[u5, .slice (some ⟨W.heap.size, 0, none⟩) 1 1]).run Tryz.prog (W.alloc (.cells #[.int .i64 y] 3)) = .ok v' W') ∧ RowKit.Hid (upI bt p w v' (.int .i64 ((i : Int) + 1)) W') := by
        intro W y hW hy
        have hyr : inRange y := by rw [hy]; unfold upR at hRi; unfold inRange; omega
        obtain ⟨v', W', hrun, ho, hg, -⟩ := OwnL.push (P := Tryz.prog) (t := 33) (ty := 33) (OwnL.call hO0 hW) Tryz.underlying33 infoInt rfl (vs := [.int .i64 y]) (x := y) ⟨rfl, hyr⟩ (by omega) (by unfold big; omega) (by have := hB0.size; have := hW.size; omega)
        subst hy
        rw [← hsucc] at ho
        exact ⟨v', W', Lib.hid hrun, Lib.hid ⟨i + 1, by go_num, by omega, ho, (bcall hB0 hW).grown hg (by have := hB0.size; have := hW.size; omega) (fun k e => (OwnL.lt hO0 k e).1)⟩⟩
      have hpushH := Lib.hid hpush
      subst hae
      by_cases h1 : x1 = 1
      · subst h1
        have hy : (1 : Int) = upT bt ((trees p).getD i (.g 0)) := by rw [htr]; unfold trS; simp [upT]
        obtain ⟨v', W', k1, k2⟩ := hpush W0 1 (Below.refl _ _) hy
        have rrun := k1.out
        clear hpush hpushH hO hB hS hright htr hsucc hxe hb2 hX hO0 hB0 k1 hy hRi
        go_wp2_with (at_builtin; refine wpList_append_run rfl _ _ _ rfl rfl rfl rrun ?_)
        all_goals go_roundw
        all_goals first | exact k2.out | (simp [intOf]; omega)
      · obtain ⟨d0, d1, d2, d3, d4⟩ := rightB_detach hright (by simpa using h1)
        simp only at d0 d1 d2 d3 d4
        subst d0
        obtain ⟨m, rfl⟩ : ∃ m : Nat, x2 = m := ⟨x2.toNat, by omega⟩
        obtain ⟨k, rfl⟩ : ∃ k : Nat, x3 = k := ⟨x3.toNat, by omega⟩
        obtain ⟨aL, cL, hvL, hI⟩ := OwnI.ints hO0
        obtain ⟨bl, ol, ha1, -, z1, -⟩ := hI.int m (by omega)
        obtain ⟨bl2, ol2, ha2, -, z2, -⟩ := hI.int k (by omega)
        subst ha1
        cases ha2
        rw [upL_get (by omega) (by omega)] at z1 z2
        rw [hlen] at hvL
        have hA1 := hRH.out m (by omega)
        have hB1 := hRH.out k (by omega)
        have hy : bt (upT bt ((trees p).getD m (.g 0))) (upT bt ((trees p).getD k (.g 0))) = upT bt ((trees p).getD i (.g 0)) := by
          rw [htr]
          unfold trS
          rw [if_pos rfl]
          rfl
        obtain ⟨A, hA⟩ : ∃ A, upT bt ((trees p).getD m (.g 0)) = A := ⟨_, rfl⟩
        obtain ⟨B, hB'⟩ : ∃ B, upT bt ((trees p).getD k (.g 0)) = B := ⟨_, rfl⟩
        rw [hA] at z1 hy hA1
        rw [hB'] at z2 hy hB1
        obtain ⟨Y, hY⟩ : ∃ Y, bt A B = Y := ⟨_, rfl⟩
        have ccH := Lib.hid (fun W => hFH.out A B W hA1 hB1)
        rw [hY] at hy ccH
        have hyH := Lib.hid hy
        subst hvL
        clear hpush hO hB hS hright htr hsucc hxe hb2 hX hO0 hB0 hy hA hB' hI hlen h1 hRi hY hA1 hB1
        go_wp2_with fail
        try rw [hW0]
        go_quiet ((go_at_call 82; exact quiet_left (ccH.out _)))
        obtain ⟨W5, hW5⟩ : ∃ W, W0.drewN nq = W := ⟨_, rfl⟩
        have hb5 : Below W0.heap.size W0 W5 := by rw [← hW5]; exact below_drewN (Below.refl _ _) nq
        rw [hW5]
        obtain ⟨v', W', k1, k2⟩ := hpushH.out W5 Y hb5 hyH.out
        have rrun := k1.out
        clear hpushH hb5 hW5 k1 z1 z2 q1 q2 q3
        go_wp2_with (at_builtin; refine wpList_append_run rfl _ _ _ rfl rfl rfl rrun ?_)
        all_goals go_roundw
        all_goals first | exact k2.out | (simp [intOf]; omega)
    · obtain rfl : i = p.length := by omega
      obtain ⟨n, hn⟩ : ∃ n, p.length = n + 1 := ⟨p.length - 1, by omega⟩
      have hrr := hrH.out
      obtain ⟨aL, cL, hvL, hI⟩ := OwnI.ints hO
      rw [upL_len _ _ _ (by rw [hlH.out]; exact Nat.le_refl _)] at hvL
      obtain ⟨bl, ol, ha1, -, z1, -⟩ := hI.int n (by rw [upL_len _ _ _ (by rw [hlH.out]; exact Nat.le_refl _)]; omega)
      rw [upL_get (by rw [hlH.out]; exact Nat.le_refl _) (by omega)] at z1
      rw [hn, Nat.add_sub_cancel] at hrr
      rw [hrr] at z1
      have hBH := Lib.hid hB
      have hn60 : n ≤ 60 := by omega
      subst ha1
      rw [hn] at hvL
      subst hvL
      clear hrr hO hB hI
      go_wp2_with fail
      all_goals go_ret
      all_goals exact ⟨rfl, hBH.out⟩
set_option maxRecDepth 100000 in
set_option maxHeartbeats 4000000 in
theorem upHeight_any {S : Nat → Prop} {G : Int} (bt : Int → Int → Int) (a : Option Addr) (c : Nat) (p : List Stp) (w : World) (h : Steps S w a c p) (ok : okSteps G 0 p = true) (p1 : 1 ≤ p.length) (p2 : p.length ≤ 60)
    (hR : ∀ k, k < p.length → upR (upT bt ((trees p).getD k (.g 0)))) (hF : ∀ (x y : Int) (W : World), upR x → upR y → Calls Tryz.prog 83 #[.int .i64 x, .int .i64 y] W fun e w' => e = .returned (.int .i64 (bt x y)) ∧ W = w') :
    Calls Tryz.prog 81 #[.slice a p.length c, .func (.func 83) #[] #[]] w fun e w' => e = .returned (.int .i64 (upT bt ((trees p).getLastD (.g 0)))) ∧ Below w.heap.size w w' := by
  have hl := trees_len p
  obtain ⟨Z, hZ⟩ : ∃ Z, upT bt ((trees p).getLastD (.g 0)) = Z := ⟨_, rfl⟩
  have hrH := Lib.hid (show upT bt ((trees p).getD (p.length - 1) (.g 0)) = Z by rw [← last_tree p1]; exact hZ)
  rw [hZ]
  clear hZ
  have hH := Lib.hid h
  have okH := Lib.hid ok
  have hlH := Lib.hid hl
  have hRH := Lib.hid hR
  have hFH := Lib.hid hF
  clear h ok hl hR hF
  go_enter Tryz.func81, Tryz.ntmps81
  go_wp2_with fail
  go_loopw [5, 11] (fun vL iV wr => upI bt p w vL iV wr) (fun _ iV _ => p.length - (intOf iV).toNat)
  case atStart => exact ⟨0, rfl, Nat.zero_le _, .nil _ _ _ _ _, Below.refl _ _⟩
  case round =>
    obtain ⟨i, rfl, hi, hO, hB⟩ := hrel
    by_cases hlt : i < p.length
    · have ok := okH.out
      have hl := hlH.out
      have hS := hH.out.below hB
      obtain ⟨bp, off, hae, -, r0, r1, r2⟩ := Sl.stp hS i hlt
      have hright := okS_get p 0 i hlt ok
      rw [Nat.zero_add] at hright
      have htr := trees_at ok i hlt
      have hsucc := upL_succ (bt := bt) (ts := trees p) (i := i) (by omega)
      have hRi := hRH.out i hlt
      obtain ⟨x, hxe⟩ : ∃ x, p[i] = x := ⟨_, rfl⟩
      rw [hxe] at r0 r1 r2 hright htr
      obtain ⟨x1, x2, x3⟩ := x
      simp only at r0 r1 r2
      obtain ⟨W0, hW0⟩ : ∃ W0, wr.alloc (.cells #[.int .i64 x1, .int .i64 x2, .int .i64 x3] 79) = W0 := ⟨_, rfl⟩
      have hb2 : Below wr.heap.size wr W0 := by rw [← hW0]; exact below1 wr _
      have hX : W0.heap[wr.heap.size]? = some (.cells #[.int .i64 x1, .int .i64 x2, .int .i64 x3] 79 (0, 0)) := by rw [← hW0]; exact heap_alloc_new wr _
      obtain ⟨q1, q2, q3⟩ : W0.cell? ⟨wr.heap.size, 0, none⟩ = some (.int .i64 x1) ∧ W0.cell? ⟨wr.heap.size, 1, none⟩ = some (.int .i64 x2) ∧ W0.cell? ⟨wr.heap.size, 2, none⟩ = some (.int .i64 x3) := by simp [World.cell?, hX]
      have hO0 := OwnL.call hO hb2
      have hlen := upL_len bt (trees p) i (by omega)
      have hB0 := bcall hB hb2
      have hpush : ∀ (W : World) (y : Int), Below W0.heap.size W0 W → y = upT bt ((trees p).getD i (.g 0)) → ∃ v' W', RowKit.Hid ((Builtin.append_ #[33, 33] 33 #[u5, .slice (some ⟨W.heap.size, 0, none⟩) 1 1]).run Tryz.prog (W.alloc (.cells #[.int .i64 y] 3)) = .ok v' W') ∧ RowKit.Hid (upI bt p w v' (.int .i64 ((i : Int) + 1)) W') := by
        intro W y hW hy
        have hyr : inRange y := by rw [hy]; unfold upR at hRi; unfold inRange; omega
        obtain ⟨v', W', hrun, ho, hg, -⟩ := OwnL.push (P := Tryz.prog) (t := 33) (ty := 33) (OwnL.call hO0 hW) Tryz.underlying33 infoInt rfl (vs := [.int .i64 y]) (x := y) ⟨rfl, hyr⟩ (by omega) (by unfold big; omega) (by have := hB0.size; have := hW.size; omega)
        subst hy
        rw [← hsucc] at ho
        exact ⟨v', W', Lib.hid hrun, Lib.hid ⟨i + 1, by go_num, by omega, ho, (bcall hB0 hW).grown hg (by have := hB0.size; have := hW.size; omega) (fun k e => (OwnL.lt hO0 k e).1)⟩⟩
      have hpushH := Lib.hid hpush
      subst hae
      by_cases h1 : x1 = 1
      · subst h1
        have hy : (1 : Int) = upT bt ((trees p).getD i (.g 0)) := by rw [htr]; unfold trS; simp [upT]
        obtain ⟨v', W', k1, k2⟩ := hpush W0 1 (Below.refl _ _) hy
        have rrun := k1.out
        clear hpush hpushH hO hB hS hright htr hsucc hxe hb2 hX hO0 hB0 k1 hy hRi
        go_wp2_with (at_builtin; refine wpList_append_run rfl _ _ _ rfl rfl rfl rrun ?_)
        all_goals go_roundw
        all_goals first | exact k2.out | (simp [intOf]; omega)
      · obtain ⟨d0, d1, d2, d3, d4⟩ := rightB_detach hright (by simpa using h1)
        simp only at d0 d1 d2 d3 d4
        subst d0
        obtain ⟨m, rfl⟩ : ∃ m : Nat, x2 = m := ⟨x2.toNat, by omega⟩
        obtain ⟨k, rfl⟩ : ∃ k : Nat, x3 = k := ⟨x3.toNat, by omega⟩
        obtain ⟨aL, cL, hvL, hI⟩ := OwnI.ints hO0
        obtain ⟨bl, ol, ha1, -, z1, -⟩ := hI.int m (by omega)
        obtain ⟨bl2, ol2, ha2, -, z2, -⟩ := hI.int k (by omega)
        subst ha1
        cases ha2
        rw [upL_get (by omega) (by omega)] at z1 z2
        rw [hlen] at hvL
        have hA1 := hRH.out m (by omega)
        have hB1 := hRH.out k (by omega)
        have hy : bt (upT bt ((trees p).getD m (.g 0))) (upT bt ((trees p).getD k (.g 0))) = upT bt ((trees p).getD i (.g 0)) := by
          rw [htr]
          unfold trS
          rw [if_pos rfl]
          rfl
        obtain ⟨A, hA⟩ : ∃ A, upT bt ((trees p).getD m (.g 0)) = A := ⟨_, rfl⟩
        obtain ⟨B, hB'⟩ : ∃ B, upT bt ((trees p).getD k (.g 0)) = B := ⟨_, rfl⟩
        rw [hA] at z1 hy hA1
        rw [hB'] at z2 hy hB1
        obtain ⟨Y, hY⟩ : ∃ Y, bt A B = Y := ⟨_, rfl⟩
        have ccH := Lib.hid (fun W => hFH.out A B W hA1 hB1)
        rw [hY] at hy ccH
        have hyH := Lib.hid hy
        subst hvL
        clear hpush hO hB hS hright htr hsucc hxe hb2 hX hO0 hB0 hy hA hB' hI hlen h1 hRi hY hA1 hB1
        go_wp2_with fail
        try rw [hW0]
        go_quiet ((go_at_call 83; exact quiet_left (ccH.out _)))
        obtain ⟨W5, hW5⟩ : ∃ W, W0.drewN nq = W := ⟨_, rfl⟩
        have hb5 : Below W0.heap.size W0 W5 := by rw [← hW5]; exact below_drewN (Below.refl _ _) nq
        rw [hW5]
        obtain ⟨v', W', k1, k2⟩ := hpushH.out W5 Y hb5 hyH.out
        have rrun := k1.out
        clear hpushH hb5 hW5 k1 z1 z2 q1 q2 q3
        go_wp2_with (at_builtin; refine wpList_append_run rfl _ _ _ rfl rfl rfl rrun ?_)
        all_goals go_roundw
        all_goals first | exact k2.out | (simp [intOf]; omega)
    · obtain rfl : i = p.length := by omega
      obtain ⟨n, hn⟩ : ∃ n, p.length = n + 1 := ⟨p.length - 1, by omega⟩
      have hrr := hrH.out
      obtain ⟨aL, cL, hvL, hI⟩ := OwnI.ints hO
      rw [upL_len _ _ _ (by rw [hlH.out]; exact Nat.le_refl _)] at hvL
      obtain ⟨bl, ol, ha1, -, z1, -⟩ := hI.int n (by rw [upL_len _ _ _ (by rw [hlH.out]; exact Nat.le_refl _)]; omega)
      rw [upL_get (by rw [hlH.out]; exact Nat.le_refl _) (by omega)] at z1
      rw [hn, Nat.add_sub_cancel] at hrr
      rw [hrr] at z1
      have hBH := Lib.hid hB
      have hn60 : n ≤ 60 := by omega
      subst ha1
      rw [hn] at hvL
      subst hvL
      clear hrr hO hB hI
      go_wp2_with fail
      all_goals go_ret
      all_goals exact ⟨rfl, hBH.out⟩

def cntF (x y : Int) : Int := min (x + y + 1) 1000000000000001
def hgtF (x y : Int) : Int := max x y + 1
theorem cntF_R (t : Tr) : upR (upT cntF t) := by
  induction t with
  | g n => unfold upR; simp [upT]
  | d a b iha ihb => unfold upR at *; simp only [upT, cntF]; omega
theorem cntF_eq (t : Tr) (h : cntT t ≤ 1000000) : upT cntF t = cntT t := by
  induction t with
  | g n => rfl
  | d a b iha ihb =>
    simp only [cntT] at h
    rw [upT, iha (by omega), ihb (by omega), cntT]
    unfold cntF; omega
theorem hgtF_eq (t : Tr) : upT hgtF t = hgtT t := by
  induction t with
  | g n => rfl
  | d a b iha ihb => rw [upT, iha, ihb, hgtT]; unfold hgtF; omega
theorem hgt_lt {G : Int} {p : List Stp} (ok : okSteps G 0 p = true) : ∀ (k : Nat) (_ : k < p.length), hgtT ((trees p).getD k (.g 0)) ≤ k + 1 := by
  intro k
  induction k using Nat.strongRecOn with
  | ind k ih =>
  intro hk
  rw [trees_at ok k hk]
  unfold trS
  by_cases h2 : p[k].1 = 2
  · obtain ⟨l1, l2⟩ := ok_less ok hk h2
    rw [if_pos h2, hgtT]
    have i1 := ih _ l1 (by omega)
    have i2 := ih _ l2 (by omega)
    omega
  · rw [if_neg h2]; simp [hgtT]
set_option maxRecDepth 100000 in
theorem cntF_any (x y : Int) (W : World) (hx : upR x) (hy : upR y) : Calls Tryz.prog 82 #[.int .i64 x, .int .i64 y] W fun e w' => e = .returned (.int .i64 (cntF x y)) ∧ W = w' := by
  unfold upR at hx hy
  go_enter Tryz.func82, Tryz.ntmps82
  go_wp2
  all_goals go_ret
  all_goals refine ⟨congrArg (fun z => Ending.returned (Value.int .i64 z)) ?_, rfl⟩
  all_goals unfold cntF
  all_goals omega
set_option maxRecDepth 100000 in
theorem hgtF_any (x y : Int) (W : World) (hx : upR x) (hy : upR y) : Calls Tryz.prog 83 #[.int .i64 x, .int .i64 y] W fun e w' => e = .returned (.int .i64 (hgtF x y)) ∧ W = w' := by
  unfold upR at hx hy
  go_enter Tryz.func83, Tryz.ntmps83
  go_wp2
  all_goals go_ret
  all_goals refine ⟨congrArg (fun z => Ending.returned (Value.int .i64 z)) ?_, rfl⟩
  all_goals unfold hgtF
  all_goals omega
end Go.Proofs.YtfcbdlfanmddbaaGreatDoor

/- Walks: kernel.Count, kernel.Height. -/
namespace Go.Proofs.YtfcbdlfanmddbaaGreatDoor
open Go Go.RowKit

def pcntE (G : Int) (p : List Stp) : Int × Int := if proofB G p = true then (if 1000000000000000 < upT cntF ((trees p).getLastD (.g 0)) then (0, 4) else (upT cntF ((trees p).getLastD (.g 0)), 0)) else (0, 1)
def hgtE (G : Int) (p : List Stp) : Int × Int := if proofB G p = true then (upT hgtF ((trees p).getLastD (.g 0)), 0) else (0, 1)
theorem proofB_all {G : Int} {p : List Stp} (h : proofB G p = true) : 1 ≤ p.length ∧ p.length ≤ 60 ∧ okSteps G 0 p = true := by
  simp only [proofB, validP, Bool.and_eq_true, decide_eq_true_eq] at h
  exact ⟨h.2.2.1, h.2.2.2, h.2.1⟩
set_option maxRecDepth 100000 in
theorem Count_any {S : Nat → Prop} (G : Int) (a : Option Addr) (c : Nat) (p : List Stp) (w : World) (h : Steps S w a c p) :
    Calls Tryz.prog 34 #[.int .i64 G, .slice a p.length c] w fun e w' => e = .returned (.tuple #[.int .i64 (pcntE G p).1, .int .i64 (pcntE G p).2]) ∧ Below w.heap.size w w' := by
  have v1 := ValidProof_any G a c p w h
  cases hv : proofB G p with
  | false =>
    rw [hv] at v1
    have v1H := Lib.hid v1
    have hrH := Lib.hid (show pcntE G p = (0, 1) by unfold pcntE; rw [hv]; rfl)
    clear v1 h hv
    go_enter Tryz.func34, Tryz.ntmps34
    go_wp2_with fail
    refine v1H.out.mono ?_
    rintro e w1 ⟨rfl, hb1⟩
    go_wp2_with fail
    go_ret2
    rw [hrH.out]
    exact ⟨rfl, hb1⟩
  | true =>
    rw [hv] at v1
    obtain ⟨p1, p2, ok⟩ := proofB_all hv
    have vu := fun W (hb : Below w.heap.size w W) => upCount_any cntF a c p W (h.below hb) ok p1 p2 (fun k _ => cntF_R _) cntF_any
    have hr : pcntE G p = if 1000000000000000 < upT cntF ((trees p).getLastD (.g 0)) then (0, 4) else (upT cntF ((trees p).getLastD (.g 0)), 0) := by unfold pcntE; rw [if_pos hv]
    obtain ⟨Z, hZ⟩ : ∃ Z, upT cntF ((trees p).getLastD (.g 0)) = Z := ⟨_, rfl⟩
    rw [hZ] at vu hr
    have v1H := Lib.hid v1
    have vuH := Lib.hid vu
    clear v1 h hv vu ok hZ
    by_cases hz : 1000000000000000 < Z
    · rw [if_pos hz] at hr
      have hrH := Lib.hid hr
      clear hr
      go_enter Tryz.func34, Tryz.ntmps34
      go_wp2_with fail
      refine v1H.out.mono ?_
      rintro e w1 ⟨rfl, hb1⟩
      go_wp2_with fail
      refine (vuH.out _ hb1).mono ?_
      rintro e w2 ⟨rfl, hb2⟩
      go_wp2_with fail
      go_ret2
      rw [hrH.out]
      exact ⟨rfl, bcall hb1 hb2⟩
    · rw [if_neg hz] at hr
      have hrH := Lib.hid hr
      clear hr
      go_enter Tryz.func34, Tryz.ntmps34
      go_wp2_with fail
      refine v1H.out.mono ?_
      rintro e w1 ⟨rfl, hb1⟩
      go_wp2_with fail
      refine (vuH.out _ hb1).mono ?_
      rintro e w2 ⟨rfl, hb2⟩
      go_wp2_with fail
      go_ret2
      rw [hrH.out]
      exact ⟨rfl, bcall hb1 hb2⟩
set_option maxRecDepth 100000 in
theorem Height_any {S : Nat → Prop} (G : Int) (a : Option Addr) (c : Nat) (p : List Stp) (w : World) (h : Steps S w a c p) :
    Calls Tryz.prog 35 #[.int .i64 G, .slice a p.length c] w fun e w' => e = .returned (.tuple #[.int .i64 (hgtE G p).1, .int .i64 (hgtE G p).2]) ∧ Below w.heap.size w w' := by
  have v1 := ValidProof_any G a c p w h
  cases hv : proofB G p with
  | false =>
    rw [hv] at v1
    have v1H := Lib.hid v1
    have hrH := Lib.hid (show hgtE G p = (0, 1) by unfold hgtE; rw [hv]; rfl)
    clear v1 h hv
    go_enter Tryz.func35, Tryz.ntmps35
    go_wp2_with fail
    refine v1H.out.mono ?_
    rintro e w1 ⟨rfl, hb1⟩
    go_wp2_with fail
    go_ret2
    rw [hrH.out]
    exact ⟨rfl, hb1⟩
  | true =>
    rw [hv] at v1
    obtain ⟨p1, p2, ok⟩ := proofB_all hv
    have vu := fun W (hb : Below w.heap.size w W) => upHeight_any hgtF a c p W (h.below hb) ok p1 p2 (fun k hk => by have := hgt_lt ok k hk; rw [hgtF_eq]; unfold upR; omega) hgtF_any
    have hr : hgtE G p = (upT hgtF ((trees p).getLastD (.g 0)), 0) := by unfold hgtE; rw [if_pos hv]
    obtain ⟨Z, hZ⟩ : ∃ Z, upT hgtF ((trees p).getLastD (.g 0)) = Z := ⟨_, rfl⟩
    rw [hZ] at vu hr
    have v1H := Lib.hid v1
    have vuH := Lib.hid vu
    have hrH := Lib.hid hr
    clear v1 h hv vu ok hZ hr
    go_enter Tryz.func35, Tryz.ntmps35
    go_wp2_with fail
    refine v1H.out.mono ?_
    rintro e w1 ⟨rfl, hb1⟩
    go_wp2_with fail
    refine (vuH.out _ hb1).mono ?_
    rintro e w2 ⟨rfl, hb2⟩
    go_wp2_with fail
    go_ret2
    rw [hrH.out]
    exact ⟨rfl, bcall hb1 hb2⟩
end Go.Proofs.YtfcbdlfanmddbaaGreatDoor

/- Lists of bools of a call's own; lists made of zeros. -/
namespace Go.Proofs.YtfcbdlfanmddbaaGreatDoor
open Go Go.RowKit

def boolE : Enc Bool where
  size := 1
  pos := by decide
  R _ _ vs x := vs = [.bool x]
  len h := by rw [h]; rfl
  one h := by rw [h]; simp [Value.oneCell']
  mono h _ _ := h
abbrev OwnB (w : World) (base : Nat) (v : Value) (l : List Bool) : Prop := OwnL boolE (fun _ => False) w base 4 v l
section
variable {w : World} {base : Nat} {v : Value} {l : List Bool}
theorem bools_rows {xs : List (List Value)} {T : Nat → Prop} (hl : xs.length = l.length) (hx : ∀ i (h1 : i < xs.length) (h2 : i < l.length), boolE.R T w xs[i] l[i]) : xs = l.map (fun x => [.bool x]) := by
  apply List.ext_getElem (by simpa using hl)
  intro i h1 h2
  rw [List.getElem_map]
  exact hx i h1 (by omega)
theorem flatten_singleB (l : List Bool) : (l.map (fun x => [Value.bool x])).flatten = l.map Value.bool := by
  induction l with
  | nil => rfl
  | cons x r ih => simp [ih]
theorem OwnB.row (h : OwnB w base v l) : w.ownsRow base 4 1 v l.length (l.map Value.bool) := by
  obtain ⟨xs, ho, hl, hx⟩ := h
  obtain rfl := bools_rows hl hx
  rw [flatten_singleB] at ho
  exact ho
theorem OwnB.of_row (h : w.ownsRow base 4 1 v l.length (l.map Value.bool)) : OwnB w base v l :=
  ⟨l.map (fun x => [.bool x]), by rw [flatten_singleB]; exact h, by simp, fun i h1 h2 => by simp [boolE]⟩
theorem OwnB.bools (h : OwnB w base v l) : ∃ a c, v = .slice a l.length c ∧ Sl boolE (fun b => base ≤ b) w a c l := by
  obtain ⟨a, c, rfl, hI⟩ := OwnL.sl h
  exact ⟨a, c, rfl, hI.weak (fun b hb => hb.elim id False.elim)⟩
theorem Sl.bool {S : Nat → Prop} {a : Option Addr} {c : Nat} (h : Sl boolE S w a c l) (i : Nat) (hi : i < l.length) : ∃ b off, a = some ⟨b, off, none⟩ ∧ S b ∧ w.cell? ⟨b, off + i, none⟩ = some (.bool l[i]) := by
  obtain ⟨b, off, ha, hb, _, vs, _, hv, hr⟩ := h.at1 i hi
  have hr' : vs = [.bool l[i]] := hr
  subst hr'
  have := hv 0 (by simp)
  simp [boolE] at this
  exact ⟨b, off, ha, hb, this⟩
theorem OwnB.cell {g cap n : Nat} (h : OwnB w base (.slice (some ⟨g, 0, none⟩) n cap) l) (hn : n = l.length) (i : Nat) (hi : i < l.length) : w.cell? ⟨g, i, none⟩ = some (.bool l[i]) ∧ w.frozen? ⟨g, i, none⟩ = false := by
  subst hn
  have ho := h.row
  exact ⟨by rw [ho.cellAt i (by omega)]; simp [hi], ho.frozenAt i⟩
theorem OwnB.set {g cap n : Nat} (h : OwnB w base (.slice (some ⟨g, 0, none⟩) n cap) l) (hn : n = l.length) (i : Nat) (x : Bool) :
    OwnB (w.setCell ⟨g, i, none⟩ (.bool x)) base (.slice (some ⟨g, 0, none⟩) n cap) (l.set i x) ∧ w.grownBy (w.setCell ⟨g, i, none⟩ (.bool x)) (some g) := by
  subst hn
  obtain ⟨h1, h2⟩ := h.row.stored i (.bool x)
  exact ⟨.of_row (by rw [List.length_set, List.map_set]; exact h1), h2⟩
theorem OwnB.lit (w : World) (l : List Bool) (hl : l.length ≤ maxLen) : OwnB (w.alloc (.cells (l.map Value.bool).toArray 4)) w.heap.size (.slice (some ⟨w.heap.size, 0, none⟩) l.length l.length) l :=
  .of_row (by have := World.ownsRow_lit (e := 4) (size := 1) w (l.map Value.bool).toArray l.length (Nat.le_refl _) hl (by simp); simpa using this)
end
theorem infoBool : (Tryz.prog.info? 4).map (fun i => (i.zero, i.size, i.bytes)) = some (some (.bool false), 1, 1) := by kernel_rfl
theorem makeFalse {W : World} (n : Nat) (hn : n ≤ 100) : (Instr.makeSlice 98 (.int .i64 (n : Int)) (.int .i64 (n : Int))).run Tryz.prog W = .ok (.slice (some ⟨W.heap.size, 0, none⟩) n n) (W.alloc (.cells (Array.replicate n (.bool false)) 4)) := by
  obtain ⟨i, hi, hz0, hz1, hz2⟩ := info_parts infoBool
  have := run_make (P := Tryz.prog) W 98 4 i (.bool false) Tryz.underlying98 hi hz0 .i64 .i64 n n (by omega) (by omega) (by rw [hz2]; omega) (by omega)
  rw [this, hz1, Int.toNat_natCast, Nat.mul_one]
  have hm : madeCells (Value.bool false).cells n = Array.replicate n (.bool false) := by
    apply Array.ext
    · simp [madeCells]
    · intro i h1 h2; simp [madeCells, Value.cells, Nat.mod_one]
  rw [hm]
theorem OwnB.made (w : World) (n : Nat) (hn : n ≤ 100) : OwnB (w.alloc (.cells (Array.replicate n (.bool false)) 4)) w.heap.size (.slice (some ⟨w.heap.size, 0, none⟩) n n) (List.replicate n false) := by
  have h := OwnB.lit w (List.replicate n false) (by rw [List.length_replicate]; unfold maxLen; omega)
  rw [List.length_replicate, List.map_replicate, List.toArray_replicate] at h
  exact h
def retB (w : World) (l : List Bool) (e : Ending) (w' : World) : Prop := ∃ v, e = .returned v ∧ OwnB w' w.heap.size v l ∧ Below w.heap.size w w'
/-- the flags while needed goes down -/
def ndRel (p : List Stp) (w : World) (iV : Value) (wr : World) : Prop :=
  ∃ (k : Nat) (f : List Bool), iV = .int .i64 ((k : Int) - 1) ∧ k ≤ p.length ∧ f.length = p.length ∧ OwnB wr w.heap.size (.slice (some ⟨w.heap.size, 0, none⟩) p.length p.length) f ∧ ndGo p k f = ndL p ∧ Below w.heap.size w wr
theorem ndSt_no {f : List Bool} {x : Stp} {is : Bool} (h : is = false ∨ x.1 ≠ 2) : ndSt f x is = f := by
  unfold ndSt
  rw [if_neg]
  rintro ⟨h1, h2⟩
  rcases h with h | h
  · rw [h] at h1; cases h1
  · exact h h2
theorem ndSt_yes {f : List Bool} {x : Stp} (h : x.1 = 2) : ndSt f x true = (f.set x.2.1.toNat true).set x.2.2.toNat true := by
  unfold ndSt
  rw [if_pos ⟨rfl, h⟩]
end Go.Proofs.YtfcbdlfanmddbaaGreatDoor

/- Walks: slices.Backward at steps. -/
namespace Go.Proofs.YtfcbdlfanmddbaaGreatDoor
open Go Go.RowKit Go.Shelf

attribute [local go_sem] Oper.semAt_some

/-- an index with its step -/
structure Bk where
  i : Nat
  x : Stp
def Bk.enc (b : Bk) : Array Value := #[.int .i64 b.i, stpV b.x]
/-- the first k steps, the last one first -/
def bkL (p : List Stp) : Nat → List Bk
  | 0 => []
  | k + 1 => ⟨k, p.getD k (0, 0, 0)⟩ :: bkL p k
theorem bkL_len (p : List Stp) : ∀ k, (bkL p k).length = k
  | 0 => rfl
  | k + 1 => by rw [bkL, List.length_cons, bkL_len p k]
def BkR (p : List Stp) (b : Bk) (_ : World) : Prop := b.i < p.length ∧ b.x = p.getD b.i (0, 0, 0)
/-- all cells but those of one block stand -/
def KpN (g : Nat) (W W' : World) : Prop := ∀ b, b ≠ g → CellsAt W b → W'.heap[b]? = W.heap[b]?
theorem KpN.refl (g : Nat) (W : World) : KpN g W W := fun _ _ _ => rfl
theorem KpN.trans {g : Nat} {A B C : World} (h : KpN g A B) (k : KpN g B C) : KpN g A C := fun b hb hc => (k b hb (hc.same (h b hb hc))).trans (h b hb hc)
theorem KpN.putObj {g : Nat} (W : World) (l : Nat) (o o' : Obj) (h : W.heap[l]? = some o) (hc : o.isCells = false) : KpN g W (W.putObj l o') := fun b _ hb => World.putObj_heap_other (fun e => by
  obtain ⟨o2, h2, h3⟩ := hb
  subst e
  rw [h] at h2; cases h2; rw [hc] at h3; cases h3)
theorem KpN.of_below {g : Nat} {W W' : World} (h : Below W.heap.size W W') : KpN g W W' := fun b _ hb => h.block b hb.lt
theorem KpN.cell {g : Nat} {W W' : World} (h : KpN g W W') {b off : Nat} (hb : b ≠ g) {v : Value} (hc : W.cell? ⟨b, off, none⟩ = some v) : W'.cell? ⟨b, off, none⟩ = some v :=
  (World.cell?_of_block (w := W) (h b hb (.of_cell hc))).trans hc
theorem KpN.grown {g : Nat} {W W' : World} (h : W.grownBy W' (some g)) : KpN g W W' := fun b hb hc => h.block b hc.lt (fun e => hb (by injection e))

set_option maxRecDepth 100000 in
set_option maxHeartbeats 2000000 in
theorem bwd1_in {S : Nat → Prop} (F : Fence) (n : Nat) (hf : F.fn 162) (hro : F.round = none) (hn : 1 ≤ n) (l Bs g : Nat) (a : Option Addr) (c : Nat) (p : List Stp) (hS : ∀ b, S b → b ≠ g) (hBg : Bs ≠ g) (p2 : p.length ≤ 60) (J Jx : List Bk → World → Prop)
    (hY : ∀ pre x W, J pre W → BkR p x W → pre.length < p.length → YieldAt F (n - 1) Tryz.prog l x.enc W fun e W' =>
      (e = .returned (.bool true) ∧ J (pre ++ [x]) W' ∧ KpN g W W') ∨ (e = .returned (.bool false) ∧ Jx (pre ++ [x]) W' ∧ KpN g W W'))
    (W : World) (hBs : W.cell? ⟨Bs, 0, none⟩ = some (.slice a p.length c)) (ht : Steps S W a c p) (h0 : J [] W) :
    CallsIn F n Tryz.prog 162 #[.func (.yield l) #[] #[], .pointer (some ⟨Bs, 0, none⟩)] W fun e W' => (∃ v, e = .returned v) ∧
      ((∃ ys : List Bk, ys = bkL p p.length ∧ J ys W') ∨ (∃ pre : List Bk, True ∧ Jx pre W')) := by
  have m := ht.le
  refine callsIn_of_wp Tryz.func162 rfl hf ?_ hro
  simp only [Tryz.ntmps162, List.size_toArray, List.length_cons, List.length_nil, Nat.reduceAdd, Nat.reduceSub, Array.replicate_succ, Array.replicate_zero, List.push_toArray, List.append_toArray, List.nil_append, List.cons_append]
  gi_wp2
  gi_loopw [3] (fun i wr => ∃ (k : Nat) (pre : List Bk), k ≤ p.length ∧ i = .int .i64 ((k : Int) - 1) ∧ pre ++ bkL p k = bkL p p.length ∧ J pre wr ∧ KpN g W wr)
    (fun i _ => (intOf i + 1).toNat)
  case atStart => exact ⟨p.length, [], Nat.le_refl _, rfl, rfl, h0, KpN.refl _ _⟩
  case round =>
    obtain ⟨k, pre, hk, rfl, hpre, hJs, hB⟩ := hrel
    have hpreH := Lib.hid hpre
    have qb := hB.cell hBg hBs
    cases k with
    | zero =>
      rw [bkL, List.append_nil] at hpre
      have hpH := Lib.hid hpre
      have e0 : (((0 : Nat) : Int) - 1) = -1 := rfl
      rw [e0]
      clear hpre hpreH ht hY hBs qb
      gi_wp2
      go_end0
      exact ⟨⟨_, rfl⟩, .inl ⟨_, hpH.out, hJs⟩⟩
    | succ j =>
      have ej : (((j + 1 : Nat) : Int) - 1) = (j : Int) := by omega
      rw [ej]
      obtain ⟨bp, off, hae, hSb, r0, r1, r2, -⟩ := Sl.stp ht j (by omega)
      have q0 := hB.cell (hS _ hSb) r0
      have q1 := hB.cell (hS _ hSb) r1
      have q2 := hB.cell (hS _ hSb) r2
      have hp1 : pre.length < p.length := by
        have := congrArg List.length hpre
        rw [List.length_append, bkL_len, bkL_len] at this
        omega
      have hYk := hY pre ⟨j, p.getD j (0, 0, 0)⟩ wr hJs ⟨by show j < _; omega, rfl⟩ hp1
      obtain ⟨fn, tmps, assign, body, hy, hR⟩ := hYk
      dsimp only [Bk.enc] at hy
      rw [getD_stp (by omega)] at hy
      obtain ⟨x, hxe⟩ : ∃ x, p[j] = x := ⟨_, rfl⟩
      rw [hxe] at q0 q1 q2 hy
      obtain ⟨x1, x2, x3⟩ := x
      dsimp only at q0 q1 q2 hy
      subst hae
      clear hpre ht hxe r0 r1 r2 hY hBs
      gi_wp2
      refine hR.mono ?_
      rintro e W3 (⟨rfl, hJ3, hk3⟩ | ⟨rfl, hJx3, -⟩)
      · gi_wp2
        go_roundw
        case rel => exact ⟨j, _, by omega, rfl, by have := hpreH.out; rw [bkL] at this; rw [List.append_assoc]; exact this, hJ3, hB.trans hk3⟩
        case measure => simp [intOf]
      · gi_wp2
        refine bodyPost_ret (results_none rfl _ _ _) rfl ?_
        exact ⟨⟨_, rfl⟩, .inr ⟨_, trivial, hJx3⟩⟩
set_option maxHeartbeats 1000000 in
theorem bwd_in (F : Fence) (n : Nat) (hf : F.fn 124) (hro : F.round = none) (a : Option Addr) (len c : Nat) (w : World) :
    CallsIn F n Tryz.prog 124 #[.slice a len c] w fun e w' => e = .returned (.func (.func 162) #[] #[.pointer (some ⟨w.heap.size, 0, none⟩)]) ∧ w' = w.alloc (.cells #[.slice a len c] 25) := by
  refine callsIn_of_wp Tryz.func124 rfl hf ?_ hro
  simp only [Tryz.ntmps124, List.size_toArray, List.length_cons, List.length_nil, Nat.reduceAdd, Nat.reduceSub, Array.replicate_succ, Array.replicate_zero, List.push_toArray, List.append_toArray, List.nil_append, List.cons_append]
  gi_wp2
  go_ret
  exact ⟨rfl, rfl⟩
theorem bwd_seq {S : Nat → Prop} (F : Fence) (n : Nat) (hf : F.fn 162) (hro : F.round = none) (hn : 1 ≤ n) (Bs g : Nat) (a : Option Addr) (c : Nat) (p : List Stp) (w : World) (hS : ∀ b, S b → b ≠ g) (hBg : Bs ≠ g) (p2 : p.length ≤ 60)
    (hBs : w.cell? ⟨Bs, 0, none⟩ = some (.slice a p.length c)) (ht : Steps S w a c p) :
    SeqRel F n Tryz.prog 162 #[.pointer (some ⟨Bs, 0, none⟩)] Bk.enc (BkR p) (KpN g) (fun ys => ys = bkL p p.length) (fun _ => True) p.length w := fun l J Jx W hW _ _ hY h0 =>
  bwd1_in F n hf hro hn l Bs g a c p hS hBg p2 J Jx hY W ((hW.cell (p := ⟨Bs, 0, none⟩) (World.block_lt_of_cell? _ _ hBs)).trans hBs) (ht.below hW) h0
end Go.Proofs.YtfcbdlfanmddbaaGreatDoor

/- Walks: kernel.needed, Needed. -/
namespace Go.Proofs.YtfcbdlfanmddbaaGreatDoor
open Go Go.RowKit Go.Shelf

attribute [local go_sem] Oper.semAt_some

def ndF (f : List Bool) (l : List Bk) : List Bool := l.foldl (fun f b => ndSt f b.x (f.getD b.i false)) f
theorem ndF_snoc (f : List Bool) (l : List Bk) (b : Bk) : ndF f (l ++ [b]) = ndSt (ndF f l) b.x ((ndF f l).getD b.i false) := by unfold ndF; rw [List.foldl_append]; rfl
theorem ndF_len (f : List Bool) : ∀ l : List Bk, (ndF f l).length = f.length
  | [] => rfl
  | b :: l => by
    have := ndF_len (ndSt f b.x (f.getD b.i false)) l
    rw [ndSt_len] at this
    exact this
theorem ndF_bk (p : List Stp) : ∀ (k : Nat) (f : List Bool), ndF f (bkL p k) = ndGo p k f
  | 0, _ => rfl
  | k + 1, f => by rw [bkL, ndGo]; exact ndF_bk p k _
/-- what a round of needed leaves -/
def ndI (w : World) (n : Nat) (f0 : List Bool) (g : Nat) (pre : List Bk) (W : World) : Prop :=
  OwnB W g (.slice (some ⟨g, 0, none⟩) n n) (ndF f0 pre) ∧ Boxed W (g + 1) 98 (.slice (some ⟨g, 0, none⟩) n n) ∧ Below g w W
theorem OwnB.celled {W : World} {base g n : Nat} {l : List Bool} (h : OwnB W base (.slice (some ⟨g, 0, none⟩) n n) l) : CellsAt W g := by
  obtain ⟨cur, hc⟩ := OwnL.rowCells h g rfl
  exact ⟨_, hc, rfl⟩
theorem ndI_own {w : World} {n : Nat} {f0 : List Bool} {g d : Nat} (hw : g = w.heap.size) (hd : g + 1 < d) : OwnFrom d (ndI w n f0 g) := by
  rintro pre W W' row ⟨i1, i2, i3⟩ hg hr
  refine ⟨OwnL.kept i1 (fun k hk => hg.block k (OwnL.lt i1 k hk).2 (fun e => ?_)) (fun b hb _ => hb.1.elim), i2.kept hg (fun e => ?_), i3.grown hg (by rw [hw]; exact i3.size) (fun j e => by have := (hr j e).1; omega)⟩
  · have hk' : g = k := by injection hk
    have := (hr k e.symm).1
    omega
  · have := (hr _ e.symm).1; omega
set_option maxRecDepth 100000 in
set_option maxHeartbeats 4000000 in
theorem needed_any {S : Nat → Prop} {G : Int} (a : Option Addr) (c : Nat) (p : List Stp) (w : World) (h : Steps S w a c p) (ok : okSteps G 0 p = true) (p1 : 1 ≤ p.length) (p2 : p.length ≤ 60) :
    Calls Tryz.prog 80 #[.slice a p.length c] w (retB w (ndL p)) := by
  have hH := Lib.hid h.lt
  have okH := Lib.hid ok
  have hms := fun W => makeFalse (W := W) p.length (by omega)
  obtain ⟨W0, hW0⟩ : ∃ W, w.alloc (.cells (Array.replicate p.length (.bool false)) 4) = W := ⟨_, rfl⟩
  obtain ⟨g, hg⟩ : ∃ g, w.heap.size = g := ⟨_, rfl⟩
  have hz0 : W0.heap.size = g + 1 := by rw [← hW0, World.size_alloc, hg]
  have o0 : OwnB W0 g (.slice (some ⟨g, 0, none⟩) p.length p.length) (List.replicate p.length false) := by rw [← hW0, ← hg]; exact OwnB.made w p.length (by omega)
  have b0 : Below g w W0 := by rw [← hW0, ← hg]; exact below1 w _
  obtain ⟨n, hn⟩ : ∃ n, p.length = n + 1 := ⟨p.length - 1, by omega⟩
  rw [hn] at hms hW0 o0
  rw [show ((n + 1 : Nat) : Int) = (n : Int) + 1 from rfl] at hms
  obtain ⟨W1, hW1⟩ : ∃ W, W0.alloc (.cells #[.slice (some ⟨g, 0, none⟩) (n + 1) (n + 1)] 98) = W := ⟨_, rfl⟩
  have hz1 : W1.heap.size = g + 1 + 1 := by rw [← hW1, World.size_alloc, hz0]
  have bx1 : Boxed W1 (g + 1) 98 (.slice (some ⟨g, 0, none⟩) (n + 1) (n + 1)) := by rw [← hW1, ← hz0]; exact Boxed.new W0 _ _
  have o1 := OwnL.call o0 (show Below W0.heap.size W0 W1 by rw [← hW1]; exact below1 _ _)
  have b1 : Below g w W1 := b0.trans ((show Below W0.heap.size W0 W1 by rw [← hW1]; exact below1 _ _).mono (by omega))
  obtain ⟨c1, c2⟩ := OwnB.cell o1 (by simp) n (by simp)
  obtain ⟨o2, g2⟩ := OwnB.set o1 (by simp) n true
  have bx2 := bx1.kept g2 (fun e => by injection e with e; omega)
  have b2 := b1.grown g2 (by omega) (fun k e => by cases e; exact Nat.le_refl _)
  have qx := bx1.cell
  have qx2 := bx2.cell
  obtain ⟨W2, hW2⟩ : ∃ W, W1.setCell ⟨g, n, none⟩ (.bool true) = W := ⟨_, rfl⟩
  rw [hW2] at o2 g2 bx2 b2 qx2
  have hz2 : W2.heap.size = g + 1 + 1 := by rw [← hW2]; simp [hz1]
  obtain ⟨W3, hW3⟩ : ∃ W, W2.alloc (.cells #[.slice a (n + 1) c] 25) = W := ⟨_, rfl⟩
  have hz3 : W3.heap.size = g + 1 + 1 + 1 := by rw [← hW3, World.size_alloc, hz2]
  have hb23 : Below W2.heap.size W2 W3 := by rw [← hW3]; exact below1 _ _
  have cB : W3.cell? ⟨g + 1 + 1, 0, none⟩ = some (.slice a p.length c) := by rw [← hW3, ← hz2, hn]; exact (Boxed.new W2 _ _).cell
  have b3 : Below g w W3 := b2.trans (hb23.mono (by omega))
  have hp3 : Steps (fun b => b < g) W3 a c p := ((hH.out.weak (fun b hb => by have := hb.2; omega)).below (by rw [hg]; exact b3)).weak (fun b hb => hb)
  have f0e : ((List.replicate (n + 1) false).set n true) = (List.replicate p.length false).set (p.length - 1) true := by rw [hn, Nat.add_sub_cancel]
  have hI0 : ndI w (n + 1) ((List.replicate p.length false).set (p.length - 1) true) g [] W3 := ⟨by rw [← f0e]; exact OwnL.call o2 hb23, by rw [← hW3]; exact bx2.alloc _, b3⟩
  have hseq := bwd_seq (S := fun b => b < g) Fence.wide (6 - 1) trivial rfl (by omega) (g + 1 + 1) g a c p W3 (fun b hb => by omega) (by omega) p2 cB hp3
  have hndl : ndL p = ndGo p p.length ((List.replicate p.length false).set (p.length - 1) true) := rfl
  obtain ⟨f0, hf0⟩ : ∃ f0, (List.replicate p.length false).set (p.length - 1) true = f0 := ⟨_, rfl⟩
  have hf0l : f0.length = n + 1 := by rw [← hf0, List.length_set, List.length_replicate, hn]
  rw [hf0] at hI0 hndl
  have hI0H := Lib.hid hI0
  have hndlH := Lib.hid hndl
  have hnH := Lib.hid hn
  rw [List.getElem_replicate] at c1
  have hsl : Value.slice a p.length c = .slice a (n + 1) c := by rw [hn]
  rw [hsl]
  have n60 : n < 60 := by omega
  clear h ok o0 o1 o2 b0 b1 b2 b3 g2 bx1 bx2 hb23 cB hp3 f0e hI0 hndl hf0 hsl hn p1 p2
  refine (callsIn_wide (n := 6)).1 ?_
  refine callsIn_of_wp_marks Tryz.func80 rfl trivial ?_ rfl
  simp only [Tryz.ntmps80, List.size_toArray, List.length_cons, List.length_nil, Nat.reduceAdd, Nat.reduceSub, Array.replicate_succ, Array.replicate_zero, List.push_toArray, List.append_toArray, List.nil_append, List.cons_append]
  gi_wp2_with fail
  try rw [hW0]
  gi_wp2_with fail
  try rw [hW1]
  gi_wp2_with fail
  try rw [hW2]
  gi_wp2_with fail
  refine ⟨trivial, ?_⟩
  gi_at_call 124
  refine (bwd_in Fence.wide _ trivial rfl _ _ _ _).mono ?_
  rintro e w' ⟨rfl, rfl⟩
  rw [hW3]
  gi_wp2_with fail
  clear hms hW0 hW1 hW2 c1 c2 qx qx2
  refine range_rel rfl (by omega) (gf := 162) (lb := #[.pointer (some ⟨g + 1 + 1, 0, none⟩)]) rfl trivial (enters_of Tryz.func162 (by kernel_rfl) rfl)
    hseq (fun h k => h.trans k) (fun W l o o' _ h hc _ => KpN.putObj W l o o' h hc) (Below.refl _ _) (fun _ => rfl)
    (ndI w (n + 1) f0 g) (fun _ _ _ => False) (ndI_own hg.symm (by omega)) (fun _ _ _ _ _ hs _ _ => hs) hI0H.out
    (fun x a' W => ∃ xb, g + 1 < xb ∧ W.heap[xb]? = some (.cells #[.int .i64 x.x.1, .int .i64 x.x.2.1, .int .i64 x.x.2.2] 79 (0, 0)) ∧ BkR p x W ∧ a' = { tmps := #[.slice a (n + 1) c, undef, .slice none 0 0, .pointer (some ⟨g + 1, 0, none⟩), .int .i64 x.i, .pointer (some ⟨xb, 0, none⟩), .slice a (n + 1) c, .int .i64 ((n : Int) + 1),
          .slice (some ⟨g, 0, none⟩) (n + 1) (n + 1), .slice (some ⟨g, 0, none⟩) (n + 1) (n + 1), .slice a (n + 1) c, .int .i64 ((n : Int) + 1), .int .i64 n, .pointer (some ⟨g, n, none⟩), .slice a (n + 1) c, .func (.func 162) #[] #[.pointer (some ⟨g + 1 + 1, 0, none⟩)], .int .i64 x.i, stpV x.x, undef, undef, undef, undef, undef, undef, undef, undef, undef, undef, undef, undef, undef, undef, undef, undef, undef, undef], defers := [] })
    (fun x a' => ?hAx) ?assign ?body ?done ?stop
  case hAx =>
    rintro s' A A' row ⟨xb, h1, h2, h3, h4⟩ hgr hr
    refine ⟨xb, h1, (hgr.block xb (Array.getElem?_eq_some_iff.1 h2).1 (fun e => ?_)).trans h2, h3, h4⟩
    obtain ⟨-, o, g2, g3⟩ := hr xb e.symm
    rw [h2] at g2; cases g2; cases g3
  case assign =>
    intro l pre x W K hi hr hK
    have hxl : g + 1 < W.heap.size := hi.2.1.lt
    dsimp only [Bk.enc]
    gi_wp2
    refine hK _ _ ((KeepsOthers.alloc W _).from _) (KpN.of_below (below1 W _)) (ndI_own (d := W3.heap.size) hg.symm (by omega) pre W _ none hi (World.grownBy_alloc W _ none) (fun r e => by cases e)) ⟨W.heap.size, hxl, World.alloc_heap_new W _, hr, ?_⟩
    rfl
  case body =>
    rintro l pre ⟨i, y⟩ a' W - - ⟨i1, i2, i3⟩ ⟨xb, hxb, hX, ⟨hlt, hy⟩, rfl⟩ hlen
    dsimp only at hX hlt hy ⊢
    have hright := okS_get p 0 i hlt okH.out
    rw [Nat.zero_add] at hright
    rw [getD_stp hlt] at hy
    rw [← hy] at hright
    have hsn := ndF_snoc f0 pre ⟨i, y⟩
    dsimp only at hsn
    have hfl := ndF_len f0 pre
    obtain ⟨f, hf⟩ : ∃ f, ndF f0 pre = f := ⟨_, rfl⟩
    rw [hf] at i1 hsn hfl
    have hlt' : i < n + 1 := by have := hnH.out; omega
    obtain ⟨c3, c4⟩ := i1.cell (by omega) i (by omega)
    rw [show f.getD i false = f[i]'(by omega) by rw [List.getD_eq_getElem?_getD, List.getElem?_eq_getElem (by omega)]; rfl] at hsn
    obtain ⟨is, hise⟩ : ∃ is, f[i]'(by omega) = is := ⟨_, rfl⟩
    rw [hise] at c3 hsn
    clear hy hise
    obtain ⟨y1, y2, y3⟩ := y
    dsimp only at hX
    obtain ⟨x1, x2, x3⟩ := stp_cells' hX
    have qx := i2.cell
    have hxg : xb ≠ g := by omega
    have hxg2 : xb ≠ g + 1 := by omega
    by_cases hyes : is = true ∧ y1 = 2
    · obtain ⟨rfl, rfl⟩ := hyes
      obtain ⟨-, d1, d2, d3, d4⟩ := rightB_detach hright (by simp)
      simp only at d1 d2 d3 d4
      obtain ⟨m, rfl⟩ : ∃ m : Nat, y2 = m := ⟨y2.toNat, by omega⟩
      obtain ⟨k, rfl⟩ : ∃ k : Nat, y3 = k := ⟨y3.toNat, by omega⟩
      rw [ndSt_yes rfl] at hsn
      simp only [Int.toNat_natCast] at hsn
      obtain ⟨c5, c6⟩ := i1.cell (by omega) m (by omega)
      obtain ⟨c7, c8⟩ := i1.cell (by omega) k (by omega)
      obtain ⟨o1, s1⟩ := i1.set (by omega) m true
      obtain ⟨d5, d6⟩ := o1.cell (by simp; omega) k (by simp; omega)
      obtain ⟨o3, s3⟩ := o1.set (by simp; omega) k true
      have hszg : g ≤ W.heap.size := by have := i2.lt; omega
      have b3 := (i3.grown s1 hszg (fun k e => by cases e; exact Nat.le_refl _)).grown s3 (Nat.le_trans hszg s1.size) (fun k e => by cases e; exact Nat.le_refl _)
      have hbx := (i2.kept s1 (fun e => by injection e with e; omega)).kept s3 (fun e => by injection e with e; omega)
      have qx1 := (i2.kept s1 (fun e => by injection e with e; omega)).cell
      have hb2 : Below _ _ ((W.setCell ⟨g, m, none⟩ (.bool true)).setCell ⟨g, k, none⟩ (.bool true)).drew := (Below.refl ((W.setCell ⟨g, m, none⟩ (.bool true)).setCell ⟨g, k, none⟩ (.bool true)).heap.size _).drew
      have e3 : ndI w (n + 1) f0 g (pre ++ [⟨i, (2, (m : Int), (k : Int))⟩]) ((W.setCell ⟨g, m, none⟩ (.bool true)).setCell ⟨g, k, none⟩ (.bool true)).drew := ⟨by rw [hsn]; exact OwnL.call o3 hb2, (hb2.block _ hbx.lt).trans hbx, b3.drew⟩
      have kp : KpN g W ((W.setCell ⟨g, m, none⟩ (.bool true)).setCell ⟨g, k, none⟩ (.bool true)).drew := ((KpN.grown s1).trans (KpN.grown s3)).trans (KpN.of_below hb2)
      have ko : KeepsFrom W3.heap.size W ((W.setCell ⟨g, m, none⟩ (.bool true)).setCell ⟨g, k, none⟩ (.bool true)).drew := ((KeepsOthers.setCell _ _ _).trans ((KeepsOthers.setCell _ _ _).trans (KeepsOthers.of_grownBy (row := none) (Below.grow hb2) (fun j o e => by cases e)))).from _
      have xlt := (Array.getElem?_eq_some_iff.1 hX).1
      have v1 : (W.setCell ⟨g, m, none⟩ (.bool true)).cell? ⟨xb, 1, none⟩ = some (.int .i64 m) := (World.cell?_of_block (w := W) (s1.block xb xlt (fun e => hxg (by injection e)))).trans x2
      have v2 : (W.setCell ⟨g, m, none⟩ (.bool true)).cell? ⟨xb, 2, none⟩ = some (.int .i64 k) := (World.cell?_of_block (w := W) (s1.block xb xlt (fun e => hxg (by injection e)))).trans x3
      have qx3 : ((W.setCell ⟨g, m, none⟩ (.bool true)).setCell ⟨g, k, none⟩ (.bool true)).drew.cell? ⟨g + 1, 0, none⟩ = some (.slice (some ⟨g, 0, none⟩) (n + 1) (n + 1)) := hbx.cell
      have t1 : ((W.setCell ⟨g, m, none⟩ (.bool true)).setCell ⟨g, k, none⟩ (.bool true)).drew.cell? ⟨xb, 1, none⟩ = some (.int .i64 m) := kp.cell hxg x2
      have t2 : ((W.setCell ⟨g, m, none⟩ (.bool true)).setCell ⟨g, k, none⟩ (.bool true)).drew.cell? ⟨xb, 2, none⟩ = some (.int .i64 k) := kp.cell hxg x3
      have e3H := Lib.hid e3
      have kpH := Lib.hid kp
      have koH := Lib.hid ko
      clear hright hX hsn i1 i2 i3 o1 o3 s1 s3 b3 hbx hb2 e3 kp ko xlt hf
      have hm1 : ((m : Int) < (n : Int) + 1) = True := eq_true (by omega)
      have hk1 : ((k : Int) < (n : Int) + 1) = True := eq_true (by omega)
      gi_wp2
      refine region_round (S := fun w' => w'.cell? ⟨g + 1, 0, none⟩ = some (.slice (some ⟨g, 0, none⟩) (n + 1) (n + 1)) ∧ w'.cell? ⟨xb, 1, none⟩ = some (.int .i64 m) ∧ w'.cell? ⟨xb, 2, none⟩ = some (.int .i64 k)) (by kernel_rfl) (by rfl) ?_ ⟨qx, x2, x3⟩ (fun hS => ?_)
      · rintro ⟨a9, w9, h9⟩
        exact h9.2
      refine region_take 0 (some 27) (v := ?_) rfl rfl (by kernel_rfl) (by kernel_rfl) (by kernel_rfl) (fun _ _ _ h => h) rfl ?_ hS ?_
      rotate_left
      · (intro w9 hS9; obtain ⟨y1, y2, y3⟩ := hS9; go_simp; try (with_reducible rfl))
      simp only [Act.put, List.setIfInBounds_toArray, List.set_cons_zero, List.set_cons_succ]
      refine region_take 1 (some 28) (v := ?_) rfl rfl (by kernel_rfl) (by kernel_rfl) (by kernel_rfl) (fun _ _ _ h => h) rfl ?_ hS ?_
      rotate_left
      · (intro w9 hS9; obtain ⟨y1, y2, y3⟩ := hS9; go_simp; try (with_reducible rfl))
      simp only [Act.put, List.setIfInBounds_toArray, List.set_cons_zero, List.set_cons_succ]
      refine region_take 2 (some 29) (v := ?_) rfl rfl (by kernel_rfl) (by kernel_rfl) (by kernel_rfl) (fun _ _ _ h => h) rfl ?_ hS ?_
      rotate_left
      · (intro w9 hS9; obtain ⟨y1, y2, y3⟩ := hS9; go_simp; try (with_reducible rfl))
      simp only [Act.put, List.setIfInBounds_toArray, List.set_cons_zero, List.set_cons_succ]
      refine region_take 3 (some 30) (v := ?_) rfl rfl (by kernel_rfl) (by kernel_rfl) (by kernel_rfl) (fun _ _ _ h => h) rfl ?_ hS ?_
      rotate_left
      · (intro w9 hS9; obtain ⟨y1, y2, y3⟩ := hS9; go_simp; try (with_reducible rfl))
      simp only [Act.put, List.setIfInBounds_toArray, List.set_cons_zero, List.set_cons_succ]
      refine region_take 4 (some 31) (v := ?_) rfl rfl (by kernel_rfl) (by kernel_rfl) (by kernel_rfl) (fun _ _ _ h => h) rfl ?_ hS ?_
      rotate_left
      · (intro w9 hS9; obtain ⟨y1, y2, y3⟩ := hS9; go_simp; try (with_reducible rfl))
      simp only [Act.put, List.setIfInBounds_toArray, List.set_cons_zero, List.set_cons_succ]
      refine region_take 5 (some 32) (v := ?_) rfl rfl (by kernel_rfl) (by kernel_rfl) (by kernel_rfl) (fun _ _ _ h => h) rfl ?_ hS ?_
      rotate_left
      · (intro w9 hS9; obtain ⟨y1, y2, y3⟩ := hS9; go_simp; try (with_reducible rfl))
      simp only [Act.put, List.setIfInBounds_toArray, List.set_cons_zero, List.set_cons_succ]
      refine region_take 6 (some 33) (v := ?_) rfl rfl (by kernel_rfl) (by kernel_rfl) (by kernel_rfl) (fun _ _ _ h => h) rfl ?_ hS ?_
      rotate_left
      · (intro w9 hS9; obtain ⟨y1, y2, y3⟩ := hS9; go_simp; try (with_reducible rfl))
      simp only [Act.put, List.setIfInBounds_toArray, List.set_cons_zero, List.set_cons_succ]
      refine region_call 7 rfl (by kernel_rfl) (fun K hK => ?_)
      go_simp
      refine hK.out _ _ ⟨qx1, v1, v2⟩ (fun hS => ?_)
      clear hK
      try simp only [Act.put]
      refine region_take 8 (some 34) (v := ?_) rfl rfl (by kernel_rfl) (by kernel_rfl) (by kernel_rfl) (fun _ _ _ h => h) rfl ?_ hS ?_
      rotate_left
      · (intro w9 hS9; obtain ⟨y1, y2, y3⟩ := hS9; go_simp; try (with_reducible rfl))
      simp only [Act.put, List.setIfInBounds_toArray, List.set_cons_zero, List.set_cons_succ]
      refine region_call 9 rfl (by kernel_rfl) (fun K hK => ?_)
      go_simp
      refine hK.out _ _ ⟨qx3, t1, t2⟩ (fun hS => ?_)
      clear hK
      refine wpAnyH_done (by kernel_rfl) ?_ _
      gi_wp2_with fail
      exact ⟨⟨koH.out, kpH.out⟩, e3H.out⟩
    · rw [ndSt_no (by
          by_cases h1 : is = false
          · exact .inl h1
          · exact .inr fun e => hyes ⟨by simpa using h1, e⟩)] at hsn
      have e3 : ndI w (n + 1) f0 g (pre ++ [⟨i, (y1, y2, y3)⟩]) W := ⟨by rw [hsn]; exact i1, i2, i3⟩
      have e3H := Lib.hid e3
      clear hright hX hsn i1 i2 i3 e3 hf
      cases is with
      | false =>
        clear hyes
        gi_wp2
        exact ⟨⟨KeepsFrom.refl _ _, KpN.refl _ _⟩, e3H.out⟩
      | true =>
        have hx2 : y1 ≠ 2 := fun e => hyes ⟨rfl, e⟩
        clear hyes
        gi_wp2
        exact ⟨⟨KeepsFrom.refl _ _, KpN.refl _ _⟩, e3H.out⟩
  case done =>
    rintro D ys W hD hys ⟨i1, i2, i3⟩ hK
    have qx := i2.cell
    rw [hys, ndF_bk, ← hndlH.out] at i1
    gi_wp2
    refine ⟨by simp, .inl ⟨_, _, rfl, run_takeDeferred hK, ?_⟩⟩
    exact ⟨_, results_tmp rfl _ _ _, _, rfl, by rw [hg]; exact OwnL.grown i1 (grownBy_putObj' W D _) (fun k hk e => by have h1 : g = k := Option.some.inj hk; have h2 : D = k := Option.some.inj e; omega) (fun b hb _ => hb.elim), by rw [hg]; exact i3.trans (belowK_b (w := w) (by omega) W D _ _ (by omega) hK rfl rfl)⟩
  case stop =>
    rintro D c pre W _ _ h _
    exact h.elim
def nkR (p : List Stp) (w1 : World) (vL iV : Value) (wr : World) : Prop :=
  ∃ i : Nat, iV = .int .i64 i ∧ i ≤ p.length ∧ OwnI wr w1.heap.size vL (ndTo p i) ∧ Below w1.heap.size w1 wr
set_option maxRecDepth 100000 in
set_option maxHeartbeats 4000000 in
theorem Needed_any {S : Nat → Prop} (G : Int) (a : Option Addr) (c : Nat) (p : List Stp) (w : World) (h : Steps S w a c p) :
    Calls Tryz.prog 33 #[.int .i64 G, .slice a p.length c] w (retE (neededE G p) w) := by
  have v1 := ValidProof_any G a c p w h
  cases hv : proofB G p with
  | false =>
    rw [hv] at v1
    have v1H := Lib.hid v1
    have hrH := Lib.hid (show neededE G p = ([], 1) by unfold neededE; rw [hv]; rfl)
    clear v1 h hv
    go_enter Tryz.func33, Tryz.ntmps33
    go_wp2_with fail
    refine v1H.out.mono ?_
    rintro e w1 ⟨rfl, hb1⟩
    go_wp2_with fail
    go_ret2
    rw [hrH.out]
    exact ⟨_, rfl, .nil _ _ _ _ _, hb1⟩
  | true =>
    rw [hv] at v1
    obtain ⟨p1, p2, ok⟩ := proofB_all hv
    have vu := fun W (hb : Below w.heap.size w W) => needed_any a c p W (h.below hb) ok p1 p2
    have v1H := Lib.hid v1
    have vuH := Lib.hid vu
    have hrH := Lib.hid (show neededE G p = (ndTo p p.length, 0) by unfold neededE; rw [hv]; rfl)
    have hlH := Lib.hid (ndL_len p)
    obtain ⟨F, hF⟩ : ∃ F, ndL p = F := ⟨_, rfl⟩
    have hFl : F.length = p.length := by rw [← hF]; exact ndL_len p
    have hsuccH := Lib.hid (fun k => ndTo_succ p k)
    rw [hF] at vuH hsuccH
    have hlenH := Lib.hid (fun k => ndTo_len p k)
    clear v1 h hv vu hF
    go_enter Tryz.func33, Tryz.ntmps33
    go_wp2_with fail
    refine v1H.out.mono ?_
    rintro e w0 ⟨rfl, hb0⟩
    go_wp2_with fail
    refine (vuH.out _ hb0).mono ?_
    rintro e w1 ⟨v2, rfl, o2, hb2⟩
    obtain ⟨aF, cF, hvF, hSF⟩ := OwnB.bools o2
    rw [hFl] at hvF
    subst hvF
    have hSFH := Lib.hid hSF
    have hb1H := Lib.hid (bcall hb0 hb2)
    clear o2 hSF hb0 hb2 v1H vuH
    go_wp2_with fail
    go_loopw [6, 7, 8, 16] (fun vL _ _ iV wr => nkR p w1 vL iV wr) (fun _ _ _ iV _ => p.length - (intOf iV).toNat)
    case atStart => exact ⟨0, rfl, Nat.zero_le _, .nil _ _ _ _ _, Below.refl _ _⟩
    case round =>
      obtain ⟨i, rfl, hi, hO, hB⟩ := hrel
      by_cases hlt : i < p.length
      · obtain ⟨bF, oF, haF, -, c1⟩ := (hSFH.out.below hB).bool i (by omega)
        subst haF
        have hs := hsuccH.out i
        rw [show F.getD i false = F[i]'(by omega) by rw [List.getD_eq_getElem?_getD, List.getElem?_eq_getElem (by omega)]; rfl] at hs
        obtain ⟨is, hise⟩ : ∃ is, F[i]'(by omega) = is := ⟨_, rfl⟩
        rw [hise] at c1 hs
        cases is with
        | false =>
          rw [if_neg (by decide)] at hs
          have hrel : nkR p w1 u6 (.int .i64 ((i : Int) + 1)) wr := ⟨i + 1, by go_num, by omega, by rw [hs]; exact hO, hB⟩
          have hrelH := Lib.hid hrel
          clear hrel hO hB hs hise
          go_wp2_with fail
          all_goals go_roundw
          all_goals first | exact hrelH.out | (simp [intOf]; done) | (simp [intOf]; omega)
        | true =>
          rw [if_pos rfl] at hs
          have hll := hlenH.out i
          obtain ⟨v', W', hrun, ho, hg, -⟩ := OwnL.push (P := Tryz.prog) (t := 33) (ty := 33) hO Tryz.underlying33 infoInt rfl (vs := [.int .i64 (i : Int)]) (x := (i : Int)) ⟨rfl, by unfold inRange; omega⟩ (by omega) (by unfold big; omega) (by have := hB.size; omega)
          rw [← hs] at ho
          have hrel : nkR p w1 v' (.int .i64 ((i : Int) + 1)) W' := ⟨i + 1, by go_num, by omega, ho, hB.grown hg (by have := hB.size; omega) (fun k e => (OwnL.lt hO k e).1)⟩
          have hrelH := Lib.hid hrel
          clear hrel hO hB hs hise ho hg hll
          go_wp2_with (at_builtin; refine wpList_append_run rfl _ _ _ rfl rfl rfl hrun ?_)
          all_goals go_roundw
          all_goals first | exact hrelH.out | (simp [intOf]; done) | (simp [intOf]; omega)
      · obtain rfl : i = p.length := by omega
        have hOH := Lib.hid hO
        have hBH := Lib.hid hB
        clear hO hB
        go_wp2_with fail
        all_goals go_ret2
        all_goals rw [hrH.out]
        all_goals exact ⟨_, rfl, OwnL.baseMono hOH.out hb1H.out.size, bcall hb1H.out hBH.out⟩
end Go.Proofs.YtfcbdlfanmddbaaGreatDoor
