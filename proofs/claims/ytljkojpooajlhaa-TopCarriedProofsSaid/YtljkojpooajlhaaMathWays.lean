/- Dictionaries: what a valid one is. No program is named. -/
import Derived.Test.YtljkojpooajlhaaMathRead
namespace Go.Proofs.Ytljkojpooajlhaa

abbrev Ways := List (Int × List Int)
/-- the numbers below n -/
def ascL (n : Nat) : List Int := (List.range n).map (fun i : Nat => (i : Int))
theorem ascL_len (n : Nat) : (ascL n).length = n := by simp [ascL]
theorem ascL_get {n i : Nat} (h : i < (ascL n).length) : (ascL n)[i] = (i : Int) := by simp [ascL]
theorem ascL_succ (n : Nat) : ascL (n + 1) = ascL n ++ [(n : Int)] := by simp [ascL, List.range_succ]
theorem mem_ascL {n : Nat} {x : Int} : x ∈ ascL n ↔ 0 ≤ x ∧ x < n := by
  simp only [ascL, List.mem_map, List.mem_range]
  constructor
  · rintro ⟨i, h, rfl⟩; omega
  · intro h; exact ⟨x.toNat, by omega, by omega⟩
theorem ascL_nodup (n : Nat) : (ascL n).Nodup := by
  rw [ascL, List.Nodup, List.pairwise_map]
  exact List.nodup_range.imp (fun h e => h (by omega))
theorem ascL_sorted (n : Nat) : (ascL n).Pairwise (fun a b => a ≤ b) := by
  rw [ascL, List.pairwise_map]
  exact List.pairwise_lt_range.imp (fun h => by omega)
/-- a list has each number below its length -/
def ordB (l : List Int) : Bool := (List.range l.length).all (fun i : Nat => l.contains (i : Int))
theorem ordB_iff {l : List Int} : ordB l = true ↔ ∀ i : Nat, i < l.length → (i : Int) ∈ l := by
  unfold ordB
  rw [List.all_eq_true]
  constructor
  · intro h i hi
    have := h i (List.mem_range.2 hi)
    simpa using this
  · intro h i hi
    have := h i (List.mem_range.1 hi)
    simpa using this
theorem perm_of_sub : ∀ {m l : List Int}, m.Nodup → (∀ x ∈ m, x ∈ l) → l.length ≤ m.length → l.Perm m
  | [], l, _, _, hl => by
    have : l = [] := List.length_eq_zero_iff.1 (by simpa using hl)
    rw [this]
  | x :: m, l, hn, hs, hl => by
    rw [List.nodup_cons] at hn
    have hx := hs x (by simp)
    have h1 := List.perm_cons_erase hx
    have hlen := List.length_erase_of_mem hx
    refine h1.trans (List.Perm.cons x (perm_of_sub hn.2 (fun y hy => ?_) ?_))
    · exact (List.mem_erase_of_ne (fun e => hn.1 (by rw [← e]; exact hy))).2 (hs y (by simp [hy]))
    · rw [hlen]; rw [List.length_cons] at hl; omega
theorem ordB_perm {l : List Int} (h : ordB l = true) : l.Perm (ascL l.length) :=
  perm_of_sub (ascL_nodup _) (fun x hx => by
    obtain ⟨h1, h2⟩ := mem_ascL.1 hx
    have := ordB_iff.1 h x.toNat (by omega)
    rwa [Int.toNat_of_nonneg h1] at this) (by rw [ascL_len]; exact Nat.le_refl _)
theorem sorted_eq : ∀ {l m : List Int}, l.Pairwise (fun a b => a ≤ b) → m.Pairwise (fun a b => a ≤ b) → l.Perm m → l = m
  | [], m, _, _, h => by rw [List.nil_perm.1 h]
  | x :: l, [], _, _, h => by have := h.length_eq; simp at this
  | x :: l, y :: m, h1, h2, h => by
    rw [List.pairwise_cons] at h1 h2
    have hxy : x = y := by
      have a1 : y ∈ x :: l := h.mem_iff.2 (by simp)
      have a2 : x ∈ y :: m := h.mem_iff.1 (by simp)
      rcases List.mem_cons.1 a1 with e | e
      · exact e.symm
      · rcases List.mem_cons.1 a2 with e2 | e2
        · exact e2
        · have := h1.1 y e; have := h2.1 x e2; omega
    subst hxy
    rw [sorted_eq h1.2 h2.2 (List.Perm.cons_inv h)]
/-- sorting and comparing tells the same -/
theorem ord_sorted {l l' : List Int} (hp : l'.Perm l) (hs : l'.Pairwise (fun a b => a ≤ b)) : decide (l' = ascL l.length) = ordB l := by
  rw [Bool.eq_iff_iff, decide_eq_true_eq]
  constructor
  · intro h
    rw [ordB_iff]
    intro i hi
    refine hp.mem_iff.1 ?_
    rw [h, mem_ascL]; omega
  · intro h
    exact sorted_eq hs (ascL_sorted _) (hp.trans (ordB_perm h))
def arAt (s : Sg) (i : Int) : Int := (s.getD i.toNat default).2
def wayOk (a b : Sg) (i : Nat) (w : Int × List Int) : Bool := (decide (0 ≤ w.1) && decide (w.1 ≤ (b.length : Int) - 1)) && (decide (arAt b w.1 = arAt a i) && (decide ((w.2.length : Int) = arAt a i) && ordB w.2))
def wysOk (a b : Sg) (d : Ways) : Nat → Bool
  | 0 => true
  | k + 1 => wysOk a b d k && wayOk a b k (d.getD k (0, []))
/-- a valid dictionary -/
def validD (a b : Sg) (d : Ways) : Bool := okSign a && (okSign b && (decide (d.length = a.length) && (wysOk a b d d.length && (decide ((d.getD 0 (0, [])).1 = 0) && decide ((d.getD 0 (0, [])).2.headD 0 = 0)))))
theorem wysOk_at {a b : Sg} {d : Ways} : ∀ {k : Nat}, wysOk a b d k = true → ∀ i, i < k → wayOk a b i (d.getD i (0, [])) = true
  | 0, _, i, hi => by omega
  | k + 1, h, i, hi => by
    rw [wysOk, Bool.and_eq_true] at h
    by_cases e : i = k
    · rw [e]; exact h.2
    · exact wysOk_at h.1 i (by omega)
theorem wysOk_no {a b : Sg} {d : Ways} {i : Nat} (h : wayOk a b i (d.getD i (0, [])) = false) : ∀ {k : Nat}, i < k → wysOk a b d k = false
  | 0, hk => by omega
  | k + 1, hk => by
    rw [wysOk]
    by_cases e : i = k
    · rw [← e, h, Bool.and_false]
    · rw [wysOk_no h (k := k) (by omega), Bool.false_and]
/-- the first way, with two arguments in an order, begins with 0 exactly if it is 0, 1 -/
theorem first_way {a b : Sg} {d : Ways} (ha : okSign a = true) (hl : d.length = a.length) (hw : wysOk a b d d.length = true) : decide ((d.getD 0 (0, [])).2 = [0, 1]) = decide ((d.getD 0 (0, [])).2.headD 0 = 0) := by
  have h1 := okSign_len ha
  have h := wysOk_at hw 0 (by omega)
  obtain ⟨w, hwd⟩ : ∃ w, d.getD 0 (0, []) = w := ⟨_, rfl⟩
  rw [hwd] at h ⊢
  have h2 : arAt a 0 = 2 := by
    unfold okSign at ha
    simp only [Bool.and_eq_true, decide_eq_true_eq] at ha
    exact ha.2
  unfold wayOk at h
  simp only [Bool.and_eq_true, decide_eq_true_eq] at h
  obtain ⟨-, -, h3, h4⟩ := h
  rw [show ((0 : Nat) : Int) = 0 from rfl, h2] at h3
  rw [ordB_iff] at h4
  obtain ⟨t, l⟩ := w
  simp only at h3 h4 ⊢
  match l, h3 with
  | [x, y], _ =>
    have g0 := h4 0 (by simp)
    have g1 := h4 1 (by simp)
    simp only [List.mem_cons, List.not_mem_nil, or_false] at g0 g1
    rw [Bool.eq_iff_iff, decide_eq_true_eq, decide_eq_true_eq]
    simp only [List.cons.injEq, and_true, List.headD_cons]
    constructor
    · exact fun h => h.1
    · intro h; exact ⟨h, by omega⟩
  | [], h => simp at h
  | [_], h => simp at h
  | _ :: _ :: _ :: _, h => simp at h; omega
end Go.Proofs.Ytljkojpooajlhaa
