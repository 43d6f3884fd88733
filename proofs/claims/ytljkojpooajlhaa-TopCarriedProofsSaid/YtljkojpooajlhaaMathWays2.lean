/- Dictionaries that are one to one; images, inverses. No program is named. -/
import Derived.Test.YtljkojpooajlhaaMathWays
namespace Go.Proofs.Ytljkojpooajlhaa

/-- the different numbers of a list, in the order of their first places -/
def dedupI : List Int → List Int
  | [] => []
  | x :: r => if x ∈ r then dedupI r else x :: dedupI r
theorem mem_dedupI : ∀ {l : List Int} {x : Int}, x ∈ dedupI l ↔ x ∈ l
  | [], x => Iff.rfl
  | y :: r, x => by
    rw [dedupI]
    split
    · rename_i h
      rw [mem_dedupI, List.mem_cons]
      exact ⟨Or.inr, fun e => e.elim (fun e => by rw [e]; exact h) id⟩
    · rw [List.mem_cons, List.mem_cons, mem_dedupI]
theorem dedupI_nodup : ∀ (l : List Int), (dedupI l).Nodup
  | [] => List.nodup_nil
  | y :: r => by
    rw [dedupI]
    split
    · exact dedupI_nodup r
    · rename_i h
      rw [List.nodup_cons]
      exact ⟨fun e => h (mem_dedupI.1 e), dedupI_nodup r⟩
theorem dedupI_len : ∀ (l : List Int), (dedupI l).length ≤ l.length
  | [] => Nat.le_refl _
  | y :: r => by
    have := dedupI_len r
    rw [dedupI]
    split
    · rw [List.length_cons]; omega
    · rw [List.length_cons, List.length_cons]; omega
theorem dedupI_all : ∀ {l : List Int}, (dedupI l).length = l.length ↔ l.Nodup
  | [] => by simp [dedupI]
  | y :: r => by
    have h1 := dedupI_len r
    rw [dedupI, List.nodup_cons]
    split
    · rename_i h
      rw [List.length_cons]
      exact ⟨fun e => by omega, fun e => (e.1 h).elim⟩
    · rename_i h
      rw [List.length_cons, List.length_cons]
      constructor
      · intro e; exact ⟨h, dedupI_all.1 (by omega)⟩
      · intro e; rw [dedupI_all.2 e.2]
/-- any list of different numbers with the same members is as long -/
theorem dedupI_uniq {l m : List Int} (hn : m.Nodup) (hm : ∀ x, x ∈ m ↔ x ∈ l) : m.length = (dedupI l).length := by
  have h1 : (dedupI l).Subset m := fun x hx => (hm x).2 (mem_dedupI.1 hx)
  have h2 : m.Subset (dedupI l) := fun x hx => mem_dedupI.2 ((hm x).1 hx)
  have key : ∀ {a b : List Int}, a.Nodup → (∀ x ∈ a, x ∈ b) → a.length ≤ b.length := by
    intro a
    induction a with
    | nil => intro b _ _; simp
    | cons x a ih =>
      intro b hn hs
      rw [List.nodup_cons] at hn
      have hx := hs x (by simp)
      have hlen := List.length_erase_of_mem hx
      have hpos : 0 < b.length := List.length_pos_of_mem hx
      have := ih (b := b.erase x) hn.2 (fun y hy => (List.mem_erase_of_ne (fun e => hn.1 (by rw [← e]; exact hy))).2 (hs y (by simp [hy])))
      rw [List.length_cons]; omega
  exact Nat.le_antisymm (key hn (fun x hx => h2 hx)) (key (dedupI_nodup l) (fun x hx => h1 hx))
def tosD (d : Ways) : List Int := d.map (·.1)
/-- a dictionary that is one to one -/
def oneB (a b : Sg) (d : Ways) : Bool := decide (a.length = b.length) && decide ((tosD d).Nodup)
/-- the symbols below n to which a dictionary leads -/
def imgK (d : Ways) (n : Nat) : List Int := (ascL n).filter (fun k => (tosD d).contains k)
theorem imgK_succ (d : Ways) (n : Nat) : imgK d (n + 1) = imgK d n ++ (if (tosD d).contains (n : Int) = true then [(n : Int)] else []) := by
  unfold imgK
  rw [ascL_succ, List.filter_append, List.filter_cons, List.filter_nil]
theorem mem_imgK {d : Ways} {n : Nat} {x : Int} : x ∈ imgK d n ↔ (0 ≤ x ∧ x < n) ∧ x ∈ tosD d := by
  unfold imgK
  rw [List.mem_filter, mem_ascL]
  simp
def AscI (l : List Int) : Prop := l.Pairwise (fun a b => a < b)
theorem ascI_ext : ∀ {l m : List Int}, AscI l → AscI m → (∀ x, x ∈ l ↔ x ∈ m) → l = m
  | [], [], _, _, _ => rfl
  | [], y :: m, _, _, h => by have := (h y).2 (by simp); cases this
  | x :: l, [], _, _, h => by have := (h x).1 (by simp); cases this
  | x :: l, y :: m, h1, h2, h => by
    unfold AscI at h1 h2
    rw [List.pairwise_cons] at h1 h2
    have hxy : x = y := by
      have a1 := (h y).2 (by simp)
      have a2 := (h x).1 (by simp)
      rcases List.mem_cons.1 a1 with e | e
      · exact e.symm
      · rcases List.mem_cons.1 a2 with e2 | e2
        · exact e2
        · have := h1.1 y e; have := h2.1 x e2; omega
    subst hxy
    rw [ascI_ext h1.2 h2.2 (fun z => ?_)]
    have hz := h z
    rw [List.mem_cons, List.mem_cons] at hz
    constructor
    · intro k
      rcases hz.1 (.inr k) with e | e
      · have := h1.1 z k; omega
      · exact e
    · intro k
      rcases hz.2 (.inr k) with e | e
      · have := h2.1 z k; omega
      · exact e
theorem ascL_asc (n : Nat) : AscI (ascL n) := by
  rw [AscI, ascL, List.pairwise_map]
  exact List.pairwise_lt_range.imp (fun h => by omega)
theorem imgK_asc (d : Ways) (n : Nat) : AscI (imgK d n) := List.Pairwise.filter _ (ascL_asc n)
theorem tos_range {a b : Sg} {d : Ways} (h : wysOk a b d d.length = true) : ∀ x ∈ tosD d, 0 ≤ x ∧ x < b.length := by
  intro x hx
  obtain ⟨w, hw, rfl⟩ := List.mem_map.1 hx
  obtain ⟨i, hi, rfl⟩ := List.getElem_of_mem hw
  have := wysOk_at h i hi
  rw [List.getD_eq_getElem?_getD, List.getElem?_eq_getElem hi, Option.getD_some] at this
  unfold wayOk at this
  simp only [Bool.and_eq_true, decide_eq_true_eq] at this
  omega
/-- sorted and each once: the image -/
theorem img_sorted {a b : Sg} {d : Ways} (h : wysOk a b d d.length = true) {l : List Int} (hl : AscI l) (hm : ∀ x, x ∈ l ↔ x ∈ tosD d) : l = imgK d b.length :=
  ascI_ext hl (imgK_asc d b.length) (fun x => by
    rw [hm, mem_imgK]
    exact ⟨fun hx => ⟨tos_range h x hx, hx⟩, fun hx => hx.2⟩)
/-- the inverse of an order -/
def invA (l : List Int) (n : Nat) : Nat → List Int
  | 0 => List.replicate n 0
  | k + 1 => (invA l n k).set (l.getD k 0).toNat (k : Int)
/-- the inverse of a dictionary, of its first k ways -/
def invD (d : Ways) (n : Nat) : Nat → Ways
  | 0 => List.replicate n (0, [])
  | k + 1 => (invD d n k).set (d.getD k (0, [])).1.toNat ((k : Int), invA (d.getD k (0, [])).2 (d.getD k (0, [])).2.length (d.getD k (0, [])).2.length)
theorem invA_len (l : List Int) (n : Nat) : ∀ k, (invA l n k).length = n
  | 0 => by simp [invA]
  | k + 1 => by rw [invA, List.length_set, invA_len l n k]
theorem invD_len (d : Ways) (n : Nat) : ∀ k, (invD d n k).length = n
  | 0 => by simp [invD]
  | k + 1 => by rw [invD, List.length_set, invD_len d n k]
/-- the dictionary that changes nothing -/
def itsD (s : Sg) : Nat → Ways
  | 0 => []
  | k + 1 => itsD s k ++ [((k : Int), ascL (arAt s k).toNat)]
/-- what carries by d, and then by e -/
def compA (x l : List Int) : Nat → List Int
  | 0 => []
  | k + 1 => compA x l k ++ [x.getD (l.getD k 0).toNat 0]
def compD (d e : Ways) : Nat → Ways
  | 0 => []
  | k + 1 => compD d e k ++ [((e.getD (d.getD k (0, [])).1.toNat (0, [])).1, compA (d.getD k (0, [])).2 (e.getD (d.getD k (0, [])).1.toNat (0, [])).2 (e.getD (d.getD k (0, [])).1.toNat (0, [])).2.length)]
end Go.Proofs.Ytljkojpooajlhaa
