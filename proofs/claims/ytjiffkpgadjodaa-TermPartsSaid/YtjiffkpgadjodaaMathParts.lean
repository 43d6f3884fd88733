/- Lists of terms in order, each once: by sorting, and one by one. No program is named. -/
import Derived.Test.YtjiffkpgadjodaaMath9
import Derived.Test.YtjiffkpgadjodaaMath3
namespace Go.Proofs.Ytjiffkpgadjodaa

def ltT (a b : List Int) : Prop := compareT a b < 0
/-- in order, each once -/
def Asc (l : List (List Int)) : Prop := l.Pairwise ltT
theorem ltT_irrefl (a : List Int) : ¬ ltT a a := by unfold ltT; rw [(compareT_zero a a).2 rfl]; omega
theorem ltT_trans {a b c : List Int} (h1 : ltT a b) (h2 : ltT b c) : ltT a c := by
  unfold ltT at *
  have h := compareT_trans a b c (by omega) (by omega)
  rcases Int.lt_or_eq_of_le h with g | g
  · exact g
  · have := (compareT_zero a c).1 g
    subst this
    have := compareT_anti a b
    omega
theorem ltT_total (a b : List Int) : ltT a b ∨ a = b ∨ ltT b a := by
  unfold ltT
  have h := compareT_anti a b
  rcases Int.lt_trichotomy (compareT a b) 0 with g | g | g
  · exact .inl g
  · exact .inr (.inl ((compareT_zero a b).1 g))
  · right; right; omega
/-- what is in order, each once, is told by its members -/
theorem Asc.ext : ∀ {l m : List (List Int)}, Asc l → Asc m → (∀ x, x ∈ l ↔ x ∈ m) → l = m
  | [], [], _, _, _ => rfl
  | [], y :: m, _, _, h => by have := (h y).2 (by simp); simp at this
  | x :: l, [], _, _, h => by have := (h x).1 (by simp); simp at this
  | x :: l, y :: m, h1, h2, h => by
    obtain ⟨a1, a2⟩ := List.pairwise_cons.1 h1
    obtain ⟨b1, b2⟩ := List.pairwise_cons.1 h2
    have hxy : x = y := by
      have hx := (h x).1 (by simp)
      have hy := (h y).2 (by simp)
      rcases List.mem_cons.1 hx with e | e
      · exact e
      · rcases List.mem_cons.1 hy with e' | e'
        · exact e'.symm
        · exact (ltT_irrefl _ (ltT_trans (a1 y e') (b1 x e))).elim
    subst hxy
    rw [Asc.ext a2 b2 (fun z => ⟨fun hz => by
      rcases List.mem_cons.1 ((h z).1 (by simp [hz])) with e | e
      · subst e; exact (ltT_irrefl _ (a1 z hz)).elim
      · exact e, fun hz => by
      rcases List.mem_cons.1 ((h z).2 (by simp [hz])) with e | e
      · subst e; exact (ltT_irrefl _ (b1 z hz)).elim
      · exact e⟩)]
/-- one more, if it is not there -/
def withL (t : List Int) : List (List Int) → List (List Int)
  | [] => [t]
  | x :: r => if compareT t x < 0 then t :: x :: r else if compareT t x = 0 then x :: r else x :: withL t r
theorem mem_withL {t : List Int} : ∀ {l : List (List Int)} {x : List Int}, x ∈ withL t l ↔ x = t ∨ x ∈ l
  | [], x => by simp [withL]
  | y :: r, x => by
    rw [withL]
    by_cases h1 : compareT t y < 0
    · rw [if_pos h1]; simp
    · rw [if_neg h1]
      by_cases h2 : compareT t y = 0
      · rw [if_pos h2]
        have := (compareT_zero t y).1 h2
        subst this
        simp
      · rw [if_neg h2, List.mem_cons, mem_withL, List.mem_cons]
        constructor
        · rintro (h | h | h) <;> simp [h]
        · rintro (h | h | h) <;> simp [h]
theorem asc_withL {t : List Int} : ∀ {l : List (List Int)}, Asc l → Asc (withL t l)
  | [], _ => List.pairwise_singleton _ _
  | y :: r, h => by
    obtain ⟨a1, a2⟩ := List.pairwise_cons.1 h
    rw [withL]
    by_cases h1 : compareT t y < 0
    · rw [if_pos h1]
      exact List.pairwise_cons.2 ⟨fun z hz => by
        rcases List.mem_cons.1 hz with e | e
        · subst e; exact h1
        · exact ltT_trans h1 (a1 z e), h⟩
    · rw [if_neg h1]
      by_cases h2 : compareT t y = 0
      · rw [if_pos h2]; exact h
      · rw [if_neg h2]
        refine List.pairwise_cons.2 ⟨fun z hz => ?_, asc_withL a2⟩
        rcases mem_withL.1 hz with e | e
        · subst e
          rcases ltT_total z y with g | g | g
          · exact (h1 g).elim
          · subst g; exact (h2 ((compareT_zero _ _).2 rfl)).elim
          · exact g
        · exact a1 z e
theorem withL_len {t : List Int} : ∀ {l : List (List Int)}, (withL t l).length ≤ l.length + 1
  | [] => by simp [withL]
  | y :: r => by
    rw [withL]
    split
    · simp
    · split
      · simp
      · simp only [List.length_cons]; have := withL_len (t := t) (l := r); omega
/-- of equal neighbours the first -/
def compactL : List (List Int) → List (List Int)
  | [] => []
  | [x] => [x]
  | x :: y :: r => if x = y then compactL (y :: r) else x :: compactL (y :: r)
theorem compactL_cons (y : List Int) (r : List (List Int)) : ∃ m, compactL (y :: r) = y :: m := by
  induction r generalizing y with
  | nil => exact ⟨[], rfl⟩
  | cons z r ih =>
    rw [compactL]
    split
    · rename_i h; subst h; exact ih _
    · exact ⟨_, rfl⟩
theorem mem_compactL : ∀ {l : List (List Int)} {x : List Int}, x ∈ compactL l ↔ x ∈ l
  | [], x => by simp [compactL]
  | [y], x => by simp [compactL]
  | y :: z :: r, x => by
    rw [compactL]
    split
    · rename_i h; subst h; rw [mem_compactL]; simp
    · rw [List.mem_cons, mem_compactL, List.mem_cons (a := x) (b := y)]
theorem asc_compactL : ∀ {l : List (List Int)}, l.Pairwise (fun a b => ¬ ltT b a) → Asc (compactL l)
  | [], _ => List.Pairwise.nil
  | [y], _ => List.pairwise_singleton _ _
  | y :: z :: r, h => by
    obtain ⟨a1, a2⟩ := List.pairwise_cons.1 h
    rw [compactL]
    split
    · exact asc_compactL a2
    · rename_i hne
      refine List.pairwise_cons.2 ⟨fun x hx => ?_, asc_compactL a2⟩
      have hx' := mem_compactL.1 hx
      have hz : ltT y z := by
        rcases ltT_total y z with g | g | g
        · exact g
        · exact (hne g).elim
        · exact (a1 z (by simp) g).elim
      rcases List.mem_cons.1 hx' with e | e
      · subst e; exact hz
      · have h3 := (List.pairwise_cons.1 a2).1 x e
        rcases ltT_total z x with g | g | g
        · exact ltT_trans hz g
        · subst g; exact hz
        · exact (h3 g).elim
/-- the parts, by where they begin -/
def partsL (s : Sg) (t : List Int) : List (List Int) := (PL s t.length t).map (·.2)
def partsT (s : Sg) (t : List Int) : List (List Int) := (partsL s t).foldl (fun l x => withL x l) []
def partsE (s : Sg) (t : List Int) : List (List Int) × Int := if okT s t = true then (partsT s t, 0) else ([], 1)
theorem foldl_with_asc : ∀ (m l : List (List Int)), Asc l → Asc (m.foldl (fun l x => withL x l) l) ∧ ∀ x, x ∈ m.foldl (fun l x => withL x l) l ↔ x ∈ l ∨ x ∈ m
  | [], l, h => ⟨h, fun x => by simp⟩
  | y :: m, l, h => by
    obtain ⟨h1, h2⟩ := foldl_with_asc m (withL y l) (asc_withL h)
    refine ⟨h1, fun x => ?_⟩
    rw [List.foldl_cons, h2, mem_withL, List.mem_cons]
    constructor
    · rintro ((h | h) | h) <;> simp [h]
    · rintro (h | h | h) <;> simp [h]
theorem partsT_asc (s : Sg) (t : List Int) : Asc (partsT s t) := (foldl_with_asc _ [] List.Pairwise.nil).1
theorem mem_partsT {s : Sg} {t x : List Int} : x ∈ partsT s t ↔ x ∈ partsL s t := by
  have := (foldl_with_asc (partsL s t) [] List.Pairwise.nil).2 x
  unfold partsT; rw [this]; simp
/-- sorted and compacted -/
theorem partsT_sorted {s : Sg} {t : List Int} {l : List (List Int)} (hp : l.Perm (partsL s t)) (hs : l.Pairwise (fun a b => ¬ ltT b a)) : compactL l = partsT s t :=
  Asc.ext (asc_compactL hs) (partsT_asc s t) (fun x => by rw [mem_compactL, mem_partsT]; exact hp.mem_iff)
theorem partsL_len {s : Sg} {t : List Int} (h : okT s t = true) : (partsL s t).length = t.length := by unfold partsL; rw [List.length_map, PL_len h (Nat.le_refl _)]
theorem partsL_get {s : Sg} {t : List Int} (h : okT s t = true) {k : Nat} (hk : k < (partsL s t).length) : (partsL s t)[k] = partAt s (t.drop k) := by
  have hl : k < t.length := by rw [← partsL_len h]; exact hk
  obtain ⟨hj, he⟩ := ((way_place h).2 k hl).2.1
  have h1 : (partsL s t)[k] = ((PL s t.length t)[k]).2 := by simp [partsL]
  rw [h1, he]
/-- a part is at some path -/
theorem part_path {s : Sg} {t x : List Int} (h : okT s t = true) (hx : x ∈ partsT s t) : pathsT s t x ≠ [] ∧ okT s x = true := by
  obtain ⟨e, he, rfl⟩ := List.mem_map.1 (mem_partsT.1 hx)
  refine ⟨fun hn => ?_, ?_⟩
  · unfold pathsT at hn
    rw [List.map_eq_nil_iff, List.filter_eq_nil_iff] at hn
    exact hn e he (by simp)
  · obtain ⟨k, hk, rfl⟩ := List.getElem_of_mem he
    have hl : k < t.length := by rw [← PL_len h (Nat.le_refl _)]; exact hk
    obtain ⟨-, ⟨hj, hg⟩, r, hr⟩ := (way_place h).2 k hl
    rw [hg]
    exact (okT_part h hr).1
theorem partsT_len {s : Sg} {t : List Int} (h : okT s t = true) : (partsT s t).length ≤ 60 := by
  have : ∀ (m l : List (List Int)), (m.foldl (fun l x => withL x l) l).length ≤ l.length + m.length := by
    intro m
    induction m with
    | nil => intro l; simp
    | cons y m ih => intro l; rw [List.foldl_cons, List.length_cons]; have := ih (withL y l); have := withL_len (t := y) (l := l); omega
  have h1 := this (partsL s t) []
  rw [partsL_len h] at h1
  have := (okT_parts h).2.2.1
  unfold partsT
  simp at h1; omega
end Go.Proofs.Ytjiffkpgadjodaa
