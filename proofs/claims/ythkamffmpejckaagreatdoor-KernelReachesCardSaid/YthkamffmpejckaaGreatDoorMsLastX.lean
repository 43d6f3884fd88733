/- The card of KernelReaches: for every input KernelReaches returns true and leaves its arguments as they were; the listed variables are tied to the program's text. No condition. -/
import Derived.Shelf.SlGeneric
import Derived.Ground.SlsfProg
import Derived.Shelf.SlSortCmp.Whole1
import Derived.Shelf.SlSortCmp.NoneTotal
import Derived.Test.YthkamffmpejckaaGreatDoorWalkA
import Derived.Test.YthkamffmpejckaaGreatDoorMath9
import Derived.Test.YthkamffmpejckaaGreatDoorMath3
import Derived.Test.YthkamffmpejckaaGreatDoorWalkL
import Derived.Test.YthkamffmpejckaaGreatDoorWalkM
import Derived.Test.YthkamffmpejckaaGreatDoorWalkJ
import Derived.Test.YthkamffmpejckaaGreatDoorRange
import Derived.Lib.SliceRun
import Derived.Test.YthkamffmpejckaaGreatDoorMsA
import Derived.Test.YthkamffmpejckaaGreatDoorMsB
import Derived.Test.YthkamffmpejckaaGreatDoorRegion
import Derived.Deep.Cut
import Derived.Deep.RegionLaw
import Derived.Deep.RegionWith
import Derived.Test.YthkamffmpejckaaGreatDoorMsI
import Derived.Test.YthkamffmpejckaaGreatDoorBase
import Derived.ProofKit
import Derived.LaidMore
import Derived.OpenShut
import Derived.Stop.Joined
import Derived.Deep.WholeRow
import Derived.Test.YthkamffmpejckaaGreatDoorMsR
import Derived.Test.YthkamffmpejckaaGreatDoorCards
import Derived.Test.YthkamffmpejckaaGreatDoorTie
/- The library's sort laid at the program (by the shelf's plain mode, numbers by name). -/
namespace Go.Proofs.YthkamffmpejckaaGreatDoor
open Go Go.RowKit Go.Shelf

def sh6_ren : Go.Shelf.Ren := ⟨fun | 6 => 80 | 15 => 110 | 14 => 109 | 28 => 136 | 29 => 137 | 20 => 128 | 21 => 129 | 22 => 130 | 23 => 131 | 24 => 132 | 25 => 133 | 26 => 134 | 27 => 135 | 46 => 145 | 47 => 146 | 48 => 147 | 49 => 148 | 50 => 149 | 57 => 153 | n => n, fun | 22 => 24 | 24 => 34 | 25 => 109 | 3 => 3 | 39 => 141 | 0 => 0 | 53 => 169 | 55 => 171 | 4 => 4 | 46 => 163 | 45 => 162 | 50 => 72 | 5 => 5 | 9 => 9 | 66 => 181 | 70 => 185 | 76 => 192 | 77 => 88 | n => n, fun n => n⟩
theorem sh6 : Go.Proofs.SlLaysF.n6 Tryz.prog sh6_ren := {
  mixed := by kernel_rfl
  f6 := ⟨Tryz.f80.name, by decide, Tryz.func80.trans (congrArg some (by kernel_rfl))⟩
  f14 := ⟨Tryz.f109.name, by decide, Tryz.func109.trans (congrArg some (by kernel_rfl))⟩
  f15 := Tryz.func110.trans (congrArg some (by kernel_rfl))
  f20 := ⟨Tryz.f128.name, by decide, Tryz.func128.trans (congrArg some (by kernel_rfl))⟩
  f21 := ⟨Tryz.f129.name, by decide, Tryz.func129.trans (congrArg some (by kernel_rfl))⟩
  f22 := ⟨Tryz.f130.name, by decide, Tryz.func130.trans (congrArg some (by kernel_rfl))⟩
  f23 := ⟨Tryz.f131.name, by decide, Tryz.func131.trans (congrArg some (by kernel_rfl))⟩
  f24 := ⟨Tryz.f132.name, by decide, Tryz.func132.trans (congrArg some (by kernel_rfl))⟩
  f25 := ⟨Tryz.f133.name, by decide, Tryz.func133.trans (congrArg some (by kernel_rfl))⟩
  f26 := ⟨Tryz.f134.name, by decide, Tryz.func134.trans (congrArg some (by kernel_rfl))⟩
  f27 := ⟨Tryz.f135.name, by decide, Tryz.func135.trans (congrArg some (by kernel_rfl))⟩
  f28 := Tryz.func136.trans (congrArg some (by kernel_rfl))
  f29 := Tryz.func137.trans (congrArg some (by kernel_rfl))
  f46 := ⟨Tryz.f145.name, by decide, Tryz.func145.trans (congrArg some (by kernel_rfl))⟩
  f47 := Tryz.func146.trans (congrArg some (by kernel_rfl))
  f48 := Tryz.func147.trans (congrArg some (by kernel_rfl))
  f49 := ⟨Tryz.f148.name, by decide, Tryz.func148.trans (congrArg some (by kernel_rfl))⟩
  f50 := ⟨Tryz.f149.name, by decide, Tryz.func149.trans (congrArg some (by kernel_rfl))⟩
  f57 := ⟨Tryz.f153.name, by decide, Tryz.func153.trans (congrArg some (by kernel_rfl))⟩
  t0 := Tryz.underlying0
  a0 := Tryz.isAgg0
  z0 := Tryz.sizeOf0
  v0 := Tryz.zeroValue0
  t3 := Tryz.underlying3
  a3 := Tryz.isAgg3
  z3 := Tryz.sizeOf3
  v3 := Tryz.zeroValue3
  t4 := Tryz.underlying4
  a4 := Tryz.isAgg4
  z4 := Tryz.sizeOf4
  v4 := Tryz.zeroValue4
  t5 := Tryz.underlying5
  a5 := Tryz.isAgg5
  z5 := Tryz.sizeOf5
  v5 := Tryz.zeroValue5
  t9 := Tryz.underlying9
  a9 := Tryz.isAgg9
  z9 := Tryz.sizeOf9
  v9 := Tryz.zeroValue9
  t22 := Tryz.underlying24
  a22 := Tryz.isAgg24
  z22 := Tryz.sizeOf24
  v22 := Tryz.zeroValue24
  a24 := Tryz.isAgg34
  z24 := Tryz.sizeOf34
  t25 := Tryz.underlying109
  a25 := Tryz.isAgg109
  z25 := Tryz.sizeOf109
  v25 := Tryz.zeroValue109
  t39 := Tryz.underlying141
  a39 := Tryz.isAgg141
  z39 := Tryz.sizeOf141
  v39 := Tryz.zeroValue141
  t45 := Tryz.underlying162
  a45 := Tryz.isAgg162
  z45 := Tryz.sizeOf162
  v45 := Tryz.zeroValue162
  t46 := Tryz.underlying163
  a46 := Tryz.isAgg163
  z46 := Tryz.sizeOf163
  v46 := Tryz.zeroValue163
  t50 := Tryz.underlying72
  a50 := Tryz.isAgg72
  z50 := Tryz.sizeOf72
  v50 := Tryz.zeroValue72
  t53 := Tryz.underlying169
  a53 := Tryz.isAgg169
  z53 := Tryz.sizeOf169
  v53 := Tryz.zeroValue169
  t55 := Tryz.underlying171
  a55 := Tryz.isAgg171
  z55 := Tryz.sizeOf171
  v55 := Tryz.zeroValue171
  t66 := Tryz.underlying181
  a66 := Tryz.isAgg181
  z66 := Tryz.sizeOf181
  v66 := Tryz.zeroValue181
  t70 := Tryz.underlying185
  a70 := Tryz.isAgg185
  z70 := Tryz.sizeOf185
  v70 := Tryz.zeroValue185
  t76 := Tryz.underlying192
  a76 := Tryz.isAgg192
  z76 := Tryz.sizeOf192
  v76 := Tryz.zeroValue192
  t77 := Tryz.underlying88
  a77 := Tryz.isAgg88
  z77 := Tryz.sizeOf88
  v77 := Tryz.zeroValue88 }
end Go.Proofs.YthkamffmpejckaaGreatDoor

/- Lists of terms in order, each once: by sorting, and one by one. No program is named. -/
namespace Go.Proofs.YthkamffmpejckaaGreatDoor

def ltT (a b : List Int) : Prop := compareT a b < 0
/-- in order, each once -/
def Asc (l : List (List Int)) : Prop := l.Pairwise ltT
theorem ltT_irrefl (a : List Int) : ¬ ltT a a := by unfold ltT; rw [(compareT_zero a a).2 rfl]; omega
theorem ltT_trans {a b c : List Int} (h1 : ltT a b) (h2 : ltT b c) : ltT a c := by
  unfold ltT at *
  have h := compareT_trans a b c (by omega) (by omega)
  rcases Int.lt_or_eq_of_le h with g | g
  · exact g
  · have := (compareT_zero a c).1 g
    subst this
    have := compareT_anti a b
    omega
theorem ltT_total (a b : List Int) : ltT a b ∨ a = b ∨ ltT b a := by
  unfold ltT
  have h := compareT_anti a b
  rcases Int.lt_trichotomy (compareT a b) 0 with g | g | g
  · exact .inl g
  · exact .inr (.inl ((compareT_zero a b).1 g))
  · right; right; omega
/-- what is in order, each once, is told by its members -/
theorem Asc.ext : ∀ {l m : List (List Int)}, Asc l → Asc m → (∀ x, x ∈ l ↔ x ∈ m) → l = m
  | [], [], _, _, _ => rfl
  | [], y :: m, _, _, h => by have := (h y).2 (by simp); simp at this
  | x :: l, [], _, _, h => by have := (h x).1 (by simp); simp at this
  | x :: l, y :: m, h1, h2, h => by
    obtain ⟨a1, a2⟩ := List.pairwise_cons.1 h1
    obtain ⟨b1, b2⟩ := List.pairwise_cons.1 h2
    have hxy : x = y := by
      have hx := (h x).1 (by simp)
      have hy := (h y).2 (by simp)
      rcases List.mem_cons.1 hx with e | e
      · exact e
      · rcases List.mem_cons.1 hy with e' | e'
        · exact e'.symm
        · exact (ltT_irrefl _ (ltT_trans (a1 y e') (b1 x e))).elim
    subst hxy
    rw [Asc.ext a2 b2 (fun z => ⟨fun hz => by
      rcases List.mem_cons.1 ((h z).1 (by simp [hz])) with e | e
      · subst e; exact (ltT_irrefl _ (a1 z hz)).elim
      · exact e, fun hz => by
      rcases List.mem_cons.1 ((h z).2 (by simp [hz])) with e | e
      · subst e; exact (ltT_irrefl _ (b1 z hz)).elim
      · exact e⟩)]
/-- one more, if it is not there -/
def withL (t : List Int) : List (List Int) → List (List Int)
  | [] => [t]
  | x :: r => if compareT t x < 0 then t :: x :: r else if compareT t x = 0 then x :: r else x :: withL t r
theorem mem_withL {t : List Int} : ∀ {l : List (List Int)} {x : List Int}, x ∈ withL t l ↔ x = t ∨ x ∈ l
  | [], x => by simp [withL]
  | y :: r, x => by
    rw [withL]
    by_cases h1 : compareT t y < 0
    · rw [if_pos h1]; simp
    · rw [if_neg h1]
      by_cases h2 : compareT t y = 0
      · rw [if_pos h2]
        have := (compareT_zero t y).1 h2
        subst this
        simp
      · rw [if_neg h2, List.mem_cons, mem_withL, List.mem_cons]
        constructor
        · rintro (h | h | h) <;> simp [h]
        · rintro (h | h | h) <;> simp [h]
theorem asc_withL {t : List Int} : ∀ {l : List (List Int)}, Asc l → Asc (withL t l)
  | [], _ => List.pairwise_singleton _ _
  | y :: r, h => by
    obtain ⟨a1, a2⟩ := List.pairwise_cons.1 h
    rw [withL]
    by_cases h1 : compareT t y < 0
    · rw [if_pos h1]
      exact List.pairwise_cons.2 ⟨fun z hz => by
        rcases List.mem_cons.1 hz with e | e
        · subst e; exact h1
        · exact ltT_trans h1 (a1 z e), h⟩
    · rw [if_neg h1]
      by_cases h2 : compareT t y = 0
      · rw [if_pos h2]; exact h
      · rw [if_neg h2]
        refine List.pairwise_cons.2 ⟨fun z hz => ?_, asc_withL a2⟩
        rcases mem_withL.1 hz with e | e
        · subst e
          rcases ltT_total z y with g | g | g
          · exact (h1 g).elim
          · subst g; exact (h2 ((compareT_zero _ _).2 rfl)).elim
          · exact g
        · exact a1 z e
theorem withL_len {t : List Int} : ∀ {l : List (List Int)}, (withL t l).length ≤ l.length + 1
  | [] => by simp [withL]
  | y :: r => by
    rw [withL]
    split
    · simp
    · split
      · simp
      · simp only [List.length_cons]; have := withL_len (t := t) (l := r); omega
/-- of equal neighbours the first -/
def compactL : List (List Int) → List (List Int)
  | [] => []
  | [x] => [x]
  | x :: y :: r => if x = y then compactL (y :: r) else x :: compactL (y :: r)
theorem compactL_cons (y : List Int) (r : List (List Int)) : ∃ m, compactL (y :: r) = y :: m := by
  induction r generalizing y with
  | nil => exact ⟨[], rfl⟩
  | cons z r ih =>
    rw [compactL]
    split
    · rename_i h; subst h; exact ih _
    · exact ⟨_, rfl⟩
theorem mem_compactL : ∀ {l : List (List Int)} {x : List Int}, x ∈ compactL l ↔ x ∈ l
  | [], x => by simp [compactL]
  | [y], x => by simp [compactL]
  | y :: z :: r, x => by
    rw [compactL]
    split
    · rename_i h; subst h; rw [mem_compactL]; simp
    · rw [List.mem_cons, mem_compactL, List.mem_cons (a := x) (b := y)]
theorem asc_compactL : ∀ {l : List (List Int)}, l.Pairwise (fun a b => ¬ ltT b a) → Asc (compactL l)
  | [], _ => List.Pairwise.nil
  | [y], _ => List.pairwise_singleton _ _
  | y :: z :: r, h => by
    obtain ⟨a1, a2⟩ := List.pairwise_cons.1 h
    rw [compactL]
    split
    · exact asc_compactL a2
    · rename_i hne
      refine List.pairwise_cons.2 ⟨fun x hx => ?_, asc_compactL a2⟩
      have hx' := mem_compactL.1 hx
      have hz : ltT y z := by
        rcases ltT_total y z with g | g | g
        · exact g
        · exact (hne g).elim
        · exact (a1 z (by simp) g).elim
      rcases List.mem_cons.1 hx' with e | e
      · subst e; exact hz
      · have h3 := (List.pairwise_cons.1 a2).1 x e
        rcases ltT_total z x with g | g | g
        · exact ltT_trans hz g
        · subst g; exact hz
        · exact (h3 g).elim
/-- the parts, by where they begin -/
def partsL (s : Sg) (t : List Int) : List (List Int) := (PL s t.length t).map (·.2)
def partsT (s : Sg) (t : List Int) : List (List Int) := (partsL s t).foldl (fun l x => withL x l) []
def partsE (s : Sg) (t : List Int) : List (List Int) × Int := if okT s t = true then (partsT s t, 0) else ([], 1)
theorem foldl_with_asc : ∀ (m l : List (List Int)), Asc l → Asc (m.foldl (fun l x => withL x l) l) ∧ ∀ x, x ∈ m.foldl (fun l x => withL x l) l ↔ x ∈ l ∨ x ∈ m
  | [], l, h => ⟨h, fun x => by simp⟩
  | y :: m, l, h => by
    obtain ⟨h1, h2⟩ := foldl_with_asc m (withL y l) (asc_withL h)
    refine ⟨h1, fun x => ?_⟩
    rw [List.foldl_cons, h2, mem_withL, List.mem_cons]
    constructor
    · rintro ((h | h) | h) <;> simp [h]
    · rintro (h | h | h) <;> simp [h]
theorem partsT_asc (s : Sg) (t : List Int) : Asc (partsT s t) := (foldl_with_asc _ [] List.Pairwise.nil).1
theorem mem_partsT {s : Sg} {t x : List Int} : x ∈ partsT s t ↔ x ∈ partsL s t := by
  have := (foldl_with_asc (partsL s t) [] List.Pairwise.nil).2 x
  unfold partsT; rw [this]; simp
/-- sorted and compacted -/
theorem partsT_sorted {s : Sg} {t : List Int} {l : List (List Int)} (hp : l.Perm (partsL s t)) (hs : l.Pairwise (fun a b => ¬ ltT b a)) : compactL l = partsT s t :=
  Asc.ext (asc_compactL hs) (partsT_asc s t) (fun x => by rw [mem_compactL, mem_partsT]; exact hp.mem_iff)
theorem partsL_len {s : Sg} {t : List Int} (h : okT s t = true) : (partsL s t).length = t.length := by unfold partsL; rw [List.length_map, PL_len h (Nat.le_refl _)]
theorem partsL_get {s : Sg} {t : List Int} (h : okT s t = true) {k : Nat} (hk : k < (partsL s t).length) : (partsL s t)[k] = partAt s (t.drop k) := by
  have hl : k < t.length := by rw [← partsL_len h]; exact hk
  obtain ⟨hj, he⟩ := ((way_place h).2 k hl).2.1
  have h1 : (partsL s t)[k] = ((PL s t.length t)[k]).2 := by simp [partsL]
  rw [h1, he]
/-- a part is at some path -/
theorem part_path {s : Sg} {t x : List Int} (h : okT s t = true) (hx : x ∈ partsT s t) : pathsT s t x ≠ [] ∧ okT s x = true := by
  obtain ⟨e, he, rfl⟩ := List.mem_map.1 (mem_partsT.1 hx)
  refine ⟨fun hn => ?_, ?_⟩
  · unfold pathsT at hn
    rw [List.map_eq_nil_iff, List.filter_eq_nil_iff] at hn
    exact hn e he (by simp)
  · obtain ⟨k, hk, rfl⟩ := List.getElem_of_mem he
    have hl : k < t.length := by rw [← PL_len h (Nat.le_refl _)]; exact hk
    obtain ⟨-, ⟨hj, hg⟩, r, hr⟩ := (way_place h).2 k hl
    rw [hg]
    exact (okT_part h hr).1
theorem partsT_len {s : Sg} {t : List Int} (h : okT s t = true) : (partsT s t).length ≤ 60 := by
  have : ∀ (m l : List (List Int)), (m.foldl (fun l x => withL x l) l).length ≤ l.length + m.length := by
    intro m
    induction m with
    | nil => intro l; simp
    | cons y m ih => intro l; rw [List.foldl_cons, List.length_cons]; have := ih (withL y l); have := withL_len (t := y) (l := l); omega
  have h1 := this (partsL s t) []
  rw [partsL_len h] at h1
  have := (okT_parts h).2.2.1
  unfold partsT
  simp at h1; omega
end Go.Proofs.YthkamffmpejckaaGreatDoor

/- Walks: With, Parts of the reference. -/
namespace Go.Proofs.YthkamffmpejckaaGreatDoor
open Go Go.RowKit Go.Maps

theorem compareT_cases (a b : List Int) : compareT a b = -1 ∨ compareT a b = 0 ∨ compareT a b = 1 := by have := compareT_range a b; omega
def withRel (t : List Int) (l : List (List Int)) (w : World) (out put i : Value) (wr : World) : Prop :=
  ∃ (k : Nat) (X : List (List Int)) (b : Bool), i = .int .i64 k ∧ k ≤ l.length ∧ put = .bool b ∧ OwnTs (fun _ => True) wr w.heap.size out X ∧ Below w.heap.size w wr ∧ X.length ≤ k + 1 ∧
    (b = false → X = l.take k ∧ withL t l = l.take k ++ withL t (l.drop k)) ∧ (b = true → withL t l = X ++ l.drop k)
theorem withL_step {t : List Int} {l : List (List Int)} {k : Nat} (hk : k < l.length) (h : withL t l = l.take k ++ withL t (l.drop k)) :
    (compareT t l[k] = -1 → withL t l = (l.take k ++ [t] ++ [l[k]]) ++ l.drop (k + 1)) ∧ (compareT t l[k] = 0 → withL t l = (l.take k ++ [l[k]]) ++ l.drop (k + 1)) ∧
    (compareT t l[k] = 1 → l.take k ++ [l[k]] = l.take (k + 1) ∧ withL t l = l.take (k + 1) ++ withL t (l.drop (k + 1))) := by
  have hd : l.drop k = l[k] :: l.drop (k + 1) := List.drop_eq_getElem_cons hk
  have ht : l.take (k + 1) = l.take k ++ [l[k]] := List.take_succ_eq_append_getElem hk
  rw [hd, withL] at h
  refine ⟨fun e => ?_, fun e => ?_, fun e => ?_⟩
  · rw [e, if_pos (by omega)] at h; rw [h]; simp
  · rw [e, if_neg (by omega), if_pos rfl] at h; rw [h]; simp
  · rw [e, if_neg (by omega), if_neg (by omega)] at h
    exact ⟨ht.symm, by rw [h, ht, List.append_assoc]; rfl⟩

set_option maxRecDepth 20000 in
set_option maxHeartbeats 8000000 in
theorem With_any {S1 S2 : Nat → Prop} (a1 a2 : Option Addr) (c1 c2 : Nat) (l : List (List Int)) (t : List Int) (w : World) (h1 : Terms S1 w a1 c1 l) (h2 : Ints S2 w a2 c2 t) (hl : l.length ≤ 100000) :
    Calls Tryz.prog 53 #[.slice a1 l.length c1, .slice a2 t.length c2] w (retTerms (fun _ => True) w (withL t l)) := by
  have m1 := h1.le
  have m2 := h2.le
  have h1H := Lib.hid h1.lt
  have h2H := Lib.hid h2.lt
  clear h1 h2
  go_enter Tryz.func53, Tryz.ntmps53
  go_wp2_with fail
  go_loopw [5, 6, 7] (fun out put i wr => withRel t l w out put i wr) (fun _ _ i _ => l.length - (intOf i).toNat)
  case atStart => exact ⟨0, [], false, rfl, Nat.zero_le _, rfl, .nil _ _ _ _ _, .refl _ _, by simp, fun _ => by simp, fun h => by cases h⟩
  case round =>
    obtain ⟨k, X, b, rfl, hk, rfl, ho, hB, hX, hf, ht⟩ := hrel
    have hoff : ∀ (out : Value) (X : List (List Int)) (W : World), OwnTs (fun _ => True) W w.heap.size out X → ∀ b, b < w.heap.size → Off (fun _ => True) out b := fun out X W ho b hb => ⟨trivial, fun e => by have := (ho.lt b e.symm).1; omega⟩
    have hpush : ∀ (out : Value) (X : List (List Int)) (W : World), OwnTs (fun _ => True) W w.heap.size out X → Below w.heap.size w W → X.length ≤ 200000 → ∀ {S : Nat → Prop} {a : Option Addr} {c : Nat} {u : List Int}, Ints (fun b => S b ∧ b < w.heap.size) w a c u →
        ∃ v' w', RowKit.Hid ((Builtin.append_ #[24, 24] 24 #[out, .slice (some ⟨W.heap.size, 0, none⟩) 1 1]).run Tryz.prog (W.alloc (.cells #[.slice a u.length c] 34)) = .ok v' w') ∧ RowKit.Hid (OwnTs (fun _ => True) w' w.heap.size v' (X ++ [u])) ∧ RowKit.Hid (Below w.heap.size w w') := fun out X W ho hB hX S a c u hu =>
      Ts_push ho hB (.refl _ _) ((hu.below hB).weak (fun b hb => hoff out X W ho b hb.2)) (by omega)
    have hpushH := Lib.hid @hpush
    clear hoff hpush
    by_cases hlt : k < l.length
    · obtain ⟨bl, ol, a3, c3, rfl, -, q3, hI3⟩ := h1H.out.sub k hlt
      have q3' := cell_later hB q3
      have hst : b = false → _ := fun e => withL_step (t := t) hlt (hf e).2
      have hX0 : b = false → X = l.take k := fun e => (hf e).1
      have hd : l.drop k = l[k] :: l.drop (k + 1) := List.drop_eq_getElem_cons hlt
      rw [hd] at ht
      have cc := fun W (hb : Below w.heap.size w W) => rCompare_any a2 a3 c2 c3 t l[k] W (h2H.out.below hb) (hI3.below hb)
      obtain ⟨x, hx⟩ : ∃ x, l[k] = x := ⟨_, rfl⟩
      rw [hx] at cc hst q3' q3 hI3 ht
      have ccH := Lib.hid cc
      have hstH := Lib.hid hst
      have hX0H := Lib.hid hX0
      have htH := Lib.hid ht
      have hoH := Lib.hid ho
      have hBH := Lib.hid hB
      have hI3H := Lib.hid hI3
      have hxH := Lib.hid hx
      have q3H := Lib.hid q3
      clear cc hst hX0 ht ho hB hI3 hf hd q3 hx
      cases b with
      | true =>
        obtain ⟨v', w', r1, o1, b1⟩ := hpushH.out u5 X wr hoH.out hBH.out (by omega) hI3H.out
        clear hpushH
        go_wp2_with (at_builtin; refine wpList_append_run rfl _ _ _ rfl rfl rfl r1.out ?_)
        go_roundw
        case rel => exact ⟨k + 1, _, true, by go_num, by omega, rfl, o1.out, b1.out, by simp; omega, (fun e => by cases e), fun _ => by rw [htH.out rfl]; simp⟩
        case measure => simp [intOf]; omega
      | false =>
        have hX0 := hX0H.out rfl
        have hst := hstH.out rfl
        have hce := ccH.out
        have hXk : X.length ≤ k := by rw [hX0, List.length_take]; omega
        clear ccH
        rcases compareT_cases t x with e | e | e
        · rw [e] at hce
          have hgoal := Lib.hid (hst.1 e)
          have hX0K := Lib.hid hX0
          have hceH := Lib.hid hce
          clear hce hst e hX0
          go_wp2_with fail
          (with_reducible refine (hceH.out _ hBH.out).mono ?_)
          rintro e w4 ⟨rfl, hd4⟩
          have hd4' := hd4.below wr.heap.size
          clear hd4
          have hB4 := Lib.hid (bcall hBH.out hd4')
          have q4 := cell_later hd4' q3'
          go_wp2_with fail
          (with_reducible refine (hceH.out _ hB4.out).mono ?_)
          rintro e w5 ⟨rfl, hd5⟩
          have hd5' := hd5.below w4.heap.size
          clear hd5
          have hB5 := Lib.hid (bcall hB4.out hd5')
          have q5 := cell_later hd5' q4
          have ho5 : OwnTs (fun _ => True) w5 w.heap.size u5 X := (OwnL.call hoH.out hd4').call hd5'
          obtain ⟨v1, W1, r1, o1, b1⟩ := hpushH.out u5 X _ ho5 hB5.out (by omega) h2H.out
          obtain ⟨v2, W2, r2, o2, b2⟩ := hpushH.out v1 (X ++ [t]) W1 o1.out b1.out (by simp; omega) hI3H.out
          have q6H := Lib.hid (show W1.cell? ⟨bl, ol + k, none⟩ = some (.slice a3 x.length c3) from cell_later b1.out q3H.out)
          have q6 := q6H.out
          clear hpushH ho5 q4 q3' hd4' hd5'
          go_wp2_with (first | (at_builtin; refine wpList_append_run rfl _ _ _ rfl rfl rfl r1.out ?_; clear r1) | (at_builtin; refine wpList_append_run rfl _ _ _ rfl rfl rfl r2.out ?_))
          go_roundw
          case rel => exact ⟨k + 1, _, true, by go_num, by omega, rfl, o2.out, b2.out, by simp; omega, (fun e => by cases e), fun _ => by rw [hgoal.out, hX0K.out]⟩
          case measure => simp [intOf]; omega
        · rw [e] at hce
          have hgoal := Lib.hid (hst.2.1 e)
          have hX0K := Lib.hid hX0
          have hceH := Lib.hid hce
          clear hce hst e hX0
          go_wp2_with fail
          (with_reducible refine (hceH.out _ hBH.out).mono ?_)
          rintro e w4 ⟨rfl, hd4⟩
          have hd4' := hd4.below wr.heap.size
          clear hd4
          have hB4 := Lib.hid (bcall hBH.out hd4')
          have q4 := cell_later hd4' q3'
          go_wp2_with fail
          (with_reducible refine (hceH.out _ hB4.out).mono ?_)
          rintro e w5 ⟨rfl, hd5⟩
          have hd5' := hd5.below w4.heap.size
          clear hd5
          have hB5 := Lib.hid (bcall hB4.out hd5')
          have q5 := cell_later hd5' q4
          have ho5 : OwnTs (fun _ => True) w5 w.heap.size u5 X := (OwnL.call hoH.out hd4').call hd5'
          obtain ⟨v1, W1, r1, o1, b1⟩ := hpushH.out u5 X _ ho5 hB5.out (by omega) hI3H.out
          clear hpushH ho5 q4 q3' hd4' hd5'
          go_wp2_with (at_builtin; refine wpList_append_run rfl _ _ _ rfl rfl rfl r1.out ?_)
          go_roundw
          case rel => exact ⟨k + 1, _, true, by go_num, by omega, rfl, o1.out, b1.out, by simp; omega, (fun e => by cases e), fun _ => by rw [hgoal.out, hX0K.out]⟩
          case measure => simp [intOf]; omega
        · rw [e] at hce
          have hgoal := Lib.hid (hst.2.2 e)
          have hX0K := Lib.hid hX0
          have hceH := Lib.hid hce
          clear hce hst e hX0
          go_wp2_with fail
          (with_reducible refine (hceH.out _ hBH.out).mono ?_)
          rintro e w4 ⟨rfl, hd4⟩
          have hd4' := hd4.below wr.heap.size
          clear hd4
          have hB4 := Lib.hid (bcall hBH.out hd4')
          have q4 := cell_later hd4' q3'
          have ho4 : OwnTs (fun _ => True) w4 w.heap.size u5 X := OwnL.call hoH.out hd4'
          obtain ⟨v1, W1, r1, o1, b1⟩ := hpushH.out u5 X _ ho4 hB4.out (by omega) hI3H.out
          clear hpushH ho4 q3' hd4'
          go_wp2_with (at_builtin; refine wpList_append_run rfl _ _ _ rfl rfl rfl r1.out ?_)
          go_roundw
          case rel => exact ⟨k + 1, _, false, by go_num, by omega, rfl, o1.out, b1.out, by simp; omega, (fun _ => by rw [hX0K.out]; exact hgoal.out), fun e => by cases e⟩
          case measure => simp [intOf]; omega
    · obtain rfl : k = l.length := by omega
      have hnil : l.drop l.length = [] := List.drop_eq_nil_of_le (Nat.le_refl _)
      rw [hnil] at hf ht
      cases b with
      | true =>
        have hfin := ht rfl
        rw [List.append_nil] at hfin
        have hfinH := Lib.hid hfin
        clear hf ht hfin hnil hpushH
        go_wp2_with fail
        go_ret
        exact ⟨_, rfl, by rw [hfinH.out]; exact ho, hB⟩
      | false =>
        obtain ⟨e1, e2⟩ := hf rfl
        obtain ⟨v', w', r1, o1, b1⟩ := hpushH.out u5 X wr ho hB (by omega) h2H.out
        have hfinH : RowKit.Hid (withL t l = X ++ [t]) := Lib.hid (by rw [e2, e1]; rfl)
        clear hf ht hnil hpushH ho hB e1 e2
        go_wp2_with (at_builtin; refine wpList_append_run rfl _ _ _ rfl rfl rfl r1.out ?_)
        go_ret
        exact ⟨_, rfl, by rw [hfinH.out]; exact o1.out, b1.out⟩
end Go.Proofs.YthkamffmpejckaaGreatDoor

/- Walks: CompactFunc of the library at lists of terms, with the closure that compares. -/
namespace Go.Proofs.YthkamffmpejckaaGreatDoor
open Go Go.RowKit Go.Maps

theorem compactL_snoc : ∀ (l : List (List Int)) (x y : List Int), compactL (l ++ [y] ++ [x]) = if y = x then compactL (l ++ [y]) else compactL (l ++ [y]) ++ [x]
  | [], x, y => by
    simp only [List.nil_append, List.cons_append, compactL]
    by_cases h : y = x
    · simp [h]
    · simp [h]
  | [a], x, y => by
    have ih := compactL_snoc [] x y
    simp only [List.nil_append] at ih
    simp only [List.cons_append, List.nil_append, compactL] at ih ⊢
    by_cases h : a = y
    · simp only [if_pos h] at ih ⊢; exact ih
    · simp only [if_neg h]
      by_cases h2 : y = x
      · simp [h2]
      · simp [h2]
  | a :: b :: r, x, y => by
    have ih := compactL_snoc (b :: r) x y
    simp only [List.cons_append] at ih ⊢
    rw [compactL, compactL]
    by_cases h : a = b
    · rw [if_pos h, if_pos h]; exact ih
    · rw [if_neg h, if_neg h, ih]
      by_cases h2 : y = x
      · rw [if_pos h2, if_pos h2]
      · rw [if_neg h2, if_neg h2]; rfl
theorem compactL_take {l : List (List Int)} {m : Nat} (h : m + 1 < l.length) : compactL (l.take (m + 2)) = if l[m] = l[m + 1] then compactL (l.take (m + 1)) else compactL (l.take (m + 1)) ++ [l[m + 1]] := by
  have h1 : l.take (m + 1) = l.take m ++ [l[m]] := List.take_succ_eq_append_getElem (by omega)
  have h2 : l.take (m + 2) = l.take (m + 1) ++ [l[m + 1]] := List.take_succ_eq_append_getElem h
  rw [h2, h1]; exact compactL_snoc _ _ _

section
variable {S : Nat → Prop} {w : World} {base g n cap : Nat} {l : List (List Int)}
theorem OwnTs.take (h : OwnTs S w base (.slice (some ⟨g, 0, none⟩) n cap) l) (hn : n = l.length) {k : Nat} (hk : k ≤ n) : OwnTs S w base (.slice (some ⟨g, 0, none⟩) k cap) (l.take k) := by
  subst hn
  obtain ⟨xs, ho, hl, hx⟩ := h
  have h1 := OwnTs.ones hl hx
  have hlk : (l.take k).length = k := by simp; omega
  have hfl : (xs.take k).flatten = xs.flatten.take k := by
    clear ho hx hl hk hlk
    induction xs generalizing k with
    | nil => simp
    | cons x r ih =>
      obtain ⟨y, rfl⟩ := List.length_eq_one_iff.1 (h1 x (by simp))
      cases k with
      | zero => rfl
      | succ k => simp only [List.take_succ_cons, List.flatten_cons, List.cons_append, List.nil_append]; rw [ih (fun z hz => h1 z (by simp [hz]))]
  refine ⟨xs.take k, ?_, by simp [hl], fun i g1 g2 => ?_⟩
  · rw [hlk, hfl]
    obtain ⟨e1, e2⟩ := ho
    simp only [slE, Nat.mul_one] at e1 e2 ⊢
    refine ⟨by simp [e1]; omega, ?_⟩
    rcases e2 with ⟨e2, -⟩ | ⟨g', cap', cur, e3, e4, e5, e6, e7, e8, e9⟩
    · cases e2
    · cases e3
      refine .inr ⟨g, cap, cur, rfl, e4, e5, by omega, e7, by rw [Nat.mul_one]; exact e8, ?_⟩
      rw [← e9, List.take_take, Nat.mul_one, Nat.min_eq_left hk]
  · simp only [List.getElem_take]
    exact hx i (by simp at g1; omega) (by simp at g2; omega)
/-- the last places are wiped -/
theorem OwnTs.wipe (h : OwnTs S w base (.slice (some ⟨g, 0, none⟩) n cap) l) (hn : n = l.length) : ∀ (m k : Nat), k + m ≤ n →
    ∃ l', OwnTs S (w.setCells g k (List.replicate m (.slice none 0 0))) base (.slice (some ⟨g, 0, none⟩) n cap) l' ∧ l'.length = l.length ∧ l'.take k = l.take k ∧ w.grownBy (w.setCells g k (List.replicate m (.slice none 0 0))) (some g) := by
  intro m
  induction m generalizing w l with
  | zero => intro k _; exact ⟨l, h, rfl, rfl, ⟨rfl, rfl, rfl, Nat.le_refl _, fun _ _ _ => rfl⟩⟩
  | succ m ih =>
    intro k hk
    rw [List.replicate_succ, World.setCells]
    have hs := OwnTs.set h hn k (a := none) (c := 0) (u := []) .empty
    obtain ⟨l', i1, i2, i3, i4⟩ := ih hs.1 (by simpa using hn) (k + 1) (by omega)
    refine ⟨l', i1, by simpa using i2, ?_, ⟨i4.os.trans hs.2.os, i4.tape.trans hs.2.tape, i4.output.trans hs.2.output, Nat.le_trans hs.2.size i4.size, fun b hb hne => (i4.block b (Nat.lt_of_lt_of_le hb hs.2.size) hne).trans (hs.2.block b hb hne)⟩⟩
    have := congrArg (List.take k) i3
    rw [List.take_take, List.take_take, Nat.min_eq_left (by omega)] at this
    rw [this, List.take_set, List.set_eq_of_length_le (by simp; omega)]
end

theorem grown_below {w w1 w2 : World} {o : Option Nat} (h : w.grownBy w1 o) (b : Below w1.heap.size w1 w2) : w.grownBy w2 o :=
  ⟨b.os.trans h.os, b.tape.trans h.tape, b.output.trans h.output, Nat.le_trans h.size b.size, fun x hx hne => (b.block x (Nat.lt_of_lt_of_le hx h.size)).trans (h.block x hx hne)⟩
theorem grown_by {w w1 w2 : World} {o : Option Nat} (h : w.grownBy w1 o) (b : w1.grownBy w2 o) : w.grownBy w2 o :=
  ⟨b.os.trans h.os, b.tape.trans h.tape, b.output.trans h.output, Nat.le_trans h.size b.size, fun x hx hne => (b.block x (Nat.lt_of_lt_of_le hx h.size) hne).trans (h.block x hx hne)⟩

def cmpRel1 (l : List (List Int)) (w : World) (i : Value) (wr : World) : Prop := ∃ k : Nat, i = .int .i64 (k + 1 : Nat) ∧ k + 1 ≤ l.length ∧ compactL (l.take (k + 1)) = l.take (k + 1) ∧ Drew w wr
def cmpRel2 (S : Nat → Prop) (l : List (List Int)) (k0 base g cap : Nat) (w : World) (i i2 : Value) (wr : World) : Prop :=
  ∃ (kk k2 : Nat) (L : List (List Int)), i = .int .i64 kk ∧ i2 = .int .i64 (k2 + 1 : Nat) ∧ k0 + k2 + 1 ≤ l.length ∧ L.length = l.length ∧ kk ≤ k0 + k2 ∧ OwnTs S wr base (.slice (some ⟨g, 0, none⟩) l.length cap) L ∧
    (compactL (l.take (k0 + k2 + 1))).length = kk ∧ L.take kk = compactL (l.take (k0 + k2 + 1)) ∧ (∀ j, k0 + k2 ≤ j → L[j]? = l[j]?) ∧ w.grownBy wr (some g)

end Go.Proofs.YthkamffmpejckaaGreatDoor

/- The library's CompactFunc as package kernel calls it. -/
namespace Go.Proofs.YthkamffmpejckaaGreatDoor
open Go Go.RowKit Go.Maps

set_option maxHeartbeats 1000000 in
theorem kEq_any {S1 S2 : Nat → Prop} (a1 a2 : Option Addr) (c1 c2 : Nat) (l1 l2 : List Int) (w : World) (h1 : Ints S1 w a1 c1 l1) (h2 : Ints S2 w a2 c2 l2) :
    Calls Tryz.prog 83 #[.slice a1 l1.length c1, .slice a2 l2.length c2] w fun e w' => e = .returned (.bool (decide (l1 = l2))) ∧ Drew w w' := by
  have ce := Equal_any a1 a2 c1 c2 l1 l2 w h1 h2
  obtain ⟨x, hx⟩ : ∃ x, decide (l1 = l2) = x := ⟨_, rfl⟩
  rw [hx] at ce ⊢
  have ceH := Lib.hid ce
  clear ce h1 h2 hx
  go_enter Tryz.func83, Tryz.ntmps83
  go_wp2_with fail
  (with_reducible refine ceH.out.mono ?_)
  rintro e w1 ⟨rfl, hd⟩
  go_wp2_with fail
  go_ret
  exact ⟨rfl, hd⟩

variable {S : Nat → Prop} {w : World} {base g n cap : Nat} {l : List (List Int)}
set_option maxRecDepth 20000 in
set_option maxHeartbeats 8000000 in
theorem KCompact_any {S : Nat → Prop} {w : World} {base g cap : Nat} {l : List (List Int)} (ho : OwnTs S w base (.slice (some ⟨g, 0, none⟩) l.length cap) l) (h0 : 1 ≤ l.length) (hl : l.length ≤ 1000000) :
    Calls Tryz.prog 82 #[.slice (some ⟨g, 0, none⟩) l.length cap, .func (.func 83) #[] #[]] w fun e w' =>
      ∃ m, e = .returned (.slice (some ⟨g, 0, none⟩) m cap) ∧ m = (compactL l).length ∧ OwnTs S w' base (.slice (some ⟨g, 0, none⟩) m cap) (compactL l) ∧ w.grownBy w' (some g) := by
  have hcap : l.length ≤ cap ∧ cap ≤ 9223372036854775807 := by
    obtain ⟨a, c, he, hs⟩ := OwnL.sl ho
    cases he
    have := hs.max
    unfold big at this
    exact ⟨hs.cap, this⟩
  obtain ⟨hcap1, hcap2⟩ := hcap
  have hoH := Lib.hid ho
  clear ho
  by_cases h2 : l.length < 2
  · have h1 : l.length = 1 := by omega
    have hc : compactL l = l := by
      match l, h1 with
      | [x], _ => rfl
    have hcH := Lib.hid hc
    clear hc
    go_enter Tryz.func82, Tryz.ntmps82
    go_wp2_with fail
    go_ret
    exact ⟨l.length, rfl, by rw [hcH.out], by rw [hcH.out]; exact hoH.out, rfl, rfl, rfl, Nat.le_refl _, fun _ _ _ => rfl⟩
  · go_enter Tryz.func82, Tryz.ntmps82
    go_wp2_with fail
    go_loopw [5] (fun i wr => cmpRel1 l w i wr) (fun i _ => l.length - (intOf i).toNat)
    case atStart => exact ⟨0, rfl, by omega, by
      match l, h0 with
      | x :: r, _ => rfl, .refl _⟩
    case round =>
      obtain ⟨k, rfl, hk, hcm, hd⟩ := hrel
      have hcmH := Lib.hid hcm
      clear hcm
      by_cases hlt : k + 1 < l.length
      · have hor := OwnL.call hoH.out (hd.below _)
        obtain ⟨a1, c1, q1, i1, -⟩ := OwnTs.cell hor rfl k (by omega)
        obtain ⟨a2, c2, q2, i2, -⟩ := OwnTs.cell hor rfl (k + 1) hlt
        have ce := fun n => kEq_any a2 a1 c2 c1 l[k + 1] l[k] (wr.drewN n) (i2.drewN n) (i1.drewN n)
        have hct := compactL_take hlt
        have hdH := Lib.hid hd
        have e1 : IntKind.i64.wrap (((k + 1 : Nat) : Int) - 1) = (k : Int) := by rw [show (((k + 1 : Nat) : Int) - 1) = (k : Int) by omega]; exact IntWalk.i64_in _ (by omega)
        have e2 : (0 : Int) ≤ ((k : Nat) : Int) := by omega
        by_cases hE : l[k + 1] = l[k]
        · rw [decide_eq_true hE] at ce
          rw [if_pos hE.symm] at hct
          have ceH := Lib.hid ce
          have hctH := Lib.hid hct
          clear ce hct hE i1 i2 hor hd
          go_wp2_with fail
          go_quiet ((go_at_call 83; exact quiet_drew (ceH.out _)))
          clear e1 e2 ceH q1 q2
          all_goals go_wp2_with fail
          go_loopw [5, 7] (fun i i2 wr2 => cmpRel2 S l (k + 1) base g cap w i i2 wr2) (fun i i2 wr2 => l.length - (intOf i2).toNat)
          case atStart =>
            have hB := (drew_more hdH.out nq).below w.heap.size
            exact ⟨k + 1, 0, l, rfl, rfl, by omega, rfl, by omega, OwnL.call hoH.out hB, by rw [Nat.add_zero, hctH.out, hcmH.out, List.length_take]; omega, by rw [Nat.add_zero, hctH.out, hcmH.out], fun _ _ => rfl, hB.os, hB.tape, hB.output, hB.size, fun b hb _ => hB.block b hb⟩
          case round =>
            obtain ⟨kk, k2, L, rfl, rfl, hk2, hL, hkk, hoL, hcl, hct2, hsame, hgr⟩ := hrel
            clear hcmH hctH hdH
            by_cases hlt2 : k + 1 + k2 + 1 < l.length
            · have hlt2' : k2 + 1 < l.length - (k + 1) := by omega
              obtain ⟨a3, c3, q3, i3, -⟩ := OwnTs.cell hoL hL.symm (k + 1 + k2) (by omega)
              obtain ⟨a4, c4, q4, i4, -⟩ := OwnTs.cell hoL hL.symm (k + 1 + (k2 + 1)) (by omega)
              have s3 : L[k + 1 + k2] = l[k + 1 + k2] := by
                have := hsame (k + 1 + k2) (Nat.le_refl _)
                rw [List.getElem?_eq_getElem (by omega), List.getElem?_eq_getElem (by omega)] at this
                exact Option.some.inj this
              have s4 : L[k + 1 + (k2 + 1)] = l[k + 1 + k2 + 1] := by
                have := hsame (k + 1 + (k2 + 1)) (by omega)
                rw [List.getElem?_eq_getElem (by omega), List.getElem?_eq_getElem (show k + 1 + (k2 + 1) < l.length by omega)] at this
                exact Option.some.inj this
              rw [s3] at q3 i3
              rw [s4] at q4 i4
              have ce := fun n => kEq_any a4 a3 c4 c3 l[k + 1 + k2 + 1] l[k + 1 + k2] (wr.drewN n) (i4.drewN n) (i3.drewN n)
              have hct := compactL_take hlt2
              have e1 : IntKind.i64.wrap (((k2 + 1 : Nat) : Int) - 1) = (k2 : Int) := by rw [show (((k2 + 1 : Nat) : Int) - 1) = (k2 : Int) by omega]; exact IntWalk.i64_in _ (by omega)
              have e2 : (0 : Int) ≤ ((k2 : Nat) : Int) := by omega
              by_cases hE : l[k + 1 + k2 + 1] = l[k + 1 + k2]
              · rw [decide_eq_true hE] at ce
                rw [if_pos hE.symm] at hct
                have ceH := Lib.hid ce
                have hctH := Lib.hid hct
                have hoLH := Lib.hid hoL
                have hclH := Lib.hid hcl
                have hct2H := Lib.hid hct2
                have hsameH := Lib.hid hsame
                have hgrH := Lib.hid hgr
                clear ce hct hE i3 i4 s3 s4 hoL hcl hct2 hsame hgr
                go_wp2_with fail
                go_quiet ((go_at_call 83; exact quiet_drew (ceH.out _)))
                clear e1 e2 ceH q3 q4
                all_goals go_wp2_with fail
                all_goals go_roundw
                case rel =>
                  have hB := (Drew.mk wr nq).below wr.heap.size
                  exact ⟨kk, k2 + 1, L, by go_num, by go_num, by omega, hL, by omega, OwnL.call hoLH.out hB, by rw [← hclH.out]; exact congrArg List.length hctH.out, hct2H.out.trans hctH.out.symm, fun j hj => hsameH.out j (by omega), grown_below hgrH.out hB⟩
                case measure => simp [intOf]; omega
              · rw [decide_eq_false hE] at ce
                rw [if_neg (fun e => hE e.symm)] at hct
                have ceH := Lib.hid ce
                have hctH := Lib.hid hct
                have hoLH := Lib.hid hoL
                have hclH := Lib.hid hcl
                have hct2H := Lib.hid hct2
                have hsameH := Lib.hid hsame
                have hgrH := Lib.hid hgr
                obtain ⟨a5, c5, q5, -, hf5⟩ := OwnTs.cell hoL hL.symm kk (by clear e1 e2 hcl hct2 ; omega)
                have hst := Lib.hid (fun nq0 : Nat => OwnTs.set (OwnL.call hoL ((Drew.mk wr nq0).below _)) hL.symm kk (i4.drewN nq0))
                clear ce hct hE i3 i4 s3 s4 hoL hcl hct2 hsame hgr
                go_wp2_with fail
                go_quiet ((go_at_call 83; exact quiet_drew (ceH.out _)))
                clear e1 e2 ceH q3
                all_goals go_wp2_with fail
                all_goals go_roundw
                case rel =>
                  have hs := hst.out nq
                  exact ⟨kk + 1, k2 + 1, L.set kk l[k + 1 + k2 + 1], by go_num, by go_num, by omega, by rw [List.length_set]; exact hL, by omega, hs.1, by rw [show k + 1 + (k2 + 1) + 1 = k + 1 + k2 + 2 by omega, hctH.out, List.length_append, hclH.out]; rfl, by
                      rw [show k + 1 + (k2 + 1) + 1 = k + 1 + k2 + 2 by omega, hctH.out, ← hct2H.out, List.take_succ_eq_append_getElem (by rw [List.length_set]; omega), List.getElem_set_self, List.take_set_of_le (Nat.le_refl _)], fun j hj => by
                      rw [List.getElem?_set_ne (by omega)]; exact hsameH.out j (by omega), grown_by (grown_below hgrH.out ((Drew.mk wr nq).below _)) hs.2⟩
                case measure => simp [intOf]; omega
            · have hn : k + 1 + k2 + 1 = l.length := by omega
              have hkl : kk < l.length := by omega
              have hkt : kk ≤ l.length := by omega
              have hdn : 0 < l.length - kk := by omega
              rw [hn, List.take_of_length_le (Nat.le_refl _)] at hcl hct2
              obtain ⟨l', w1, w2, w3, w4⟩ := OwnTs.wipe hoL hL.symm (l.length - kk) kk (by omega)
              rw [hct2] at w3
              have w5 := OwnTs.take w1 (by rw [w2]; exact hL.symm) hkt
              rw [w3] at w5
              have hclr := fun ty => Lib.run_clear_slice (P := Tryz.prog) wr 24 34 ty (.slice none 0 0) rfl (fun _ => rfl) rfl rfl g kk (l.length - kk) (cap - kk) hdn
                (fun j hj => by obtain ⟨_, _, q, -, -⟩ := OwnTs.cell hoL hL.symm (kk + j) (by omega); rw [q]; rfl)
                (fun j hj => by obtain ⟨_, _, -, -, q⟩ := OwnTs.cell hoL hL.symm (kk + j) (by omega); exact q)
              have w5H := Lib.hid w5
              have hclH := Lib.hid hcl
              have hgrH := Lib.hid (grown_by hgr w4)
              have hclrH := Lib.hid hclr
              clear w5 w4 w3 w2 w1 hclr hcl hct2 hsame hgr hoL
              go_wp2_with fail
              rw [hclrH.out 0]
              clear hclrH
              go_wp2_with fail
              go_ret
              exact ⟨kk, rfl, hclH.out.symm, w5H.out, hgrH.out⟩
        · rw [decide_eq_false hE] at ce
          rw [if_neg (fun e => hE e.symm)] at hct
          have ceH := Lib.hid ce
          have hctH := Lib.hid hct
          clear ce hct hE i1 i2 hor hd
          go_wp2_with fail
          go_quiet ((go_at_call 83; exact quiet_drew (ceH.out _)))
          clear e1 e2 ceH q1 q2
          all_goals go_wp2_with fail
          all_goals go_roundw
          case rel => exact ⟨k + 1, by go_num, by omega, by rw [hctH.out, hcmH.out]; exact (List.take_succ_eq_append_getElem hlt).symm, drew_more hdH.out _⟩
          case measure => simp [intOf]; omega
      · obtain hkl : k + 1 = l.length := by omega
        have hcm := hcmH.out
        rw [hkl, List.take_of_length_le (Nat.le_refl _)] at hcm
        have hcmH := Lib.hid hcm
        have hklH := Lib.hid hkl
        clear hcm hkl
        go_wp2_with fail
        go_ret
        have hB := hd.below w.heap.size
        exact ⟨l.length, rfl, by rw [hcmH.out], by rw [hcmH.out]; exact OwnL.call hoH.out hB, hB.os, hB.tape, hB.output, hB.size, fun b hb _ => hB.block b hb⟩
end Go.Proofs.YthkamffmpejckaaGreatDoor

/- The library's sort at lists of terms, under the program's Compare. -/
namespace Go.Proofs.YthkamffmpejckaaGreatDoor
open Go Go.RowKit Go.Maps

set_option maxHeartbeats 1000000 in
theorem Compare_exact {S1 S2 : Nat → Prop} (a1 a2 : Option Addr) (c1 c2 : Nat) (l1 l2 : List Int) (w : World) (h1 : Ints S1 w a1 c1 l1) (h2 : Ints S2 w a2 c2 l2) :
    Calls Tryz.prog 81 #[.slice a1 l1.length c1, .slice a2 l2.length c2] w fun e w' => e = .returned (.int .i64 (compareT l1 l2)) ∧ ∃ q os', w' = Go.Sort.grow (w.drewN q) os' := by
  have m1 := h1.le
  have m2 := h2.le
  have ho := compareT_or l1 l2
  have hr := lexc_range l1 l2
  have c1 := cmpInt_any l1.length l2.length w
  have hc : -1 ≤ cmpI l1.length l2.length ∧ cmpI l1.length l2.length ≤ 1 := by rcases cmpI_cases (l1.length : Int) l2.length with ⟨h, _⟩ | ⟨h, _⟩ | ⟨h, _⟩ <;> rw [h] <;> omega
  have c2 := slCompare_any a1 a2 _ _ l1 l2 w h1 h2
  generalize cmpI l1.length l2.length = x at *
  generalize lexc l1 l2 = y at *
  have hI := Ints.new w [x, y] 3 (by unfold big; simp) (by intro z hz; simp at hz; unfold inRange; rcases hz with rfl | rfl <;> omega)
  have c3 := Or_any _ _ [x, y] _ hI
  have he : orI [x, y] = compareT l1 l2 := by
    rw [← ho]; simp only [orI]
    by_cases hx : x = 0 <;> by_cases hy : y = 0 <;> simp [hx, hy]
  rw [he] at c3
  have c1H := Lib.hid c1
  have c2H := Lib.hid c2
  have c3H := Lib.hid c3
  clear c1 c2 c3 he ho hI h1 h2
  go_enter Tryz.func81, Tryz.ntmps81
  go_wp2_with fail
  refine c1H.out.mono ?_
  rintro e w1 ⟨rfl, rfl⟩
  go_wp2_with fail
  refine c2H.out.mono ?_
  rintro e w1 ⟨rfl, rfl⟩
  go_wp2_with fail
  refine c3H.out.mono ?_
  rintro e w1 ⟨rfl, rfl⟩
  go_wp2_with fail
  go_ret
  exact ⟨rfl, 0, #[_], Go.Sort.alloc_eq_grow _ _⟩


/-- a list of numbers that lies in the world w off the row -/
structure Lain (S : Nat → Prop) (w : World) where
  a : Option Addr
  c : Nat
  l : List Int
  ok : Ints S w a c l
instance (S : Nat → Prop) (w : World) : Inhabited (Lain S w) := ⟨⟨none, 0, [], .empty⟩⟩
def Lain.enc {S : Nat → Prop} {w : World} (x : Lain S w) : Value := .slice x.a x.l.length x.c
def Lain.cf {S : Nat → Prop} {w : World} (x y : Lain S w) : Int := compareT x.l y.l

theorem ltOf_yes {S : Nat → Prop} {w : World} {x y : Lain S w} (h : ltOf Lain.cf x y = true) : ltT x.l y.l := by
  have h' : decide (compareT x.l y.l < 0) = true := h
  show compareT x.l y.l < 0
  exact of_decide_eq_true h'
theorem ltOf_no {S : Nat → Prop} {w : World} {x y : Lain S w} (h : ltOf Lain.cf x y = false) : ¬ ltT x.l y.l := by
  have h' : decide (compareT x.l y.l < 0) = false := h
  show ¬ compareT x.l y.l < 0
  exact of_decide_eq_false h'
theorem ltOf_mk {S : Nat → Prop} {w : World} {x y : Lain S w} (h : ltT x.l y.l) : ltOf Lain.cf x y = true := by
  show decide (compareT x.l y.l < 0) = true
  exact decide_eq_true h
theorem ltOf_mkno {S : Nat → Prop} {w : World} {x y : Lain S w} (h : ¬ ltT x.l y.l) : ltOf Lain.cf x y = false := by
  show decide (compareT x.l y.l < 0) = false
  exact decide_eq_false h
theorem swo_cf {S : Nat → Prop} {w : World} : Go.Sort.SWO (ltOf (Lain.cf (S := S) (w := w))) where
  irrefl x := ltOf_mkno (ltT_irrefl _)
  trans x y z h1 h2 := ltOf_mk (ltT_trans (ltOf_yes h1) (ltOf_yes h2))
  ntrans x y z h1 h2 := ltOf_mkno fun h => by
    have h1 := ltOf_no h1
    have h2 := ltOf_no h2
    rcases ltT_total x.l y.l with g | g | g
    · exact h1 g
    · have h' : ltT x.l z.l := h
      rw [g] at h'; exact h2 h'
    · rcases ltT_total y.l z.l with k | k | k
      · exact h2 k
      · rw [k] at g; exact ltT_irrefl _ (ltT_trans h g)
      · exact ltT_irrefl _ (ltT_trans h (ltT_trans k g))

section
variable {α : Type} [Inhabited α]
theorem putRow_grown (enc : α → Value) (w : World) (blk off : Nat) (d : Array α) : w.grownBy (Go.Sort.putRow enc w blk off d) (some blk) := by
  refine ⟨rfl, rfl, rfl, by simp, fun k _ hk => ?_⟩
  have : blk ≠ k := fun e => hk (by rw [e])
  simp [Go.Sort.putRow, Go.Sort.mapBlock, Array.getElem?_modify, this]
theorem grow_grown (w : World) (os : Array Obj) (o : Option Nat) : w.grownBy (Go.Sort.grow w os) o := by
  refine ⟨rfl, rfl, rfl, by simp [Go.Sort.grow], fun k hk _ => ?_⟩
  simp only [Go.Sort.grow]
  rw [Array.getElem?_append_left hk]
theorem ahead_grown (w : World) (n : Nat) (o : Option Nat) : w.grownBy (Go.Sort.ahead w n) o := ⟨rfl, rfl, rfl, Nat.le_refl _, fun _ _ _ => rfl⟩
theorem sortWorld_grown (enc : α → Value) (w : World) (blk off m : Nat) (dk : Array α) (os : Array Obj) : w.grownBy (sortWorld enc w blk off m dk os) (some blk) :=
  grown_by (grown_by (ahead_grown w m _) (putRow_grown enc _ blk off dk)) (grow_grown _ os _)
end
section
variable {S : Nat → Prop} {w : World} {base g n cap : Nat}
/-- the row laid anew -/
theorem OwnTs.putRow {α : Type} [Inhabited α] (enc : α → Value) (f : α → List Int) (l : List (List Int)) (d d' : Array α) (h : OwnTs S w base (.slice (some ⟨g, 0, none⟩) n cap) l) (hn : n = l.length) (hd : d.size = n) (hd' : d'.size = n) (hH : Go.Sort.Holds enc w g 0 d)
    (hl : ∀ j, j < n → l[j]? = some (f d[j]!))
    (he : ∀ x, ∃ a c, enc x = .slice a (f x).length c ∧ Ints (Off S (.slice (some ⟨g, 0, none⟩) n cap)) w a c (f x)) :
    ∀ k, k ≤ n → ∃ dk : Array α, dk.size = n ∧ (∀ j, j < k → dk[j]! = d'[j]!) ∧ OwnTs S (Go.Sort.putRow enc w g 0 dk) base (.slice (some ⟨g, 0, none⟩) n cap) (dk.toList.map f) := by
  intro k
  induction k with
  | zero =>
    intro _
    refine ⟨d, hd, fun j hj => by omega, ?_⟩
    rw [Go.Sort.putRow_self enc w g 0 d hH]
    have : d.toList.map f = l := by
      apply List.ext_getElem?
      intro j
      by_cases hj : j < n
      · rw [hl j hj, List.getElem?_map, Array.getElem?_toList, getElem!_pos d j (by omega), Array.getElem?_eq_getElem (by omega)]; rfl
      · rw [List.getElem?_eq_none (by simp; omega), List.getElem?_eq_none (by omega)]
    rw [this]; exact h
  | succ k ih =>
    intro hk
    obtain ⟨dk, e1, e2, e3⟩ := ih (by omega)
    obtain ⟨a, c, q1, q2⟩ := he d'[k]!
    have hA : Ints (Off S (.slice (some ⟨g, 0, none⟩) n cap)) (Go.Sort.putRow enc w g 0 dk) a c (f d'[k]!) :=
      q2.mono (fun _ _ h => h) (Agree.of_grown (putRow_grown enc w g 0 dk) fun b hb e => hb.2 (by injection e with e; rw [e]; rfl))
    have hs := OwnTs.set e3 (by simp [e1]) k hA
    rw [← q1, show (⟨g, k, none⟩ : Addr) = ⟨g, 0 + k, none⟩ by rw [Nat.zero_add], Go.Sort.putRow_set enc w g 0 dk k _ (by omega)] at hs
    refine ⟨dk.setIfInBounds k d'[k]!, by simp [e1], fun j hj => ?_, ?_⟩
    · by_cases hjk : j = k
      · subst hjk; exact Go.Sort.getElem!_set_same _ _ _ (by omega)
      · rw [Go.Sort.getElem!_set_other _ _ _ _ hjk]; exact e2 j (by omega)
    · have : (dk.setIfInBounds k d'[k]!).toList.map f = (dk.toList.map f).set k (f d'[k]!) := by simp
      rw [this]; exact hs.1
end

set_option maxHeartbeats 1000000 in
theorem SortT_any {S : Nat → Prop} {w : World} {base g cap : Nat} {l : List (List Int)} (ho : OwnTs S w base (.slice (some ⟨g, 0, none⟩) l.length cap) l) (h0 : 1 ≤ l.length) (hl : l.length ≤ 1000000) :
    Calls Tryz.prog 80 #[.slice (some ⟨g, 0, none⟩) l.length cap, .func (.func 81) #[] #[]] w fun e w' =>
      e = .returned (.tuple #[]) ∧ ∃ l', l'.Perm l ∧ l'.Pairwise (fun a b => ¬ ltT b a) ∧ OwnTs S w' base (.slice (some ⟨g, 0, none⟩) l.length cap) l' ∧ w.grownBy w' (some g) := by
  let S' : Nat → Prop := Off S (.slice (some ⟨g, 0, none⟩) l.length cap)
  have hg : g < w.heap.size := (OwnL.lt ho g rfl).2
  have hx : ∀ i : Fin l.length, ∃ x : Lain S' w, w.cell? ⟨g, i.1, none⟩ = some x.enc ∧ x.l = l[i.1] ∧ w.frozen? ⟨g, i.1, none⟩ = false := fun i => by
    obtain ⟨a, c, q1, q2, q3⟩ := OwnTs.cell ho rfl i.1 i.2
    exact ⟨⟨a, c, l[i.1], q2⟩, q1, rfl, q3⟩
  let F : Fin l.length → Lain S' w := fun i => Classical.choose (hx i)
  have hF := fun i => Classical.choose_spec (hx i)
  let d : Array (Lain S' w) := Array.ofFn F
  have hds : d.size = l.length := by simp [d]
  have hd : ∀ j (hj : j < l.length), d[j]! = F ⟨j, hj⟩ := fun j hj => by rw [getElem!_pos d j (by omega)]; simp [d]
  have hH : Go.Sort.Holds Lain.enc w g 0 d := fun j hj => by
    rw [Nat.zero_add, hd j (by omega)]; exact ⟨(hF ⟨j, by omega⟩).1, (hF ⟨j, by omega⟩).2.2⟩
  have hc := Any.slices_SortFunc sh6 (Lain.enc (S := S') (w := w)) (fun _ => rfl) Lain.cf swo_cf 81 #[] g 0 cap d w (enters_of Tryz.func81 (by kernel_rfl) rfl)
    (fun m os dk hs x y => Compare_exact x.a y.a x.c y.c x.l y.l _
      (x.ok.mono (fun _ _ h => h) (Agree.of_grown (sortWorld_grown Lain.enc w g 0 m dk os) fun b hb e => hb.2 (by injection e with e; rw [e]; rfl)))
      (y.ok.mono (fun _ _ h => h) (Agree.of_grown (sortWorld_grown Lain.enc w g 0 m dk os) fun b hb e => hb.2 (by injection e with e; rw [e]; rfl)))) hH hg (by omega)
  rw [hds] at hc
  refine hc.mono ?_
  rintro e w' ⟨rfl, d', m, os, hp, hs, rfl⟩
  obtain ⟨p1, -, p3⟩ := hp
  have hall : ∀ b : Array (Lain S' w), b.size = l.length → b.extract 0 l.length = b := fun b hb => by rw [← hb]; exact Array.extract_size
  rw [hall d' (by omega), hall d hds] at p3
  have hdl : d.toList.map Lain.l = l := by
    apply List.ext_getElem
    · simp [hds]
    · intro j h1 h2
      have := hd j h2
      rw [getElem!_pos d j (by omega)] at this
      rw [List.getElem_map, Array.getElem_toList, this]
      exact (hF ⟨j, h2⟩).2.1
  have hah := ahead_grown w m (some g)
  have hHa : Go.Sort.Holds Lain.enc (Go.Sort.ahead w m) g 0 d := hH
  have hoa : OwnTs S (Go.Sort.ahead w m) base (.slice (some ⟨g, 0, none⟩) l.length cap) l := OwnL.call ho ⟨rfl, rfl, rfl, Nat.le_refl _, fun _ _ => rfl⟩
  obtain ⟨dk, k1, k2, k3⟩ := OwnTs.putRow (Lain.enc (S := S') (w := w)) Lain.l l d d' hoa rfl hds (by omega) hHa
    (fun j hj => by rw [hd j hj, (hF ⟨j, hj⟩).2.1]; exact List.getElem?_eq_getElem hj)
    (fun x => ⟨x.a, x.c, rfl, x.ok.mono (fun _ _ h => h) (Agree.of_grown hah fun b hb e => hb.2 (by injection e with e; rw [e]; rfl))⟩) l.length (Nat.le_refl _)
  have hdk : dk = d' := by
    apply Array.ext (by omega)
    intro j h1 h2
    have := k2 j (by omega)
    rwa [getElem!_pos dk j h1, getElem!_pos d' j h2] at this
  subst hdk
  refine ⟨rfl, dk.toList.map Lain.l, ?_, ?_, ?_, sortWorld_grown Lain.enc w g 0 m dk os⟩
  · have := p3.map Lain.l
    rwa [hdl] at this
  · rw [List.pairwise_iff_getElem]
    intro i j hi hj hij
    simp at hi hj
    have := hs i j (Nat.zero_le _) hij (by omega)
    have := ltOf_no this
    rw [getElem!_pos dk j (by omega), getElem!_pos dk i (by omega)] at this
    simpa using this
  · exact OwnL.grown k3 (grow_grown _ os none) (fun _ _ e => by cases e) (fun _ _ _ e => by cases e)
end Go.Proofs.YthkamffmpejckaaGreatDoor

/- What can be detached from givens. No program is named. -/
namespace Go.Proofs.YthkamffmpejckaaGreatDoor

theorem foldW_len : ∀ (m l : List (List Int)), (m.foldl (fun l x => withL x l) l).length ≤ l.length + m.length
  | [], l => Nat.le_refl _
  | x :: m, l => by
    have h := foldW_len m (withL x l)
    have h2 := withL_len (t := x) (l := l)
    rw [List.foldl_cons, List.length_cons]
    omega
def sortedL (l : List (List Int)) : List (List Int) := l.foldl (fun l x => withL x l) []
theorem mem_sortedL {l : List (List Int)} {x : List Int} : x ∈ sortedL l ↔ x ∈ l := by
  rw [sortedL, (foldl_with_asc l [] List.Pairwise.nil).2]; simp
theorem sortedL_isAsc (l : List (List Int)) : Asc (sortedL l) := (foldl_with_asc l [] List.Pairwise.nil).1
theorem sortedL_of {l l' : List (List Int)} (hp : l'.Perm l) (hs : l'.Pairwise (fun a b => ¬ ltT b a)) : compactL l' = sortedL l :=
  Asc.ext (asc_compactL hs) (sortedL_isAsc l) (fun x => by rw [mem_compactL, mem_sortedL, hp.mem_iff])
theorem sortedL_asc {l : List (List Int)} (h : Asc l) : sortedL l = l := Asc.ext (sortedL_isAsc l) h (fun _ => mem_sortedL)
theorem sortedL_append (l m : List (List Int)) : sortedL (l ++ m) = m.foldl (fun l x => withL x l) (sortedL l) := by unfold sortedL; rw [List.foldl_append]
theorem sortedL_len (l : List (List Int)) : (sortedL l).length ≤ l.length := by have := foldW_len l []; simpa [sortedL] using this
/-- what m is detached to with each of l -/
noncomputable def rowD (s : Sg) (m : List Int) : List (List Int) → List (List Int)
  | [] => []
  | n :: r => (if (detE s m n).2 = 0 then [(detE s m n).1] else []) ++ rowD s m r
theorem rowD_append (s : Sg) (m : List Int) : ∀ a b : List (List Int), rowD s m (a ++ b) = rowD s m a ++ rowD s m b
  | [], b => rfl
  | n :: r, b => by rw [List.cons_append, rowD, rowD, rowD_append s m r b, List.append_assoc]
theorem rowD_succ {s : Sg} {m : List Int} {l : List (List Int)} {j : Nat} (hj : j < l.length) : rowD s m (l.take (j + 1)) = rowD s m (l.take j) ++ (if (detE s m l[j]).2 = 0 then [(detE s m l[j]).1] else []) := by
  rw [List.take_succ_eq_append_getElem hj, rowD_append, rowD, rowD, List.append_nil]
theorem rowD_len (s : Sg) (m : List Int) : ∀ l : List (List Int), (rowD s m l).length ≤ l.length
  | [] => Nat.le_refl _
  | n :: r => by
    have := rowD_len s m r
    rw [rowD, List.length_append, List.length_cons]
    split
    · rw [List.length_singleton]; omega
    · rw [List.length_nil]; omega
theorem rowD_ok {s : Sg} {m : List Int} : ∀ {l : List (List Int)}, ∀ t ∈ rowD s m l, okT s t = true
  | [], t, h => by cases h
  | n :: r, t, h => by
    rw [rowD] at h
    rcases List.mem_append.1 h with h | h
    · split at h
      · rename_i h0
        rw [List.mem_singleton] at h; rw [h]; exact (det_ok h0).2.2
      · cases h
    · exact rowD_ok t h
/-- what the first k of l are detached to with each of l -/
noncomputable def detsL (s : Sg) (l : List (List Int)) : Nat → List (List Int)
  | 0 => []
  | k + 1 => detsL s l k ++ rowD s (l.getD k []) l
theorem detsL_succ {s : Sg} {l : List (List Int)} {k : Nat} (hk : k < l.length) : detsL s l (k + 1) = detsL s l k ++ rowD s l[k] l := by
  rw [detsL, List.getD_eq_getElem?_getD, List.getElem?_eq_getElem hk]; rfl
theorem detsL_len (s : Sg) (l : List (List Int)) : ∀ k, (detsL s l k).length ≤ k * l.length
  | 0 => by simp [detsL]
  | k + 1 => by
    have h1 := detsL_len s l k
    have h2 := rowD_len s (l.getD k []) l
    rw [detsL, List.length_append, Nat.add_mul]
    omega
theorem detsL_ok {s : Sg} {l : List (List Int)} : ∀ {k : Nat}, ∀ t ∈ detsL s l k, okT s t = true
  | 0, t, h => by cases h
  | k + 1, t, h => by
    rw [detsL] at h
    rcases List.mem_append.1 h with h | h
    · exact detsL_ok t h
    · exact rowD_ok t h
/-- one time more -/
noncomputable def stepW (s : Sg) (l : List (List Int)) : List (List Int) := (detsL s l l.length).foldl (fun l x => withL x l) l
theorem stepW_sorted {s : Sg} {l : List (List Int)} (h : Asc l) : sortedL (l ++ detsL s l l.length) = stepW s l := by rw [sortedL_append, sortedL_asc h, stepW]
theorem stepW_asc {s : Sg} {l : List (List Int)} (h : Asc l) : Asc (stepW s l) := (foldl_with_asc _ l h).1
theorem stepW_ok {s : Sg} {l : List (List Int)} (h : Asc l) (ho : ∀ t ∈ l, okT s t = true) : ∀ t ∈ stepW s l, okT s t = true := fun t ht => by
  rcases ((foldl_with_asc _ l h).2 t).1 ht with k | k
  · exact ho t k
  · exact detsL_ok t k
noncomputable def iterE (s : Sg) : Nat → List (List Int) → List (List Int) × Int
  | 0, l => (l, 0)
  | k + 1, l => if 60 < (stepW s l).length then ([], 4) else iterE s k (stepW s l)
noncomputable def reachE (s : Sg) (g : List (List Int)) (most : Int) : List (List Int) × Int :=
  if givensB s g = true then (if (decide (0 ≤ most) && decide (most ≤ 3)) = true then iterE s most.toNat (sortedL (g.map canon)) else ([], 7)) else ([], 1)
theorem reach_bound {l : List (List Int)} {s : Sg} {k : Nat} (hl : l.length ≤ 60) (hk : k ≤ l.length) : (detsL s l k).length ≤ 3600 :=
  Nat.le_trans (detsL_len s l k) (Nat.le_trans (Nat.mul_le_mul (Nat.le_trans hk hl) hl) (by decide))
end Go.Proofs.YthkamffmpejckaaGreatDoor

/- Unification by the reference's solver, in plain words. No program is named. -/
namespace Go.Proofs.YthkamffmpejckaaGreatDoor

/-- what solving two terms makes of what is bound -/
structure Slv2 (s : Sg) (B : Bd) (θ : Int → List Int) (ρ : Int → Nat) (a b : List Int) (B' : Bd) (θ' : Int → List Int) (ρ' : Int → Nat) : Prop where
  slv : Slv s B' θ' ρ'
  rg : RgB B'
  sat : ∀ η, Wsub s η → (Sat B' η ↔ Sat B η ∧ ap η a = ap η b)
  less : (B' = B ∧ θ' = θ ∧ ρ' = ρ) ∨ free B' < free B
section
variable {s : Sg} {B : Bd} {θ : Int → List Int} {ρ : Int → Nat} {a b p q : List Int}
theorem W1.head_var {p : List Int} (h : W1 s p) (h0 : p.headD 0 < 0) : p = [p.headD 0] := by
  cases p with
  | nil => exact (h.ne rfl).elim
  | cons n x => have := h.leaf h0; subst this; rfl
theorem Slv2.same (h : Slv s B θ ρ) (hr : RgB B) (ha : W1 s a) (hb : W1 s b) (hp : Lkd B a p) (hq : Lkd B b q) (h0 : p.headD 0 < 0) (e : q.headD 0 = p.headD 0) : Slv2 s B θ ρ a b B θ ρ := by
  refine ⟨h, hr, fun η hw => ⟨fun hs => ⟨hs, ?_⟩, fun hs => hs.1⟩, .inl ⟨rfl, rfl, rfl⟩⟩
  have h1 := (hp.spec h ha).1.head_var h0
  have h2 := (hq.spec h hb).1.head_var (by omega)
  rw [← hp.eta hs ha (fun n u hB => (h.wf n u hB).1), ← hq.eta hs hb (fun n u hB => (h.wf n u hB).1), h1, h2, e]
theorem Slv2.bound (h : Slv s B θ ρ) (hr : RgB B) (ha : W1 s a) (hb : W1 s b) (ra : Rg a) (rb : Rg b) (hp : Lkd B a p) (hq : Lkd B b q) (h0 : p.headD 0 < 0) (ho : p.headD 0 ∉ ap θ q) :
    ∃ θ' ρ', Slv2 s B θ ρ a b (upB B (p.headD 0) q) θ' ρ' := by
  obtain ⟨p1, p2, p3⟩ := hp.spec h ha
  obtain ⟨q1, q2, q3⟩ := hq.spec h hb
  have h1 := p1.head_var h0
  have hB : B (p.headD 0) = none := p3 _ [] h1 h0
  obtain ⟨θ', ρ', hs⟩ := h.bind h0 hB q1 ho
  have hrp := hp.rg hr ra
  have h24 : -24 ≤ p.headD 0 := hrp _ (by rw [h1]; simp) h0
  refine ⟨θ', ρ', hs, ?_, fun η hw => ?_, .inr (free_bind h0 h24 hB)⟩
  · intro n u hn
    unfold upB at hn
    split at hn
    · rename_i e
      cases hn
      exact ⟨hq.rg hr rb, by omega⟩
    · exact hr n u hn
  · rw [sat_upB hB]
    constructor
    · rintro ⟨g1, g2⟩
      refine ⟨g1, ?_⟩
      rw [← hp.eta g1 ha (fun n u hB => (h.wf n u hB).1), ← hq.eta g1 hb (fun n u hB => (h.wf n u hB).1), h1, ap_one h0]; exact g2
    · rintro ⟨g1, g2⟩
      refine ⟨g1, ?_⟩
      rw [← hp.eta g1 ha (fun n u hB => (h.wf n u hB).1), ← hq.eta g1 hb (fun n u hB => (h.wf n u hB).1), h1, ap_one h0] at g2; exact g2
theorem slv_occurs (h : Slv s B θ ρ) (ha : W1 s a) (hb : W1 s b) (hp : Lkd B a p) (hq : Lkd B b q) (h0 : p.headD 0 < 0) (e : q.headD 0 ≠ p.headD 0) (ho : p.headD 0 ∈ ap θ q) :
    ∀ η, Wsub s η → Sat B η → ap η a ≠ ap η b := by
  intro η hw hs he
  obtain ⟨p1, p2, p3⟩ := hp.spec h ha
  obtain ⟨q1, q2, q3⟩ := hq.spec h hb
  have h1 := p1.head_var h0
  rw [← hp.eta hs ha (fun n u hB => (h.wf n u hB).1), ← hq.eta hs hb (fun n u hB => (h.wf n u hB).1), h1, ap_one h0] at he
  refine h.occurs_no h0 ho (fun e2 => ?_) hw hs he
  by_cases hq0 : q.headD 0 < 0
  · have h2 := q1.head_var hq0
    rw [h2, ap_one hq0, h.free _ hq0 (q3 _ [] h2 hq0)] at e2
    exact e (List.cons.inj e2).1
  · cases q with
    | nil => exact q1.ne rfl
    | cons n x =>
      simp only [List.headD_cons] at hq0 e
      rw [ap_pos hq0] at e2
      exact e (List.cons.inj e2).1
theorem slv_clash (h : Slv s B θ ρ) (ha : W1 s a) (hb : W1 s b) (hp : Lkd B a p) (hq : Lkd B b q) (h0 : 0 ≤ p.headD 0) (h1 : 0 ≤ q.headD 0) (e : p.headD 0 ≠ q.headD 0) :
    ∀ η, Wsub s η → Sat B η → ap η a ≠ ap η b := by
  intro η hw hs he
  obtain ⟨p1, p2, p3⟩ := hp.spec h ha
  obtain ⟨q1, q2, q3⟩ := hq.spec h hb
  rw [← hp.eta hs ha (fun n u hB => (h.wf n u hB).1), ← hq.eta hs hb (fun n u hB => (h.wf n u hB).1)] at he
  cases p with
  | nil => exact p1.ne rfl
  | cons n x =>
    cases q with
    | nil => exact q1.ne rfl
    | cons m y =>
      simp only [List.headD_cons] at h0 h1 e
      rw [ap_pos (by omega), ap_pos (by omega)] at he
      exact e (List.cons.inj he).1
/-- solved up to the k-th argument -/
structure SlvK (s : Sg) (B : Bd) (θ : Int → List Int) (ρ : Int → Nat) (p q : List Int) (k : Nat) (B' : Bd) (θ' : Int → List Int) (ρ' : Int → Nat) : Prop where
  slv : Slv s B' θ' ρ'
  rg : RgB B'
  sat : ∀ η, Wsub s η → (Sat B' η ↔ Sat B η ∧ ((argsW s p).take k).map (ap η) = ((argsW s q).take k).map (ap η))
  less : (B' = B ∧ θ' = θ ∧ ρ' = ρ) ∨ free B' < free B
theorem SlvK.start (h : Slv s B θ ρ) (hr : RgB B) : SlvK s B θ ρ p q 0 B θ ρ := ⟨h, hr, fun η _ => by simp, .inl ⟨rfl, rfl, rfl⟩⟩
theorem take_map_snoc {x y : List (List Int)} {k : Nat} (f : List Int → List Int) (hx : k < x.length) (hy : k < y.length) : (x.take (k + 1)).map f = (y.take (k + 1)).map f ↔ (x.take k).map f = (y.take k).map f ∧ f x[k] = f y[k] := by
  rw [List.take_succ_eq_append_getElem hx, List.take_succ_eq_append_getElem hy, List.map_append, List.map_append]
  constructor
  · intro h
    have := List.append_inj h (by simp; omega)
    exact ⟨this.1, by simpa using this.2⟩
  · rintro ⟨h1, h2⟩
    rw [h1]; simp [h2]
theorem SlvK.step {k : Nat} {B1 B2 : Bd} {θ1 θ2 : Int → List Int} {ρ1 ρ2 : Int → Nat} (h : SlvK s B θ ρ p q k B1 θ1 ρ1) (hx : k < (argsW s p).length) (hy : k < (argsW s q).length) (h2 : Slv2 s B1 θ1 ρ1 (argsW s p)[k] (argsW s q)[k] B2 θ2 ρ2) :
    SlvK s B θ ρ p q (k + 1) B2 θ2 ρ2 := by
  refine ⟨h2.slv, h2.rg, fun η hw => ?_, ?_⟩
  · rw [h2.sat η hw, h.sat η hw, take_map_snoc (ap η) hx hy, and_assoc]
  · rcases h2.less with ⟨e1, e2, e3⟩ | e
    · rw [e1, e2, e3]; exact h.less
    · rcases h.less with ⟨g1, -, -⟩ | g
      · rw [g1] at e; exact .inr e
      · exact .inr (by omega)
theorem SlvK.eq_args (h : Slv s B θ ρ) (ha : W1 s a) (hb : W1 s b) (hp : Lkd B a p) (hq : Lkd B b q) (h0 : 0 ≤ p.headD 0) (e : q.headD 0 = p.headD 0) {η : Int → List Int} (hw : Wsub s η) (hs : Sat B η) :
    ap η a = ap η b ↔ (argsW s p).map (ap η) = (argsW s q).map (ap η) := by
  obtain ⟨p1, p2, p3⟩ := hp.spec h ha
  obtain ⟨q1, q2, q3⟩ := hq.spec h hb
  rw [← hp.eta hs ha (fun n u hB => (h.wf n u hB).1), ← hq.eta hs hb (fun n u hB => (h.wf n u hB).1)]
  cases p with
  | nil => exact (p1.ne rfl).elim
  | cons n x =>
    cases q with
    | nil => exact (q1.ne rfl).elim
    | cons m y =>
      simp only [List.headD_cons] at h0 e
      subst e
      exact ap_eq_args hw p1 q1 h0
theorem SlvK.fin {k : Nat} {B1 : Bd} {θ1 : Int → List Int} {ρ1 : Int → Nat} (h : Slv s B θ ρ) (ha : W1 s a) (hb : W1 s b) (hp : Lkd B a p) (hq : Lkd B b q) (h0 : 0 ≤ p.headD 0) (e : q.headD 0 = p.headD 0)
    (hk : SlvK s B θ ρ p q k B1 θ1 ρ1) (h1 : (argsW s p).length ≤ k) (h2 : (argsW s q).length ≤ k) : Slv2 s B θ ρ a b B1 θ1 ρ1 := by
  refine ⟨hk.slv, hk.rg, fun η hw => ?_, hk.less⟩
  rw [hk.sat η hw, List.take_of_length_le h1, List.take_of_length_le h2]
  constructor
  · rintro ⟨g1, g2⟩; exact ⟨g1, (SlvK.eq_args h ha hb hp hq h0 e hw g1).2 g2⟩
  · rintro ⟨g1, g2⟩; exact ⟨g1, (SlvK.eq_args h ha hb hp hq h0 e hw g1).1 g2⟩
theorem SlvK.fail {k : Nat} {B1 : Bd} {θ1 : Int → List Int} {ρ1 : Int → Nat} (h : Slv s B θ ρ) (ha : W1 s a) (hb : W1 s b) (hp : Lkd B a p) (hq : Lkd B b q) (h0 : 0 ≤ p.headD 0) (e : q.headD 0 = p.headD 0)
    (hk : SlvK s B θ ρ p q k B1 θ1 ρ1) (hx : k < (argsW s p).length) (hy : k < (argsW s q).length) (hf : ∀ η, Wsub s η → Sat B1 η → ap η (argsW s p)[k] ≠ ap η (argsW s q)[k]) :
    ∀ η, Wsub s η → Sat B η → ap η a ≠ ap η b := by
  intro η hw hs he
  have h2 := (SlvK.eq_args h ha hb hp hq h0 e hw hs).1 he
  have h3 : ∀ i, ((argsW s p).take i).map (ap η) = ((argsW s q).take i).map (ap η) := fun i => by rw [List.map_take, List.map_take, h2]
  exact hf η hw ((hk.sat η hw).2 ⟨hs, h3 k⟩) ((take_map_snoc (ap η) hx hy).1 (h3 (k + 1))).2
/-- the arguments become smaller, or fewer variables are free -/
theorem SlvK.down {k : Nat} {B1 : Bd} {θ1 : Int → List Int} {ρ1 : Int → Nat} (h : Slv s B θ ρ) (ha : W1 s a) (hp : Lkd B a p) (h0 : 0 ≤ p.headD 0) (hk : SlvK s B θ ρ p q k B1 θ1 ρ1) (hx : k < (argsW s p).length) :
    free B1 < free B ∨ (B1 = B ∧ (ap θ1 (argsW s p)[k]).length < (ap θ a).length) := by
  rcases hk.less with ⟨g1, g2, g3⟩ | g
  · refine .inr ⟨g1, ?_⟩
    obtain ⟨p1, p2, p3⟩ := hp.spec h ha
    rw [g2, ← p2]
    cases p with
    | nil => exact (p1.ne rfl).elim
    | cons n x =>
      obtain ⟨A1, A2, A3, -⟩ := p1.args
      rw [ap_pos (by simpa using h0), List.length_cons]
      conv => rhs; rw [← A2]
      have : ∀ (l : List (List Int)) (i : Nat) (hi : i < l.length), (ap θ l[i]).length ≤ (ap θ l.flatten).length := by
        intro l
        induction l with
        | nil => intro i hi; simp at hi
        | cons y r ih =>
          intro i hi
          rw [List.flatten_cons, ap_append, List.length_append]
          cases i with
          | zero => simp only [List.getElem_cons_zero]; omega
          | succ i => have := ih i (by simpa using hi); simp only [List.getElem_cons_succ]; omega
      have := this _ k hx
      omega
  · exact .inl g
/-- the variable that was looked for: what was met does not become it -/
def NoOcc (θ : Int → List Int) (ρ : Int → Nat) (v : Int) (D : Nat → Bool) (K : Nat) : Prop := ∀ i, i < 24 → D i = true → ρ (-(i : Int) - 1) < K → v ∉ θ (-(i : Int) - 1)
theorem occ_now {D D' : Nat → Bool} {v n : Int} {u : List Int} {K : Nat} {i : Nat} (h : Slv s B θ ρ) (hn : n < 0) (hi : i = (-n - 1).toNat) (hB : B n = some u) (hD : NoOcc θ ρ v D K)
    (h1 : NoOcc θ ρ v D' (ρ n)) (h2 : ∀ j : Nat, j < 24 → ρ n ≤ ρ (-(j : Int) - 1) → D' j = (if j = i then true else D j)) (h3 : v ∉ ap θ u) : NoOcc θ ρ v D' K := by
  intro j hj hd hr
  have hin : -(i : Int) - 1 = n := by omega
  by_cases hlt : ρ (-(j : Int) - 1) < ρ n
  · exact h1 j hj hd hlt
  · rw [h2 j hj (by omega)] at hd
    by_cases e : j = i
    · subst e; rw [hin, h.bnd n u hB]; exact h3
    · rw [if_neg e] at hd; exact hD j hj hd hr
theorem occ_start {D : Nat → Bool} {v n : Int} {K : Nat} {i : Nat} (hn : n < 0) (hi : i = (-n - 1).toNat) (hK : ρ n < K) (hD : NoOcc θ ρ v D K) : NoOcc θ ρ v (fun j => if j = i then true else D j) (ρ n) := by
  intro j hj hd hr
  have hin : -(i : Int) - 1 = n := by omega
  by_cases e : j = i
  · subst e; rw [hin] at hr; omega
  · simp only [if_neg e] at hd; exact hD j hj hd (by omega)
theorem IsMgu.of2 {B' : Bd} {θ' : Int → List Int} {ρ' : Int → Nat} (h : Slv2 s (fun _ => none) (fun n => [n]) (fun _ => 0) a b B' θ' ρ') : IsMgu s a b θ' :=
  ⟨B', ρ', h.slv, fun η hw => ⟨fun hs => ((h.sat η hw).1 hs).2, fun he => (h.sat η hw).2 ⟨fun _ _ h => (by cases h), he⟩⟩⟩
end
end Go.Proofs.YthkamffmpejckaaGreatDoor

/- Walks of the reference: where parts end, arguments, parts; with any variables. -/
namespace Go.Proofs.YthkamffmpejckaaGreatDoor
open Go Go.RowKit Go.Maps

theorem codeOk_pos {s : Sg} {n : Int} (h : cw s n = true) (h0 : 0 ≤ n) : codeOk s n = true := by
  simp [cw] at h
  simp [codeOk]
  omega
theorem wArity_any {S : Nat → Prop} (a : Option Addr) (c : Nat) (s : Sg) (n : Int) (w : World) (h : Sign S w a c s) (hok : okSign s = true) (hc : cw s n = true) :
    Calls Tryz.prog 71 #[.slice a s.length c, .int .i64 n] w fun e w' => e = .returned (.int .i64 (arW s n : Nat)) ∧ w = w' := by
  have m := h.le
  by_cases h1 : n < 0
  · have hf : arW s n = 0 := by unfold arW; rw [if_pos h1]
    have hf' := Lib.hid hf
    clear hf h hc
    go_enter Tryz.func71, Tryz.ntmps71
    go_wp2
    go_ret
    exact ⟨by rw [hf'.out]; rfl, rfl⟩
  · have hk := codeOk_pos hc (by omega)
    refine (rArity_any a c s n w h hk).mono ?_
    rintro e w' ⟨rfl, rfl⟩
    exact ⟨by rw [(arC_ok hok hk).1, (codeOk_w hk).2], rfl⟩
theorem arW_3 {s : Sg} (hok : okSign s = true) {n : Int} (hc : cw s n = true) : arW s n ≤ 3 := arW_le3 hok (by simpa [cw] using hc)

def wendRel (s : Sg) (t r : List Int) (w : World) (at_ need : Value) (wr : World) : Prop :=
  ∃ p k : Nat, at_ = .int .i64 p ∧ need = .int .i64 k ∧ p ≤ t.length ∧ skw s k (t.drop p) = some r ∧ wr = w
set_option maxHeartbeats 1000000 in
theorem wEnd_any {S1 S2 : Nat → Prop} (a1 a2 : Option Addr) (c1 c2 : Nat) (s : Sg) (t : List Int) (p : Nat) (r : List Int) (w : World) (h1 : Sign S1 w a1 c1 s) (h2 : Ints S2 w a2 c2 t) (hok : okSign s = true) (hp : skw s 1 (t.drop p) = some r) :
    Calls Tryz.prog 102 #[.slice a1 s.length c1, .slice a2 t.length c2, .int .i64 p] w fun e w' => e = .returned (.int .i64 (t.length - r.length : Nat)) ∧ w = w' := by
  have m2 := h2.le
  have hpl : p ≤ t.length := by obtain ⟨h, _⟩ := skw_drop hp; omega
  have hpH := Lib.hid hp
  have hokH := Lib.hid hok
  clear hp hok
  go_enter Tryz.func102, Tryz.ntmps102
  go_wp2_with fail
  go_loopw [2, 7] (fun at_ need wr => wendRel s t r w at_ need wr) (fun at_ _ _ => t.length - (intOf at_).toNat)
  case atStart => exact ⟨p, 1, rfl, rfl, hpl, hpH.out, rfl⟩
  case round =>
    obtain ⟨q, k, rfl, rfl, hq, hs, rfl⟩ := hrel
    cases k with
    | zero =>
      rw [skw_zero] at hs
      have hq2 : (q : Int) = (t.length - r.length : Nat) := by
        have : (t.drop q).length = r.length := by rw [Option.some.inj hs]
        rw [List.length_drop] at this; omega
      have hqH := Lib.hid hq2
      clear hs hq2
      go_wp2_with fail
      go_ret
      exact ⟨ret_int hqH.out, rfl⟩
    | succ k =>
      obtain ⟨hlt, hc, hs'⟩ := skw_drop hs
      have hsl := skw_len _ _ _ _ hs'
      rw [List.length_drop] at hsl
      have hA3 := arW_3 hokH.out hc
      obtain ⟨b, o, rfl, -, q1, -⟩ := h2.int q hlt
      have cr := wArity_any a1 c1 s t[q] wr h1 hokH.out hc
      obtain ⟨x, hx⟩ : ∃ x, t[q] = x := ⟨_, rfl⟩
      obtain ⟨m, hm⟩ : ∃ m, arW s x = m := ⟨_, rfl⟩
      rw [hx] at q1 cr hs' hA3 hsl
      rw [hm] at cr hs' hA3 hsl
      have crH := Lib.hid cr
      have hsH := Lib.hid hs'
      clear cr hs' hs hc hx hm
      go_wp2_with (go_at_call 71; refine crH.out.mono ?_; rintro e w' ⟨rfl, rfl⟩)
      go_roundw
      case rel => exact ⟨q + 1, k + m, by go_num, by go_num, by omega, hsH.out, rfl⟩
      case measure => simp [intOf]; omega

/-- the places of all arguments -/
def aposL (s : Sg) (t : List Int) : List Int := (List.range (argsW s t).length).map (fun m => (apos s t m : Int))
theorem aposL_take {s : Sg} {t : List Int} {j : Nat} (h : j < (argsW s t).length) : (aposL s t).take (j + 1) = (aposL s t).take j ++ [(apos s t j : Int)] := by
  rw [List.take_succ_eq_append_getElem (by simp [aposL]; exact h)]
  simp [aposL]
theorem aposL_all (s : Sg) (t : List Int) : (aposL s t).take (argsW s t).length = aposL s t := List.take_of_length_le (by simp [aposL])
def wargRel (s : Sg) (t : List Int) (m : Nat) (w : World) (out k i : Value) (wr : World) : Prop :=
  ∃ j : Nat, i = .int .i64 j ∧ k = .int .i64 (apos s t j : Nat) ∧ j ≤ m ∧ OwnI wr w.heap.size out ((aposL s t).take j) ∧ Below w.heap.size w wr
set_option maxHeartbeats 1000000 in
theorem wArguments_any {S1 S2 : Nat → Prop} (a1 a2 : Option Addr) (c1 c2 : Nat) (s : Sg) (t : List Int) (w : World) (h1 : Sign S1 w a1 c1 s) (h2 : Ints S2 w a2 c2 t) (hok : okSign s = true) (ht : W1 s t) (hl : t.length ≤ 1000) :
    Calls Tryz.prog 72 #[.slice a1 s.length c1, .slice a2 t.length c2, .int .i64 0] w (retOwn w (aposL s t)) := by
  have m2 := h2.le
  have hlt := ht.len
  obtain ⟨b, o, rfl, -, q1, -⟩ := h2.int 0 hlt
  have hbw : b < w.heap.size := World.block_lt_of_cell? w _ q1
  obtain ⟨x, hx⟩ : ∃ x, t[0] = x := ⟨_, rfl⟩
  have hxd : t.headD 0 = x := by rw [← hx]; cases t with | nil => simp at hlt | cons _ _ => rfl
  obtain ⟨A1, A2, A3⟩ := args_all ht hxd
  have hc : cw s x = true := by simpa [cw] using A2
  have hA3 := arW_3 hok hc
  have cr := fun W hW => wArity_any (S := S1) a1 c1 s x W hW hok hc
  obtain ⟨m, hm⟩ : ∃ m, (argsW s t).length = m := ⟨_, rfl⟩
  rw [← A1, hm] at cr hA3
  rw [Nat.add_zero] at q1
  rw [hx] at q1
  have A3H := Lib.hid A3
  have hmH := Lib.hid hm
  have hokH := Lib.hid hok
  have crH := Lib.hid cr
  clear cr hx hxd A1 A2 A3 hc hok hm ht
  have h0 : apos s t 0 = 1 := apos_zero s t
  go_enter Tryz.func72, Tryz.ntmps72
  go_wp2_with fail
  go_loopw [7, 8, 9] (fun out k i wr => wargRel s t m w out k i wr) (fun _ _ i _ => m - (intOf i).toNat)
  case atStart => exact ⟨0, rfl, by go_num, Nat.zero_le _, .nil _ _ _ _ _, .refl _ _⟩
  case round =>
    obtain ⟨j, rfl, rfl, hj, ho, hB⟩ := hrel
    have q1' := (hB.cell (p := ⟨b, o, none⟩) hbw).trans q1
    have h1' : Sign S1 wr a1 c1 s := h1.below hB
    have h2' : Ints S2 wr (some ⟨b, o, none⟩) c2 t := h2.below hB
    have cr' := crH.out wr h1'
    by_cases hjm : j < m
    · have hjm' : j < (argsW s t).length := by rw [hmH.out]; exact hjm
      obtain ⟨hsk, hp1, hp2, hp3⟩ := A3H.out j hjm'
      have ce := fun W hW1 hW2 => wEnd_any (S1 := S1) (S2 := S2) a1 (some ⟨b, o, none⟩) c1 c2 s t (apos s t j) _ W hW1 hW2 hokH.out hsk
      rw [drop_len hp2] at ce
      have htk := aposL_take hjm'
      have hjl : ((aposL s t).take j).length = j := by rw [List.length_take]; simp [aposL]; omega
      obtain ⟨q, hq⟩ : ∃ q, apos s t j = q := ⟨_, rfl⟩
      obtain ⟨z, hz⟩ : ∃ z, apos s t (j + 1) = z := ⟨_, rfl⟩
      rw [hq] at ce htk hp1
      rw [hz] at ce hp1 hp2
      obtain ⟨v', w', hrun, ho', hg, hat⟩ := ho.push (P := Tryz.prog) (t := 33) (ty := 33) Tryz.underlying33 infoInt rfl (vs := [.int .i64 q]) (x := (q : Int)) ⟨rfl, by unfold inRange; omega⟩ (by rw [hjl]; omega) (by rw [hjl]; unfold big; omega) hB.size
      have hB3 := hB.grown hg hB.size (fun k e => (ho.lt k e).1)
      have c2 := ce w' (h1.below hB3) (h2.below hB3)
      have htkH := Lib.hid htk
      have hzH := Lib.hid hz
      have hoH := Lib.hid ho'
      have hB3H := Lib.hid hB3
      have hrunH := Lib.hid hrun
      have c2H := Lib.hid c2
      have cr'H := Lib.hid cr'
      rw [hq]
      clear htk ho ho' hg hat hB3 hrun c2 cr' ce hjl h1' h2' hB hsk hp3 hz hq h0 hjm'
      go_wp2_with (first
        | (go_at_call 71; refine cr'H.out.mono ?_; rintro e w' ⟨rfl, rfl⟩)
        | (go_at_call 102; refine c2H.out.mono ?_; rintro e w' ⟨rfl, rfl⟩)
        | (at_builtin; refine wpList_append_run rfl _ _ _ rfl rfl rfl hrunH.out ?_))
      go_roundw
      case rel => exact ⟨j + 1, by go_num, by rw [hzH.out], by omega, by rw [htkH.out]; exact hoH.out, hB3H.out⟩
      case measure => simp [intOf]; omega
    · have hjm' : j = m := by omega
      subst hjm'
      have hfull : (aposL s t).take j = aposL s t := by rw [← hmH.out]; exact aposL_all s t
      rw [hfull] at ho
      have hoH := Lib.hid ho
      have cr'H := Lib.hid cr'
      have hBH := Lib.hid hB
      clear ho hfull cr' hB h1' h2' h0
      go_wp2_with (go_at_call 71; refine cr'H.out.mono ?_; rintro e w' ⟨rfl, rfl⟩)
      go_ret
      exact ⟨_, rfl, hoH.out, hBH.out⟩

set_option maxHeartbeats 1000000 in
theorem wPart_any {S1 S2 : Nat → Prop} (a1 a2 : Option Addr) (c1 c2 : Nat) (s : Sg) (t : List Int) (p z : Nat) (u : List Int) (w : World) (h1 : Sign S1 w a1 c1 s) (h2 : Ints S2 w a2 c2 t) (hok : okSign s = true) (hp : skw s 1 (t.drop p) = some (t.drop z)) (hpz : p < z) (hz : z ≤ t.length)
    (hu : (t.drop p).take (z - p) = u) (hl : t.length ≤ 1000) :
    Calls Tryz.prog 74 #[.slice a1 s.length c1, .slice a2 t.length c2, .int .i64 p] w (retOwn w u) := by
  have m2 := h2.le
  have mc := h2.max
  unfold big at mc
  have hcap := h2.cap
  have hlt : p < t.length := by omega
  obtain ⟨b, o, rfl, -, q1, -⟩ := h2.int p hlt
  have hbw : b < w.heap.size := World.block_lt_of_cell? w _ q1
  have ce := fun W hW1 hW2 => wEnd_any (S1 := S1) (S2 := S2) a1 (some ⟨b, o, none⟩) c1 c2 s t p (t.drop z) W hW1 hW2 hok hp
  rw [drop_len hz] at ce
  have hsub := h2.part p z (c2 - p) (by omega) hz (by omega) (by omega)
  have hplen : u.length = z - p := by rw [← hu, List.length_take, List.length_drop]; omega
  rw [hu] at hsub
  have ce1 := ce (w.alloc (.cells #[] 3)) (h1.below (below1 _ _)) (h2.below (below1 _ _))
  obtain ⟨v', w', hrun, ho, hg, -, -⟩ := (OwnL.made intE (fun _ => False) w w.heap.size 3 (Nat.le_refl _)).append_run (P := Tryz.prog) (t := 34) (ty := 34) Tryz.underlying34 infoInt rfl (hsub.below (below1 w (.cells #[] 3))) (fun _ _ _ h => h) (by simp; omega) (by unfold big; simp; omega) (by simp)
  have hB : Below w.heap.size w w' := (below1 w (.cells #[] 3)).grown hg (by simp) (fun k e => by simp [Value.ownBlock] at e; omega)
  rw [List.nil_append] at ho
  rw [hplen] at hrun
  have hrunH := Lib.hid hrun
  have ceH := Lib.hid ce1
  have hoH := Lib.hid ho
  have hBH := Lib.hid hB
  clear hg hrun ce1 ce ho hB hp hplen hu hsub hok
  go_enter Tryz.func74, Tryz.ntmps74
  go_wp2_with (first
        | (go_at_call 102; refine ceH.out.mono ?_; rintro e w' ⟨rfl, rfl⟩)
        | (at_builtin; refine wpList_append_run rfl _ _ _ rfl rfl rfl hrunH.out ?_))
  go_ret
  exact ⟨_, rfl, hoH.out, hBH.out⟩
end Go.Proofs.YthkamffmpejckaaGreatDoor

/- The reference's solver in the world. -/
namespace Go.Proofs.YthkamffmpejckaaGreatDoor
open Go Go.RowKit

theorem gby_refl (w : World) (row : Option Nat) : w.grownBy w row := ⟨rfl, rfl, rfl, Nat.le_refl _, fun _ _ _ => rfl⟩
theorem gby_trans {a w w' : World} {row : Option Nat} (h : a.grownBy w row) (k : w.grownBy w' row) : a.grownBy w' row :=
  ⟨k.os.trans h.os, k.tape.trans h.tape, k.output.trans h.output, Nat.le_trans h.size k.size, fun i hi hr => (k.block i (Nat.lt_of_lt_of_le hi h.size) hr).trans (h.block i hi hr)⟩
theorem gby_below {w w' : World} {row : Option Nat} (hb : Below w.heap.size w w') : w.grownBy w' row := ⟨hb.os, hb.tape, hb.output, hb.size, fun i hi _ => hb.block i hi⟩
theorem gby_set (w : World) (b i : Nat) (v : Value) : w.grownBy (w.setCell ⟨b, i, none⟩ v) (some b) :=
  ⟨rfl, rfl, rfl, by simp [World.setCell], fun k _ hk => Below.heap_setCell _ _ _ _ (fun e => hk (by simp [e]))⟩
theorem heap_set {w : World} {b i : Nat} {cs : Array Value} {T : TypeId} {fr : Nat × Nat} (hb : w.heap[b]? = some (.cells cs T fr)) (v : Value) :
    (w.setCell ⟨b, i, none⟩ v).heap[b]? = some (.cells (cs.setIfInBounds i v) T fr) := by
  simp [World.setCell, Array.getElem?_modify, hb]
/-- the writes to a block of one's own are seen by nobody -/
theorem below_of_gby {w w1 w' : World} {K b : Nat} (h1 : Below K w w1) (h2 : w1.grownBy w' (some b)) (hK : K ≤ w1.heap.size) (hb : K ≤ b) : Below K w w' := h1.grown h2 hK (fun k e => by cases e; exact hb)

def SlotW (S : Nat → Prop) (w : World) : Option (List Int) → Value → Prop
  | none, v => v = .slice none 0 0
  | some u, v => ∃ a c, v = .slice a u.length c ∧ Ints S w a c u
theorem SlotW.mono {S S' : Nat → Prop} {w w' : World} {o : Option (List Int)} {v : Value} (h : SlotW S w o v) (hS : ∀ b, b < w.heap.size → S b → S' b) (hA : Agree S w w') : SlotW S' w' o v := by
  cases o with
  | none => exact h
  | some u => obtain ⟨a, c, h1, h2⟩ := h; exact ⟨a, c, h1, h2.mono hS hA⟩
/-- the solver: its sign, and what its variables are bound to -/
structure SolX (S : Nat → Prop) (w : World) (xb : Nat) (a1 : Option Addr) (c1 : Nat) (s : Sg) (B : Bd) : Prop where
  blk : ∃ vs : List Value, w.heap[xb]? = some (.cells (Value.slice a1 s.length c1 :: vs).toArray 99 (0, 0)) ∧ vs.length = 24 ∧ ∀ i (h : i < vs.length), SlotW S w (B (-(i : Int) - 1)) vs[i]
  sg : Sign S w a1 c1 s
  len : ∀ n u, B n = some u → u.length ≤ 60
section
variable {S S' : Nat → Prop} {w w' : World} {xb : Nat} {a1 : Option Addr} {c1 : Nat} {s : Sg} {B : Bd}
theorem SolX.lt (h : SolX S w xb a1 c1 s B) : xb < w.heap.size := by obtain ⟨vs, h1, -⟩ := h.blk; exact (Array.getElem?_eq_some_iff.1 h1).1
theorem SolX.mono (h : SolX S w xb a1 c1 s B) (hS : ∀ b, b < w.heap.size → S b → S' b) (hA : Agree S w w') (hx : w'.heap[xb]? = w.heap[xb]?) : SolX S' w' xb a1 c1 s B := by
  obtain ⟨vs, h1, h2, h3⟩ := h.blk
  exact ⟨⟨vs, hx.trans h1, h2, fun i hi => (h3 i hi).mono hS hA⟩, h.sg.mono hS hA, h.len⟩
theorem SolX.below (h : SolX S w xb a1 c1 s B) (hb : Below w.heap.size w w') : SolX S w' xb a1 c1 s B := h.mono (fun _ _ h => h) (.all hb) (hb.block xb h.lt)
theorem SolX.lts (h : SolX S w xb a1 c1 s B) : SolX (fun b => S b ∧ b < w.heap.size) w xb a1 c1 s B := h.mono (fun _ h h' => ⟨h', h⟩) (.refl _ _) rfl
theorem SolX.weak (h : SolX S w xb a1 c1 s B) (hS : ∀ b, S b → S' b) : SolX S' w xb a1 c1 s B := h.mono (fun b _ hb => hS b hb) (.refl _ _) rfl
theorem SolX.grown {db : Nat} (h : SolX S w xb a1 c1 s B) (hg : w.grownBy w' (some db)) (hS : ¬ S db) (hx : xb ≠ db) : SolX S w' xb a1 c1 s B :=
  h.mono (fun _ _ h => h) (.of_grown hg (fun b hb e => hS (by cases e; exact hb))) (hg.block xb h.lt (fun e => hx (by cases e; rfl)))
theorem SolX.sign (h : SolX S w xb a1 c1 s B) : w.cell? ⟨xb, 0, none⟩ = some (.slice a1 s.length c1) := by
  obtain ⟨vs, h1, -⟩ := h.blk
  simp [World.cell?, h1]
theorem SolX.slot (h : SolX S w xb a1 c1 s B) {n : Int} (hn : n < 0) (h24 : -24 ≤ n) : ∃ v, w.cell? ⟨xb, 1 + (-n - 1).toNat, none⟩ = some v ∧ SlotW S w (B n) v := by
  obtain ⟨vs, h1, h2, h3⟩ := h.blk
  have hi : (-n - 1).toNat < vs.length := by omega
  refine ⟨vs[(-n - 1).toNat], ?_, ?_⟩
  · rw [Nat.add_comm]
    simp [World.cell?, h1]
  · have := h3 _ hi
    rw [show (-(((-n - 1).toNat : Nat) : Int) - 1) = n by omega] at this
    exact this
theorem SolX.frozen (h : SolX S w xb a1 c1 s B) (o : Nat) : w.frozen? ⟨xb, o, none⟩ = false := by
  obtain ⟨vs, h1, -⟩ := h.blk
  simp [World.frozen?, h1]
theorem SolX.set (h : SolX S w xb a1 c1 s B) (hS : ¬ S xb) {n : Int} (hn : n < 0) (h24 : -24 ≤ n) {q : List Int} {a : Option Addr} {c : Nat} (hq : Ints S w a c q) (hl : q.length ≤ 60) :
    SolX S (w.setCell ⟨xb, 1 + (-n - 1).toNat, none⟩ (.slice a q.length c)) xb a1 c1 s (upB B n q) := by
  obtain ⟨vs, h1, h2, h3⟩ := h.blk
  have hg := gby_set w xb (1 + (-n - 1).toNat) (.slice a q.length c)
  have hA : Agree S w (w.setCell ⟨xb, 1 + (-n - 1).toNat, none⟩ (.slice a q.length c)) := .of_grown hg (fun b hb e => hS (by cases e; exact hb))
  refine ⟨⟨vs.set (-n - 1).toNat (.slice a q.length c), ?_, by simp [h2], fun i hi => ?_⟩, h.sg.same hA, fun m u hu => ?_⟩
  · rw [heap_set h1]
    congr 2
    rw [Nat.add_comm]
    simp
  · rw [List.length_set] at hi
    rw [List.getElem_set]
    unfold upB
    by_cases e : (-n - 1).toNat = i
    · rw [if_pos e, if_pos (by omega)]; exact ⟨a, c, rfl, hq.same hA⟩
    · rw [if_neg e, if_neg (by omega)]; exact (h3 i hi).mono (fun _ _ h => h) hA
  · unfold upB at hu
    split at hu
    · cases hu; exact hl
    · exact h.len m u hu
end
/-- marks of the 24 variables -/
def MarkW (w : World) (db : Nat) (T : TypeId) (f : Nat → Value) : Prop := w.heap[db]? = some (.cells ((List.range 24).map f).toArray T (0, 0))
section
variable {w w' : World} {db : Nat} {T : TypeId} {f : Nat → Value}
theorem MarkW.lt (h : MarkW w db T f) : db < w.heap.size := (Array.getElem?_eq_some_iff.1 h).1
theorem MarkW.cell (h : MarkW w db T f) {i : Nat} (hi : i < 24) : w.cell? ⟨db, i, none⟩ = some (f i) := by simp [World.cell?, show w.heap[db]? = _ from h, hi]
theorem MarkW.frozen (h : MarkW w db T f) (o : Nat) : w.frozen? ⟨db, o, none⟩ = false := by simp [World.frozen?, show w.heap[db]? = _ from h]
theorem MarkW.set (h : MarkW w db T f) {i : Nat} (v : Value) : MarkW (w.setCell ⟨db, i, none⟩ v) db T (fun j => if j = i then v else f j) := by
  unfold MarkW
  rw [heap_set h]
  congr 2
  apply Array.ext'
  apply List.ext_getElem
  · simp
  · intro j h1 h2
    simp [List.getElem_set, eq_comm]
theorem MarkW.same (h : MarkW w db T f) (hx : w'.heap[db]? = w.heap[db]?) : MarkW w' db T f := hx.trans h
theorem MarkW.below (h : MarkW w db T f) (hb : Below w.heap.size w w') : MarkW w' db T f := h.same (hb.block db h.lt)
theorem MarkW.congr {f' : Nat → Value} (h : MarkW w db T f) (he : ∀ i, i < 24 → f i = f' i) : MarkW w db T f' := by
  unfold MarkW at *
  rw [h]
  congr 3
  exact List.map_congr_left (fun i hi => he i (List.mem_range.1 hi))
end
end Go.Proofs.YthkamffmpejckaaGreatDoor

/- Walks of the reference's solver: look. -/
namespace Go.Proofs.YthkamffmpejckaaGreatDoor
open Go Go.RowKit Go.Maps

/-- looked up in k steps, with where it lies -/
def LkG (S : Nat → Prop) (w : World) (f : Int → Value) (B : Bd) (p : List Int) (a' : Option Addr) (c' : Nat) : Nat → Option Addr → Nat → List Int → Prop
  | 0, a, c, t => (t = p ∧ a = a' ∧ c = c') ∧ ∀ n r, t = n :: r → n < 0 → B n = none
  | k + 1, _, _, t => ∃ n r u a3 c3, t = n :: r ∧ n < 0 ∧ B n = some u ∧ f n = .slice a3 u.length c3 ∧ Ints S w a3 c3 u ∧ LkG S w f B p a' c' k a3 c3 u
theorem LkG.ex {S : Nat → Prop} {w : World} {f : Int → Value} {B : Bd} {p : List Int} (hr : RgB B) (h3 : ∀ n, n < 0 → -24 ≤ n → SlotW S w (B n) (f n)) :
    ∀ (k : Nat) (t : List Int) (a : Option Addr) (c : Nat), Rg t → Ints S w a c t → LkdN B p k t → ∃ a' c', LkG S w f B p a' c' k a c t ∧ Ints S w a' c' p
  | 0, t, a, c, _, hT, ⟨h1, h2⟩ => ⟨a, c, ⟨⟨h1, rfl, rfl⟩, h2⟩, h1 ▸ hT⟩
  | k + 1, t, a, c, rt, hT, ⟨n, r, u, h1, h2, hB, h4⟩ => by
    have hs := h3 n h2 (rt n (by rw [h1]; simp) h2)
    rw [hB] at hs
    obtain ⟨a3, c3, g1, g2⟩ := hs
    obtain ⟨a', c', g3, g4⟩ := LkG.ex hr h3 k u a3 c3 (hr n u hB).1 g2 h4
    exact ⟨a', c', ⟨n, r, u, a3, c3, h1, h2, hB, g1, g2, g3⟩, g4⟩
/-- the cells of the solver's variables -/
theorem SolX.cells {S : Nat → Prop} {w : World} {xb : Nat} {a1 : Option Addr} {c1 : Nat} {s : Sg} {B : Bd} (h : SolX S w xb a1 c1 s B) :
    ∃ f : Int → Value, ∀ n, n < 0 → -24 ≤ n → w.cell? ⟨xb, 1 + (-n - 1).toNat, none⟩ = some (f n) ∧ SlotW S w (B n) (f n) := by
  obtain ⟨vs, h1, h2, h3⟩ := h.blk
  refine ⟨fun n => vs.getD (-n - 1).toNat undef, fun n hn h24 => ?_⟩
  have hi : (-n - 1).toNat < vs.length := by omega
  have hg : vs.getD (-n - 1).toNat undef = vs[(-n - 1).toNat] := by rw [List.getD_eq_getElem?_getD, List.getElem?_eq_getElem hi]; rfl
  simp only [hg]
  refine ⟨?_, ?_⟩
  · rw [Nat.add_comm]
    simp [World.cell?, h1]
  · have := h3 _ hi
    rw [show (-(((-n - 1).toNat : Nat) : Int) - 1) = n by omega] at this
    exact this
def rlookRel (S : Nat → Prop) (w : World) (s : Sg) (f : Int → Value) (B : Bd) (p : List Int) (a' : Option Addr) (c' : Nat) (k : Nat) (tv : Value) (wr : World) : Prop :=
  ∃ t a c, tv = .slice a (List.length t) c ∧ Ints S w a c t ∧ W1 s t ∧ Rg t ∧ LkG S w f B p a' c' k a c t ∧ Drew w wr
set_option maxRecDepth 20000 in
set_option maxHeartbeats 4000000 in
theorem rlook_any {S : Nat → Prop} {w : World} {xb : Nat} {a1 : Option Addr} {c1 : Nat} {s : Sg} {B : Bd} (hS0 : SolX S w xb a1 c1 s B) (hr : RgB B) (hwf : ∀ n u, B n = some u → W1 s u) {a : Option Addr} {c : Nat} {t p : List Int} (ht : Ints S w a c t) (hw : W1 s t) (rt : Rg t) (hl : Lkd B t p) :
    ∃ a' c', Ints S w a' c' p ∧ ∀ m, Calls Tryz.prog 103 #[.pointer (some ⟨xb, 0, none⟩), .slice a t.length c] (w.drewN m) fun e w' => e = .returned (.slice a' p.length c') ∧ Drew (w.drewN m) w' := by
  obtain ⟨k0, hk0⟩ := hl.num
  obtain ⟨f, hf⟩ := hS0.cells
  obtain ⟨a', c', hk1, hTp⟩ := LkG.ex hr (fun n h1 h2 => (hf n h1 h2).2) k0 t a c rt ht hk0
  refine ⟨a', c', hTp, fun m => ?_⟩
  have hfc : ∀ n, n < 0 → -24 ≤ n → ∀ wr, Drew w wr → wr.cell? ⟨xb, 1 + (-n - 1).toNat, none⟩ = some (f n) := fun n h1 h2 wr hd => cell_later (hd.below _) (hf n h1 h2).1
  have hfs : ∀ n, n < 0 → -24 ≤ n → SlotW S w (B n) (f n) := fun n h1 h2 => (hf n h1 h2).2
  have hd0 := Drew.mk w m
  obtain ⟨w0, hw0⟩ : ∃ w0, w.drewN m = w0 := ⟨_, rfl⟩
  rw [hw0] at hd0 ⊢
  have hwfH := Lib.hid hwf
  have hrH := Lib.hid hr
  have htH := Lib.hid ht
  have hwH := Lib.hid hw
  have rtH := Lib.hid rt
  have hkH := Lib.hid hk1
  have m2 := ht.le
  have hfcH := Lib.hid hfc
  have hfsH := Lib.hid hfs
  have hd0H := Lib.hid hd0
  clear ht hw hl hk0 hk1 hTp hf hS0 hfc hfs hwf hr rt hw0 hd0
  go_enter Tryz.func103, Tryz.ntmps103
  go_wp2_with fail
  go_loopg [1] k0 (fun k tv wr => ∃ wx, wr = wx ∧ Drew w0 wr ∧ rlookRel S w s f B p a' c' k tv wx)
  case atStart => exact ⟨_, rfl, .refl _, t, a, c, rfl, htH.out, hwH.out, rtH.out, hkH.out, hd0H.out⟩
  case round =>
    obtain ⟨wx, rfl, hd0, t', a4, c4, rfl, ht', hw', rt', hk, hd⟩ := hrel
    have hlen := hw'.len
    have hlen0 : 0 < t'.length := hlen
    obtain ⟨b, o, rfl, -, q, hrg⟩ := (ht'.drew hd).int 0 (by omega)
    rw [Nat.add_zero] at q
    have hx24 : t'[0] < 0 → -24 ≤ t'[0] := fun h => rt' _ (List.getElem_mem _) h
    cases gk with
    | zero =>
      obtain ⟨⟨rfl, rfl, rfl⟩, hstop⟩ := hk
      obtain ⟨x, hx⟩ : ∃ x, t'[0] = x := ⟨_, rfl⟩
      have hxs : x < 0 → B x = none := fun h0 => hstop x t'.tail (by rw [← hx]; cases t' with | nil => simp at hlen | cons _ _ => rfl) h0
      rw [hx] at q hrg hx24
      by_cases h0 : x < 0
      · have h24 := hx24 h0
        have hc := hfcH.out x h0 h24 _ hd
        have hs := hfsH.out x h0 h24
        rw [hxs h0] at hs
        rw [show f x = .slice none 0 0 from hs] at hc
        obtain ⟨n, hn⟩ : ∃ n : Nat, x = -(n : Int) - 1 := ⟨(-x - 1).toNat, by omega⟩
        have hnx : (-x - 1).toNat = n := by omega
        have hn24 : n < 24 := by omega
        have hw1 : IntKind.i64.wrap (-x) = -x := IntWalk.i64_in _ (by omega)
        have hw2 : IntKind.i64.wrap (-x - 1) = (n : Int) := by rw [show -x - 1 = (n : Int) by omega]; exact IntWalk.i64_in _ (by omega)
        rw [hnx] at hc
        have hdH := Lib.hid hd0
        have hdv : decide (x < 0) = true := by simpa using h0
        clear hstop hxs hw' hx ht' hd hd0 hs hx24 rt' hn hnx
        go_wp2_with fail
        go_quiet (fail)
        all_goals go_wp2_with fail
        all_goals go_ret
        exact ⟨rfl, drew_more hdH.out _⟩
      · have hdH := Lib.hid hd0
        have hdv : decide (x < 0) = false := by simpa using h0
        clear hstop hxs hw' hx ht' hd hd0 hx24 rt'
        go_wp2_with fail
        go_quiet (fail)
        all_goals go_wp2_with fail
        all_goals go_ret
        exact ⟨rfl, drew_more hdH.out _⟩
    | succ k =>
      obtain ⟨x, r, u, a3, c3, he, h0, hBx, hfx, hI3, hk⟩ := hk
      subst he
      have hu := hwfH.out _ _ hBx
      have ru := (hrH.out _ _ hBx).1
      simp only [List.getElem_cons_zero] at q hrg hx24
      have h24 := hx24 h0
      have hc := hfcH.out x h0 h24 _ hd
      rw [hfx] at hc
      have hul := hu.len
      obtain ⟨b3, o3, rfl, -, -, -⟩ := hI3.int 0 (by omega)
      have hdH := Lib.hid hd
      have hd0H := Lib.hid hd0
      have hkH2 := Lib.hid hk
      have huH := Lib.hid hu
      have ruH := Lib.hid ru
      have hI3H := Lib.hid hI3
      obtain ⟨n, hn⟩ : ∃ n : Nat, x = -(n : Int) - 1 := ⟨(-x - 1).toNat, by omega⟩
      have hnx : (-x - 1).toNat = n := by omega
      have hn24 : n < 24 := by omega
      have hw1 : IntKind.i64.wrap (-x) = -x := IntWalk.i64_in _ (by omega)
      have hw2 : IntKind.i64.wrap (-x - 1) = (n : Int) := by rw [show -x - 1 = (n : Int) by omega]; exact IntWalk.i64_in _ (by omega)
      rw [hnx] at hc
      have hdv : decide (x < 0) = true := by simpa using h0
      clear hw' ht' hd hd0 hk hu ru hI3 hBx hfx hx24 rt' hul hn hnx
      go_wp2_with fail
      go_quiet (fail)
      all_goals go_wp2_with fail
      all_goals go_quiet (fail)
      all_goals go_wp2_with fail
      go_roundg k
      case measure => omega
      case rel => exact ⟨_, rfl, drew_more (drew_more hd0H.out _) _, u, _, c3, rfl, hI3H.out, huH.out, ruH.out, hkH2.out, drew_more (drew_more hdH.out _) _⟩
end Go.Proofs.YthkamffmpejckaaGreatDoor

/- Walks of the reference's solver: occurs. -/
namespace Go.Proofs.YthkamffmpejckaaGreatDoor
open Go Go.RowKit Go.Maps

def rocRel (w : World) (db : Nat) (θ : Int → List Int) (ρ : Int → Nat) (v : Int) (K : Nat) (D : Nat → Bool) (t : List Int) (i : Value) (wr : World) : Prop :=
  ∃ (k : Nat) (D' : Nat → Bool), i = .int .i64 k ∧ k ≤ t.length ∧ w.grownBy wr (some db) ∧ MarkW wr db 130 (fun j => .bool (D' j)) ∧ (∀ j : Nat, j < 24 → K ≤ ρ (-(j : Int) - 1) → D' j = D j) ∧ NoOcc θ ρ v D' K ∧ v ∉ ap θ (t.take k)
def rocRet (w : World) (db : Nat) (θ : Int → List Int) (ρ : Int → Nat) (v : Int) (K : Nat) (D : Nat → Bool) (t : List Int) (e : Ending) (w' : World) : Prop :=
  ∃ (D' : Nat → Bool) (r : Bool), e = .returned (.bool r) ∧ (r = true ↔ v ∈ ap θ t) ∧ w.grownBy w' (some db) ∧ MarkW w' db 130 (fun j => .bool (D' j)) ∧ (∀ j : Nat, j < 24 → K ≤ ρ (-(j : Int) - 1) → D' j = D j) ∧ (v ∉ ap θ t → NoOcc θ ρ v D' K)
theorem ap_take_succ {θ : Int → List Int} {t : List Int} {k : Nat} (h : k < t.length) : ap θ (t.take (k + 1)) = ap θ (t.take k) ++ ap θ [t[k]] := by
  rw [List.take_succ_eq_append_getElem h, ap_append]
theorem mem_ap_of {θ : Int → List Int} {t : List Int} {v : Int} {k : Nat} (h : k < t.length) (hv : v ∈ ap θ [t[k]]) : v ∈ ap θ t := by
  have : v ∈ ap θ (t.take (k + 1)) := by rw [ap_take_succ h]; exact List.mem_append.2 (.inr hv)
  rw [← List.take_append_drop (k + 1) t, ap_append]
  exact List.mem_append.2 (.inl this)
set_option maxRecDepth 20000 in
set_option maxHeartbeats 4000000 in
theorem roccurs_any {S : Nat → Prop} {xb db : Nat} {a1 : Option Addr} {c1 : Nat} {s : Sg} {B : Bd} {θ : Int → List Int} {ρ : Int → Nat} (h : Slv s B θ ρ) (hr : RgB B) (hSd : ¬ S db) (hxd : xb ≠ db) {v : Int} (hv : v < 0) (hv24 : -24 ≤ v) (hBv : B v = none) :
    ∀ (K : Nat) (t : List Int) (a : Option Addr) (c : Nat) (D : Nat → Bool) (w : World), SolX S w xb a1 c1 s B → MarkW w db 130 (fun j => .bool (D j)) → Ints S w a c t → Rg t → (∀ n ∈ t, n < 0 → ρ n < K) → NoOcc θ ρ v D K →
      Calls Tryz.prog 104 #[.pointer (some ⟨xb, 0, none⟩), .int .i64 (-v - 1), .slice a t.length c, .pointer (some ⟨db, 0, none⟩)] w (rocRet w db θ ρ v K D t) := by
  intro K
  induction K using Nat.strongRecOn with
  | ind K ih =>
  intro t a c D w hS hM ht rt hK hD
  have m2 := ht.le
  have hH := Lib.hid h
  have hrH := Lib.hid hr
  have hSH := Lib.hid hS
  have hMH := Lib.hid hM
  have htH := Lib.hid ht
  have rtH := Lib.hid rt
  have hKH := Lib.hid hK
  have hDH := Lib.hid hD
  have ihH := Lib.hid ih
  have hvvH := Lib.hid (h.free v hv hBv)
  have hBvH := Lib.hid hBv
  obtain ⟨vn, hvn⟩ : ∃ vn : Nat, v = -(vn : Int) - 1 := ⟨(-v - 1).toNat, by omega⟩
  have hvn24 : vn < 24 := by omega
  have e1 : (-v - 1 : Int) = vn := by omega
  rw [e1]
  have hvnH := Lib.hid hvn
  clear h hr hS hM ht rt hK hD ih hBv e1 hvn
  go_enter Tryz.func104, Tryz.ntmps104
  go_wp2_with fail
  go_loopw [9] (fun i wr => rocRel w db θ ρ v K D t i wr) (fun i _ => t.length - (intOf i).toNat)
  case atStart => exact ⟨0, D, rfl, Nat.zero_le _, gby_refl _ _, hMH.out, fun _ _ _ => rfl, hDH.out, by simp [ap_nil]⟩
  case round =>
    obtain ⟨k, D', rfl, hk, hg, hM, hE, hN, hno⟩ := hrel
    by_cases hlt : k < t.length
    · have ht' := htH.out.same (.of_grown hg (fun b hb e => hSd (by cases e; exact hb)))
      obtain ⟨b, o, rfl, hbS, q, hrg⟩ := ht'.int k hlt
      have hS' := hSH.out.grown hg hSd hxd
      have hmem := List.getElem_mem hlt
      have hts := ap_take_succ (θ := θ) hlt
      have hmo := mem_ap_of (θ := θ) (v := v) hlt
      obtain ⟨x, hx⟩ : ∃ x, t[k] = x := ⟨_, rfl⟩
      rw [hx] at q hrg hmem hts hmo
      have hgH := Lib.hid hg
      have hMH' := Lib.hid hM
      have hEH := Lib.hid hE
      have hNH := Lib.hid hN
      have htsH := Lib.hid hts
      have hmoH := Lib.hid hmo
      by_cases h0 : 0 ≤ x
      · have hno' : v ∉ ap θ (t.take (k + 1)) := by
          rw [hts, List.mem_append]
          rintro (e | e)
          · exact hno e
          · rw [ap_pos (by omega), ap_nil] at e; simp at e; have := hvnH.out; omega
        have hnoH := Lib.hid hno'
        clear hg hM hE hN hts hmo hno hno' ht' hS' hmem hx
        go_wp2_with fail
        go_roundw
        case rel => exact ⟨k + 1, D', by go_num, by omega, hgH.out, hMH'.out, hEH.out, hNH.out, hnoH.out⟩
        case measure => simp [intOf]; omega
      · have hx0 : x < 0 := by omega
        have hx24 := rtH.out x hmem hx0
        have hxK := hKH.out x hmem hx0
        obtain ⟨n, hn⟩ : ∃ n : Nat, x = -(n : Int) - 1 := ⟨(-x - 1).toNat, by omega⟩
        have hn24 : n < 24 := by omega
        obtain ⟨vl, qs, hsl⟩ := hS'.slot hx0 hx24
        have hnx : (-x - 1).toNat = n := by omega
        rw [hnx] at qs
        have qd := hM.cell hn24
        have fd := hM.frozen n
        have hap1 : ap θ [x] = θ x := ap_one hx0
        have hxn : -x - 1 = (n : Int) := by omega
        have hnH := Lib.hid hn
        clear hnx
        by_cases hxv : x = v
        · have hnv : n = vn := by have := hvnH.out; omega
          subst hnv
          have hmv : v ∈ ap θ t := hmo (by rw [hap1, hxv, hvvH.out]; simp)
          have hmvH := Lib.hid hmv
          clear hxv hn
          clear hg hM hE hN hts hmo hno ht' hS' hmem hx hmv hap1 hsl
          go_wp2_with fail
          go_ret
          exact ⟨D', true, rfl, ⟨fun _ => hmvH.out, fun _ => rfl⟩, hgH.out, hMH'.out, hEH.out, fun e => (e hmvH.out).elim⟩
        · have hnv : ¬ n = vn := by have := hvnH.out; omega
          have hstep : v ∉ ap θ [x] → v ∉ ap θ (t.take (k + 1)) := fun h2 => by
            rw [hts, List.mem_append]
            rintro (e | e)
            · exact hno e
            · exact h2 e
          have hstepH := Lib.hid hstep
          have hxv' := Lib.hid hxv
          cases hBx : B x with
          | none =>
            rw [hBx] at hsl
            rw [show vl = .slice none 0 0 from hsl] at qs
            have hno' : v ∉ ap θ [x] := by rw [hap1, hH.out.free x hx0 hBx]; simpa using fun e => hxv e.symm
            have hnoH := Lib.hid (hstep hno')
            clear hn
            clear hg hM hE hN hts hmo hno ht' hS' hmem hx hno' hap1 hsl hstep hBx hxv
            go_wp2_with fail
            go_roundw
            case rel => exact ⟨k + 1, D', by go_num, by omega, hgH.out, hMH'.out, hEH.out, hNH.out, hnoH.out⟩
            case measure => simp [intOf]; omega
          | some u =>
            rw [hBx] at hsl
            obtain ⟨a3, c3, rfl, hu⟩ := hsl
            have hbnd := hH.out.bnd x u hBx
            have hwu := (hH.out.wf x u hBx).1
            have hul := hwu.len
            obtain ⟨b3, o3, rfl, -, -, -⟩ := hu.int 0 (by omega)
            cases hDn : D' n with
            | true =>
              rw [hDn] at qd
              have hno' : v ∉ ap θ [x] := by rw [hap1]; have := hN n hn24 hDn (by rw [← hn]; exact hxK); rwa [← hn] at this
              have hnoH := Lib.hid (hstep hno')
              clear hn
              clear hg hM hE hN hts hmo hno ht' hS' hmem hx hno' hap1 hu hstep hBx hxv hbnd hwu hul
              go_wp2_with fail
              go_roundw
              case rel => exact ⟨k + 1, D', by go_num, by omega, hgH.out, hMH'.out, hEH.out, hNH.out, hnoH.out⟩
              case measure => simp [intOf]; omega
            | false =>
              rw [hDn] at qd
              obtain ⟨W, hW⟩ : ∃ W, wr.setCell ⟨db, n, none⟩ (.bool true) = W := ⟨_, rfl⟩
              have hgW : wr.grownBy W (some db) := by rw [← hW]; exact gby_set _ _ _ _
              have hMW : MarkW W db 130 (fun j => .bool (if j = n then true else D' j)) := by
                rw [← hW]
                refine (hM.set (i := n) (.bool true)).congr (fun i _ => ?_)
                by_cases e : i = n
                · simp [e]
                · simp [e]
              have hSW := hS'.grown hgW hSd hxd
              have huW := hu.same (.of_grown hgW (fun b hb e => hSd (by cases e; exact hb)))
              obtain ⟨vl2, qs2, hsl2⟩ := hSW.slot hx0 hx24
              have hqs2 : W.cell? ⟨xb, 1 + n, none⟩ = some (.slice (some ⟨b3, o3, none⟩) u.length c3) := by
                rw [← World.cell?_of_block (hgW.block xb hS'.lt (fun e => hxd (by cases e; rfl)))] at qs
                exact qs
              have hcall := ihH.out (ρ x) hxK u _ c3 _ W hSW hMW huW (hrH.out x u hBx).1 (fun m hm hm0 => hH.out.rk x u hBx m hm hm0) (occ_start (i := n) hx0 (by omega) hxK hN)
              have e1 : (-v - 1 : Int) = vn := by have := hvnH.out; omega
              rw [e1] at hcall
              have hcallH := Lib.hid hcall
              have hWH := Lib.hid hW
              have hgWH := Lib.hid hgW
              have hBxH := Lib.hid hBx
              have hbndH := Lib.hid hbnd
              clear hn
              clear hg hM hE hN hts hmo hno ht' hS' hmem hx hap1 hu hstep hBx hxv hbnd hwu hul hsl2 qs2 hcall hW hgW hMW hSW huW e1
              go_wp2_with fail
              rw [hWH.out]
              go_wp2_with fail
              refine hcallH.out.mono ?_
              rintro e w2 ⟨D2, r, rfl, hr1, hg2, hM2, hE2, hN2⟩
              have hg3 := gby_trans hgH.out (gby_trans hgWH.out hg2)
              have hE3 : ∀ j : Nat, j < 24 → K ≤ ρ (-(j : Int) - 1) → D2 j = D j := fun j hj hjK => by
                rw [hE2 j hj (by omega)]; simp only []; rw [if_neg (fun e => by subst e; rw [← hnH.out] at hjK; omega), hEH.out j hj hjK]
              have hap2 : ap θ u = ap θ [x] := by rw [ap_one hx0, hbndH.out]
              have hE3H := Lib.hid hE3
              have hg3H := Lib.hid hg3
              have hM2H := Lib.hid hM2
              have hE2H := Lib.hid hE2
              have hN2H := Lib.hid hN2
              have hr1H := Lib.hid hr1
              have hap2H := Lib.hid hap2
              clear hr1 hg2 hM2 hE2 hN2 hg3 hE3 hap2
              cases r with
              | true =>
                go_wp2_with fail
                go_ret
                have hmv : v ∈ ap θ t := hmoH.out (by rw [← hap2H.out]; exact hr1H.out.1 (by simp))
                exact ⟨D2, true, rfl, ⟨fun _ => hmv, fun _ => rfl⟩, hg3H.out, hM2H.out, hE3H.out, fun e => (e hmv).elim⟩
              | false =>
                go_wp2_with fail
                go_roundw
                case rel =>
                  have hnu : v ∉ ap θ u := fun e => by have := hr1H.out.2 e; cases this
                  refine ⟨k + 1, D2, by go_num, by omega, hg3H.out, hM2H.out, hE3H.out, ?_, hstepH.out (by rw [← hap2H.out]; exact hnu)⟩
                  exact occ_now (i := n) hH.out hx0 (by have := hnH.out; omega) hBxH.out hNH.out (hN2H.out hnu) hE2H.out hnu
                case measure => simp [intOf]; omega
    · have hall : ap θ (t.take k) = ap θ t := by rw [List.take_of_length_le (by omega)]
      rw [hall] at hno
      have hnoH := Lib.hid hno
      have hgH := Lib.hid hg
      have hMH' := Lib.hid hM
      have hEH := Lib.hid hE
      have hNH := Lib.hid hN
      clear hall hno hg hM hE hN
      go_wp2_with fail
      go_ret
      exact ⟨D', false, rfl, ⟨fun e => (by cases e), fun e => (hnoH.out e).elim⟩, hgH.out, hMH'.out, hEH.out, fun _ => hNH.out⟩
end Go.Proofs.YthkamffmpejckaaGreatDoor

/- Walks of the reference's solver: Solve. -/
namespace Go.Proofs.YthkamffmpejckaaGreatDoor
open Go Go.RowKit Go.Maps

abbrev Nx (xb : Nat) : Nat → Prop := fun b => b ≠ xb
def vsolRet (w : World) (xb : Nat) (a1 : Option Addr) (c1 : Nat) (s : Sg) (B : Bd) (θ : Int → List Int) (ρ : Int → Nat) (a b : List Int) (e : Ending) (w' : World) : Prop :=
  ∃ (r : Bool) (B' : Bd), e = .returned (.bool r) ∧ w.grownBy w' (some xb) ∧ SolX (Nx xb) w' xb a1 c1 s B' ∧ (r = false → ∀ η, Wsub s η → Sat B η → ap η a ≠ ap η b) ∧ (r = true → ∃ θ' ρ', Slv2 s B θ ρ a b B' θ' ρ')
theorem done_new (W : World) : MarkW (W.alloc (.cells #[.bool false, .bool false, .bool false, .bool false, .bool false, .bool false, .bool false, .bool false, .bool false, .bool false, .bool false, .bool false, .bool false, .bool false, .bool false, .bool false, .bool false, .bool false, .bool false, .bool false, .bool false, .bool false, .bool false, .bool false] 130)) W.heap.size 130 (fun _ => .bool ((fun _ => false) 0)) := by
  unfold MarkW
  rw [heap_alloc_new]
  rfl
theorem drew_trans {a b c : World} (h : Drew a b) (k : Drew b c) : Drew a c := by obtain ⟨n, rfl⟩ := h; obtain ⟨m, rfl⟩ := k; exact Drew.mk2 _ _ _
theorem rank_bd (ρ : Int → Nat) : ∀ (q : List Int), ∃ K, ∀ n ∈ q, n < 0 → ρ n < K
  | [] => ⟨0, fun n h => (by simp at h)⟩
  | x :: r => by
    obtain ⟨K, hK⟩ := rank_bd ρ r
    refine ⟨K + ρ x + 1, fun n hn h0 => ?_⟩
    rcases List.mem_cons.1 hn with e | e
    · subst e; omega
    · have := hK n e h0; omega
theorem Lkd.len {B : Bd} {a p : List Int} (h : Lkd B a p) (ha : a.length ≤ 60) (hB : ∀ n u, B n = some u → u.length ≤ 60) : p.length ≤ 60 := by
  induction h with
  | stop _ => exact ha
  | go _ hb _ ih => exact ih (hB _ _ hb)
set_option maxRecDepth 20000 in
set_option maxHeartbeats 4000000 in
theorem solve_var {xb : Nat} {a1 : Option Addr} {c1 : Nat} {s : Sg} {B : Bd} {θ : Int → List Int} {ρ : Int → Nat} (h : Slv s B θ ρ) (hr : RgB B) {w : World} (hS : SolX (Nx xb) w xb a1 c1 s B) {a2 a3 : Option Addr} {c2 c3 : Nat} {a b p q : List Int}
    (ta : Ints (Nx xb) w a2 c2 a) (tb : Ints (Nx xb) w a3 c3 b) (ha : W1 s a) (hb : W1 s b) (ra : Rg a) (rb : Rg b) (lb : b.length ≤ 60) (hp : Lkd B a p) (hq : Lkd B b q) (h0 : p.headD 0 < 0) :
    Calls Tryz.prog 73 #[.pointer (some ⟨xb, 0, none⟩), .slice a2 a.length c2, .slice a3 b.length c3] w (vsolRet w xb a1 c1 s B θ ρ a b) := by
  obtain ⟨ax, cx, tp, clx⟩ := rlook_any hS hr (fun n u hB => (h.wf n u hB).1) ta ha ra hp
  obtain ⟨ay, cy, tq, cly⟩ := rlook_any hS hr (fun n u hB => (h.wf n u hB).1) tb hb rb hq
  obtain ⟨p1, p2, p3⟩ := hp.spec h ha
  obtain ⟨q1, q2, q3⟩ := hq.spec h hb
  have rp := hp.rg hr ra
  have rq := hq.rg hr rb
  have hpv := p1.head_var h0
  have hB0 : B (p.headD 0) = none := p3 _ [] hpv h0
  have hp24 : -24 ≤ p.headD 0 := rp _ (by rw [hpv]; simp) h0
  have lq : q.length ≤ 60 := hq.len lb hS.len
  have hqw := q1.len
  have hpw := p1.len
  have hsame := Lib.hid (fun e => Slv2.same h hr ha hb hp hq h0 e)
  have hbound := Lib.hid (Slv2.bound h hr ha hb ra rb hp hq h0)
  have hocc := Lib.hid (slv_occurs h ha hb hp hq h0)
  obtain ⟨K, hK⟩ := rank_bd ρ q
  have hp0 : p[0] = p.headD 0 := by cases p with | nil => simp at hpw | cons _ _ => rfl
  have hq0 : q[0] = q.headD 0 := by cases q with | nil => simp at hqw | cons _ _ => rfl
  obtain ⟨x, hx⟩ : ∃ x, p.headD 0 = x := ⟨_, rfl⟩
  obtain ⟨y, hy⟩ : ∃ y, q.headD 0 = y := ⟨_, rfl⟩
  rw [hx] at hp0 h0 hB0 hp24
  rw [hy] at hq0
  simp only [hx, hy] at hsame hbound hocc
  obtain ⟨bp, op, rfl, hbp, qp, rp0⟩ := tp.int 0 hpw
  obtain ⟨bq, oq, rfl, hbq, qq, rq0⟩ := tq.int 0 hqw
  rw [Nat.add_zero, hp0] at qp
  rw [Nat.add_zero, hq0] at qq
  rw [hp0] at rp0
  rw [hq0] at rq0
  obtain ⟨n, hn⟩ : ∃ n : Nat, x = -(n : Int) - 1 := ⟨(-x - 1).toNat, by omega⟩
  have hnx : (-x - 1).toNat = n := by omega
  have hn24 : n < 24 := by omega
  have hxn : -x - 1 = (n : Int) := by omega
  have hw1 : IntKind.i64.wrap (-x) = -x := IntWalk.i64_in _ (by omega)
  have hw2 : IntKind.i64.wrap (-x - 1) = (n : Int) := by rw [hxn]; exact IntWalk.i64_in _ (by omega)
  have hx0 : x < 0 := h0
  have hdv : decide (x < 0) = true := by simpa using h0
  have m1 := ta.le
  have m2 := tb.le
  have m3 : p.length ≤ 1000 := by rw [hpv]; simp
  have hoc := fun (S : Nat → Prop) (db : Nat) (hSd : ¬ S db) (hxd : xb ≠ db) => roccurs_any (S := S) (xb := xb) (db := db) (a1 := a1) (c1 := c1) h hr hSd hxd h0 hp24 hB0 K q
  have hnxH := Lib.hid hnx
  have hKH := Lib.hid hK
  have hrqH := Lib.hid rq
  have hocH := Lib.hid hoc
  have clxW : ∀ W, Drew w W → Calls Tryz.prog 103 #[.pointer (some ⟨xb, 0, none⟩), .slice a2 a.length c2] W fun e w' => e = .returned (.slice (some ⟨bp, op, none⟩) p.length cx) ∧ Drew W w' := by
    rintro W ⟨m, rfl⟩; exact clx m
  have clyW : ∀ W, Drew w W → Calls Tryz.prog 103 #[.pointer (some ⟨xb, 0, none⟩), .slice a3 b.length c3] W fun e w' => e = .returned (.slice (some ⟨bq, oq, none⟩) q.length cy) ∧ Drew W w' := by
    rintro W ⟨m, rfl⟩; exact cly m
  have clxH := Lib.hid clxW
  have clyH := Lib.hid clyW
  have hSH := Lib.hid hS
  have tqH := Lib.hid tq
  have hqwH := Lib.hid hqw
  clear clxW clyW h hr hS ta tb ha hb ra rb hp hq p1 p2 p3 q1 q2 q3 rp rq hpv hB0 hK hp0 hq0 hx hy hn hnx tp tq hoc clx cly h0 hp24
  go_enter Tryz.func73, Tryz.ntmps73
  go_wp2_with fail
  refine (clxH.out w (.refl w)).mono ?_
  rintro e w1 ⟨rfl, hd1⟩
  go_wp2_with fail
  refine (clyH.out w1 hd1).mono ?_
  rintro e w2 ⟨rfl, hd2⟩
  have hd := drew_trans hd1 hd2
  have hB2 := hd.below w.heap.size
  have qp2 := cell_later hB2 qp
  have qq2 := cell_later hB2 qq
  have hS2H := Lib.hid (hSH.out.below hB2)
  have tq2H := Lib.hid (tqH.out.below hB2)
  have hB2H := Lib.hid hB2
  clear qp qq hd1 hd2 hd clxH clyH tqH hSH hB2
  by_cases hyx : y = x
  · have hyxb : (y == x) = true := by simpa using hyx
    have hsm := Lib.hid (hsame.out hyx)
    clear hyx hsame hbound hocc hocH
    go_wp2_with fail
    go_quiet (fail)
    all_goals go_wp2_with fail
    all_goals go_ret
    exact ⟨true, B, rfl, gby_below (bcall hB2H.out ((Drew.mk _ _).below _)), hS2H.out.below ((Drew.mk _ _).below _), fun e => (by cases e), fun _ => ⟨_, _, hsm.out⟩⟩
  · have hyxb : (y == x) = false := by simpa using hyx
    have hyxH := Lib.hid hyx
    clear hyx hsame
    go_wp2_with fail
    go_quiet (fail)
    go_upto_region 6 with fail
    obtain ⟨W3, hW3⟩ : ∃ W3, w2.drewN nq = W3 := ⟨_, rfl⟩
    have hb3 : Below w2.heap.size w2 W3 := by rw [← hW3]; exact (Drew.mk _ _).below _
    rw [hW3]
    have qp3 := cell_later hb3 qp2
    have qq3 := cell_later hb3 qq2
    have hS3 := hS2H.out.below hb3
    have tq3 := tq2H.out.below hb3
    have hB3 := bcall hB2H.out hb3
    obtain ⟨W4, hW4⟩ : ∃ W4, W3.alloc (.cells #[.bool false, .bool false, .bool false, .bool false, .bool false, .bool false, .bool false, .bool false, .bool false, .bool false, .bool false, .bool false, .bool false, .bool false, .bool false, .bool false, .bool false, .bool false, .bool false, .bool false, .bool false, .bool false, .bool false, .bool false] 130) = W4 := ⟨_, rfl⟩
    have hM4 : MarkW W4 W3.heap.size 130 (fun _ => .bool ((fun _ => false) 0)) := by rw [← hW4]; exact done_new W3
    have hb4 : Below W3.heap.size W3 W4 := by rw [← hW4]; exact below1 _ _
    have hS4 := (hS3.lts.below hb4)
    have tq4 := (tq3.lt.below hb4)
    have hxd : xb ≠ W3.heap.size := by have := hS3.lt; omega
    have cc := hocH.out _ W3.heap.size (fun h => by have := h.2; omega) hxd _ _ (fun _ => false) W4 hS4 hM4 tq4 hrqH.out hKH.out (fun _ _ h => by cases h)
    have hz3 : W3.heap.size = w2.heap.size := by rw [← hW3]; rfl
    rw [hxn, hz3] at cc
    rw [hz3] at hxd
    have ccH := Lib.hid cc
    have hW4H := Lib.hid hW4
    have hS4H := Lib.hid hS4
    have tq4H := Lib.hid tq4
    have qp4 := cell_later hb4 qp3
    have hB4H := Lib.hid (bcall hB3 hb4)
    have hz4H := Lib.hid (show w.heap.size ≤ w2.heap.size ∧ w.heap.size ≤ W4.heap.size from ⟨by rw [← hz3]; exact hB3.size, Nat.le_trans hB3.size hb4.size⟩)
    have hbpH := Lib.hid (show bp < w2.heap.size by rw [← hz3]; exact World.block_lt_of_cell? _ _ qp3)
    have hS4w := Lib.hid (show (fun b => Nx xb b ∧ b < W3.heap.size) = (fun b => Nx xb b ∧ b < w2.heap.size) by rw [hz3])
    clear hz3 cc hW3 hb3 qp2 qq2 hS3 tq3 hB3 hM4 hb4 hS4 tq4 hW4 hS2H tq2H hB2H hocH hKH hrqH
    rw [hW4H.out]
    go_wp2_with fail
    (with_reducible refine ccH.out.mono ?_)
    rintro e w5 ⟨D', r, rfl, hr1, hg5, -, -, -⟩
    have hr1H := Lib.hid hr1
    have hb5 := Lib.hid (below_of_gby hB4H.out hg5 hz4H.out.2 hz4H.out.1)
    have hS4x := hS4H.out
    have tq4x := tq4H.out
    rw [hS4w.out] at hS4x tq4x
    have hS5 := Lib.hid (hS4x.grown hg5 (fun h => by have := h.2; omega) hxd)
    have tq5 := Lib.hid (tq4x.same (.of_grown hg5 (fun b hb e => by cases e; have := hb.2; omega)))
    have qp5 := (World.cell?_of_block (hg5.block bp (World.block_lt_of_cell? _ _ qp4) (fun e => by have := hbpH.out; cases e; omega))).trans qp4
    clear hS4x tq4x hr1 hg5 hS4H tq4H hB4H hz4H qp4
    cases r with
    | true =>
      go_wp2_with fail
      go_ret
      exact ⟨false, B, rfl, gby_below hb5.out, hS5.out.weak (fun _ h => h.1), fun _ => hocc.out hyxH.out (hr1H.out.1 (by simp)), fun e => (by cases e)⟩
    | false =>
      obtain ⟨vo, hc5, -⟩ := hS5.out.slot hx0 (by omega)
      rw [hnxH.out] at hc5
      have hf5 := hS5.out.frozen (1 + n)
      have hbd : Below w5.heap.size w5 w5.drew := Below.drew (.refl w5.heap.size _)
      have hS6 := ((hS5.out.weak (S' := Nx xb) (fun _ h => h.1)).below hbd).set (fun h => h rfl) hx0 (by omega) ((tq5.out.weak (S' := Nx xb) (fun _ h => h.1)).below hbd) lq
      rw [hnxH.out] at hS6
      have hgF := gby_trans (gby_below (row := some xb) (bcall hb5.out hbd)) (gby_set w5.drew xb (1 + n) (.slice (some ⟨bq, oq, none⟩) q.length cy))
      obtain ⟨θ', ρ', hfin⟩ := hbound.out (fun e => by have := hr1H.out.2 e; cases this)
      have hS6H := Lib.hid hS6
      have hgFH := Lib.hid hgF
      have hfinH := Lib.hid hfin
      clear hS6 hgF hfin hbd hS5 tq5 hb5 hr1H
      go_wp2_with fail
      go_region
      all_goals go_wp2_with fail
      all_goals go_ret
      all_goals exact ⟨true, _, rfl, hgFH.out, hS6H.out, fun e => (by cases e), fun _ => ⟨_, _, hfinH.out⟩⟩
end Go.Proofs.YthkamffmpejckaaGreatDoor

/- Walks of the reference's solver: Solve of any terms. -/
namespace Go.Proofs.YthkamffmpejckaaGreatDoor
open Go Go.RowKit Go.Maps

theorem Slv2.turn {s : Sg} {B : Bd} {θ : Int → List Int} {ρ : Int → Nat} {a b p q : List Int} {B' : Bd} {θ' : Int → List Int} {ρ' : Int → Nat} (h : Slv s B θ ρ) (ha : W1 s a) (hb : W1 s b) (hp : Lkd B a p) (hq : Lkd B b q) (h2 : Slv2 s B θ ρ q p B' θ' ρ') : Slv2 s B θ ρ a b B' θ' ρ' := by
  refine ⟨h2.slv, h2.rg, fun η hw => ?_, h2.less⟩
  rw [h2.sat η hw]
  constructor
  · rintro ⟨g1, g2⟩
    refine ⟨g1, ?_⟩
    rw [← hp.eta g1 ha (fun n u hB => (h.wf n u hB).1), ← hq.eta g1 hb (fun n u hB => (h.wf n u hB).1), g2]
  · rintro ⟨g1, g2⟩
    refine ⟨g1, ?_⟩
    rw [hp.eta g1 ha (fun n u hB => (h.wf n u hB).1), hq.eta g1 hb (fun n u hB => (h.wf n u hB).1), g2]
theorem no_turn {s : Sg} {B : Bd} {θ : Int → List Int} {ρ : Int → Nat} {a b p q : List Int} (h : Slv s B θ ρ) (ha : W1 s a) (hb : W1 s b) (hp : Lkd B a p) (hq : Lkd B b q) (h2 : ∀ η, Wsub s η → Sat B η → ap η q ≠ ap η p) : ∀ η, Wsub s η → Sat B η → ap η a ≠ ap η b := by
  intro η hw hs he
  refine h2 η hw hs ?_
  rw [hp.eta hs ha (fun n u hB => (h.wf n u hB).1), hq.eta hs hb (fun n u hB => (h.wf n u hB).1), he]
theorem lkd_self {B : Bd} {a p : List Int} (h : Lkd B a p) : Lkd B p p := by
  induction h with
  | stop h => exact .stop h
  | go _ _ _ ih => exact ih
/-- one call of Solve -/
def SolveAt (xb : Nat) (a1 : Option Addr) (c1 : Nat) (s : Sg) (B : Bd) (θ : Int → List Int) (ρ : Int → Nat) (a b : List Int) : Prop :=
  ∀ (w : World) (a2 a3 : Option Addr) (c2 c3 : Nat), SolX (Nx xb) w xb a1 c1 s B → Ints (Nx xb) w a2 c2 a → Ints (Nx xb) w a3 c3 b →
    Calls Tryz.prog 73 #[.pointer (some ⟨xb, 0, none⟩), .slice a2 a.length c2, .slice a3 b.length c3] w (vsolRet w xb a1 c1 s B θ ρ a b)
def vlopRel (w : World) (xb : Nat) (a1 : Option Addr) (c1 : Nat) (s : Sg) (B : Bd) (θ : Int → List Int) (ρ : Int → Nat) (p q : List Int) (m : Nat) (i : Value) (wr : World) : Prop :=
  ∃ (k : Nat) (B1 : Bd) (θ1 : Int → List Int) (ρ1 : Int → Nat), i = .int .i64 k ∧ k ≤ m ∧ SlvK s B θ ρ p q k B1 θ1 ρ1 ∧ SolX (Nx xb) wr xb a1 c1 s B1 ∧ w.grownBy wr (some xb)
theorem args_len {s : Sg} {t u : List Int} (ht : W1 s t) (hu : u ∈ argsW s t) : u.length < t.length := by
  cases t with
  | nil => exact (ht.ne rfl).elim
  | cons n x =>
    obtain ⟨-, h2, -, -⟩ := ht.args
    obtain ⟨L1, L2, hL⟩ := List.append_of_mem hu
    have : x.length = L1.flatten.length + (u.length + L2.flatten.length) := by rw [← h2, hL]; simp
    rw [List.length_cons]; omega
theorem keep2 {W4 w1 w2 : World} {xb : Nat} {v : Value} (h : w1.cell? ⟨xb, 0, none⟩ = some v ∧ Below W4.heap.size W4 w1) (hb : Below w1.heap.size w1 w2) : w2.cell? ⟨xb, 0, none⟩ = some v ∧ Below W4.heap.size W4 w2 := ⟨cell_later hb h.1, bcall h.2 hb⟩
def S4 (xb : Nat) (v vi vj : Value) (ci cj : Addr) (wr w' : World) : Prop := w'.cell? ⟨xb, 0, none⟩ = some v ∧ w'.cell? ci = some vi ∧ w'.cell? cj = some vj ∧ wr.grownBy w' (some xb)
theorem S4.call {xb : Nat} {v vi vj : Value} {ci cj : Addr} {wr w1 w2 : World} (h : w1.cell? ⟨xb, 0, none⟩ = some v ∧ w1.cell? ci = some vi ∧ w1.cell? cj = some vj ∧ wr.grownBy w1 (some xb)) (hb : Below w1.heap.size w1 w2) : w2.cell? ⟨xb, 0, none⟩ = some v ∧ w2.cell? ci = some vi ∧ w2.cell? cj = some vj ∧ wr.grownBy w2 (some xb) :=
  ⟨cell_later hb h.1, cell_later hb h.2.1, cell_later hb h.2.2.1, gby_trans h.2.2.2 (gby_below hb)⟩
theorem S4.solve {xb : Nat} {vi vj : Value} {ci cj : Addr} {wr w1 w2 : World} {a1 : Option Addr} {c1 : Nat} {s : Sg} {B : Bd} (h : w1.cell? ⟨xb, 0, none⟩ = some (.slice a1 s.length c1) ∧ w1.cell? ci = some vi ∧ w1.cell? cj = some vj ∧ wr.grownBy w1 (some xb)) (hi : ci.block ≠ xb) (hj : cj.block ≠ xb) (hg : w1.grownBy w2 (some xb)) (hs : SolX (Nx xb) w2 xb a1 c1 s B) :
    w2.cell? ⟨xb, 0, none⟩ = some (.slice a1 s.length c1) ∧ w2.cell? ci = some vi ∧ w2.cell? cj = some vj ∧ wr.grownBy w2 (some xb) :=
  ⟨hs.sign, (World.cell?_of_block (hg.block _ (World.block_lt_of_cell? _ _ h.2.1) (fun e => hi (by cases e; rfl)))).trans h.2.1, (World.cell?_of_block (hg.block _ (World.block_lt_of_cell? _ _ h.2.2.1) (fun e => hj (by cases e; rfl)))).trans h.2.2.1, gby_trans h.2.2.2 hg⟩
theorem aposL_at {s : Sg} {t : List Int} {k : Nat} (h : k < (aposL s t).length) : (aposL s t)[k] = (apos s t k : Int) := by simp [aposL]
theorem aposL_len (s : Sg) (t : List Int) : (aposL s t).length = (argsW s t).length := by simp [aposL]
set_option maxRecDepth 20000 in
set_option maxHeartbeats 4000000 in
theorem solve_step {xb : Nat} {a1 : Option Addr} {c1 : Nat} {s : Sg} {B : Bd} {θ : Int → List Int} {ρ : Int → Nat} (hok : okSign s = true) (h : Slv s B θ ρ) (hr : RgB B) {a b p q : List Int} (ha : W1 s a) (hb : W1 s b) (ra : Rg a) (rb : Rg b) (la : a.length ≤ 60) (lb : b.length ≤ 60) (hlB : ∀ n u, B n = some u → u.length ≤ 60)
    (hp : Lkd B a p) (hq : Lkd B b q) (h0 : 0 ≤ p.headD 0)
    (hrec : ∀ k B1 θ1 ρ1 (hx : k < (argsW s p).length) (hy : k < (argsW s q).length), q.headD 0 = p.headD 0 → SlvK s B θ ρ p q k B1 θ1 ρ1 → SolveAt xb a1 c1 s B1 θ1 ρ1 (argsW s p)[k] (argsW s q)[k]) :
    SolveAt xb a1 c1 s B θ ρ a b := by
  intro w a2 a3 c2 c3 hS ta tb
  obtain ⟨ax, cx, tp, clx⟩ := rlook_any hS hr (fun n u hB => (h.wf n u hB).1) ta ha ra hp
  obtain ⟨ay, cy, tq, cly⟩ := rlook_any hS hr (fun n u hB => (h.wf n u hB).1) tb hb rb hq
  obtain ⟨p1, p2, p3⟩ := hp.spec h ha
  obtain ⟨q1, q2, q3⟩ := hq.spec h hb
  have rp := hp.rg hr ra
  have rq := hq.rg hr rb
  have lp : p.length ≤ 60 := hp.len la hlB
  have lq : q.length ≤ 60 := hq.len lb hlB
  have hqw := q1.len
  have hpw := p1.len
  have hp0 : p[0] = p.headD 0 := by cases p with | nil => simp at hpw | cons _ _ => rfl
  have hq0 : q[0] = q.headD 0 := by cases q with | nil => simp at hqw | cons _ _ => rfl
  have hturn : q.headD 0 < 0 → SolveAt xb a1 c1 s B θ ρ q p := fun hq0 w2 a4 a5 c4 c5 hS2 t4 t5 => solve_var h hr hS2 t4 t5 q1 p1 rq rp lp (lkd_self hq) (lkd_self hp) hq0
  have hclash := slv_clash h ha hb hp hq h0
  obtain ⟨P1, P2, P3⟩ := args_all p1 rfl
  obtain ⟨Q1, Q2, Q3⟩ := args_all q1 rfl
  have hal : q.headD 0 = p.headD 0 → (argsW s q).length = (argsW s p).length := fun e => by rw [P1, Q1, e]
  have hm3 : (argsW s p).length ≤ 3 := by rw [P1]; exact arW_le3 hok P2
  have hfin := fun k B1 θ1 ρ1 e hk => SlvK.fin (k := k) (B1 := B1) (θ1 := θ1) (ρ1 := ρ1) h ha hb hp hq h0 e hk
  have hfail := fun k B1 θ1 ρ1 e hk => SlvK.fail (k := k) (B1 := B1) (θ1 := θ1) (ρ1 := ρ1) h ha hb hp hq h0 e hk
  have hst := SlvK.start (p := p) (q := q) h hr
  have hnt := Lib.hid (no_turn h ha hb hp hq)
  have htn := Lib.hid (fun B' θ' ρ' => Slv2.turn (B' := B') (θ' := θ') (ρ' := ρ') h ha hb hp hq)
  obtain ⟨x, hx⟩ : ∃ x, p.headD 0 = x := ⟨_, rfl⟩
  obtain ⟨y, hy⟩ : ∃ y, q.headD 0 = y := ⟨_, rfl⟩
  rw [hx] at hp0 h0
  rw [hy] at hq0
  simp only [hx, hy] at hturn hclash hal hfin hfail hrec
  obtain ⟨bp, op, rfl, hbp, qp, rp0⟩ := tp.int 0 hpw
  obtain ⟨bq, oq, rfl, hbq, qq, rq0⟩ := tq.int 0 hqw
  rw [Nat.add_zero, hp0] at qp
  rw [Nat.add_zero, hq0] at qq
  rw [hp0] at rp0
  rw [hq0] at rq0
  have hdv : decide (x < 0) = false := by simpa using h0
  have m1 := ta.le
  have m2 := tb.le
  have clxW : ∀ W, Drew w W → Calls Tryz.prog 103 #[.pointer (some ⟨xb, 0, none⟩), .slice a2 a.length c2] W fun e w' => e = .returned (.slice (some ⟨bp, op, none⟩) p.length cx) ∧ Drew W w' := by
    rintro W ⟨m, rfl⟩; exact clx m
  have clyW : ∀ W, Drew w W → Calls Tryz.prog 103 #[.pointer (some ⟨xb, 0, none⟩), .slice a3 b.length c3] W fun e w' => e = .returned (.slice (some ⟨bq, oq, none⟩) q.length cy) ∧ Drew W w' := by
    rintro W ⟨m, rfl⟩; exact cly m
  have clxH := Lib.hid clxW
  have clyH := Lib.hid clyW
  have hSH := Lib.hid hS
  have tpH := Lib.hid tp
  have tqH := Lib.hid tq
  have p1H := Lib.hid p1
  have q1H := Lib.hid q1
  have hturnH := Lib.hid hturn
  have hclashH := Lib.hid hclash
  have P3H := Lib.hid P3
  have Q3H := Lib.hid Q3
  have halH := Lib.hid hal
  have hm3H := Lib.hid hm3
  have hfinH := Lib.hid hfin
  have hfailH := Lib.hid hfail
  have hstH := Lib.hid hst
  have hrecH := Lib.hid hrec
  have hokH := Lib.hid hok
  have h0H := Lib.hid h0
  clear h hr hS ta tb ha hb ra rb la lb hlB hp hq p1 p2 p3 q1 q2 q3 rp rq hp0 hq0 hx hy tp tq clx cly clxW clyW hturn hclash P1 P2 P3 Q1 Q2 Q3 hal hm3 hfin hfail hst hrec hok
  go_enter Tryz.func73, Tryz.ntmps73
  go_wp2_with fail
  (with_reducible refine (clxH.out w (.refl w)).mono ?_)
  rintro e w1 ⟨rfl, hd1⟩
  go_wp2_with fail
  (with_reducible refine (clyH.out w1 hd1).mono ?_)
  rintro e w2 ⟨rfl, hd2⟩
  have hd := drew_trans hd1 hd2
  have hB2 := hd.below w.heap.size
  have qp2 := cell_later hB2 qp
  have qq2 := cell_later hB2 qq
  have hS2H := Lib.hid (hSH.out.below hB2)
  have tp2H := Lib.hid (tpH.out.below hB2)
  have tq2H := Lib.hid (tqH.out.below hB2)
  have hB2H := Lib.hid hB2
  clear qp qq hd1 hd2 hd clxH clyH tpH tqH hSH hB2
  go_wp2_with fail
  go_quiet (fail)
  by_cases hy0 : y < 0
  · -- the second is a variable
    have hcall := hturnH.out hy0
    have hcallH := Lib.hid hcall
    clear hcall hclashH P3H Q3H halH hfinH hfailH hstH hrecH hturnH
    go_upto_region 11 with fail
    obtain ⟨W3, hW3⟩ : ∃ W3, w2.drewN nq = W3 := ⟨_, rfl⟩
    have hb3 : Below w2.heap.size w2 W3 := by rw [← hW3]; exact (Drew.mk _ _).below _
    rw [hW3]
    have cc := Lib.hid (hcallH.out W3 _ _ cy cx (hS2H.out.below hb3) (tq2H.out.below hb3) (tp2H.out.below hb3))
    have hB3 := Lib.hid (bcall hB2H.out hb3)
    clear hcallH hW3 hb3 hS2H tq2H tp2H hB2H qp2 qq2
    go_wp2_with fail
    (with_reducible refine cc.out.mono ?_)
    rintro e w3 ⟨r, B', rfl, hg, hSX, hf, ht⟩
    have hgH := Lib.hid (gby_trans (gby_below hB3.out) hg)
    have hSXH := Lib.hid hSX
    have hfH := Lib.hid hf
    have htH := Lib.hid ht
    clear hg hSX hf ht cc hB3
    go_wp2_with fail
    go_ret
    exact ⟨r, B', rfl, hgH.out, hSXH.out, fun e => hnt.out (hfH.out e), fun e => by obtain ⟨θ', ρ', h2⟩ := htH.out e; exact ⟨θ', ρ', htn.out _ _ _ h2⟩⟩
  · have hdv2 : decide (y < 0) = false := by simpa using hy0
    have hy0' : 0 ≤ y := by omega
    clear hturnH hnt htn
    go_upto_region 12 with fail
    obtain ⟨W3, hW3⟩ : ∃ W3, w2.drewN nq = W3 := ⟨_, rfl⟩
    have hb3 : Below w2.heap.size w2 W3 := by rw [← hW3]; exact (Drew.mk _ _).below _
    rw [hW3]
    have qp3 := cell_later hb3 qp2
    have qq3 := cell_later hb3 qq2
    have hS3H := Lib.hid (hS2H.out.below hb3)
    have tp3H := Lib.hid (tp2H.out.below hb3)
    have tq3H := Lib.hid (tq2H.out.below hb3)
    have hB3H := Lib.hid (bcall hB2H.out hb3)
    clear hW3 hb3 hS2H tq2H tp2H hB2H qp2 qq2
    by_cases hxy : x = y
    · have hne : (x != y) = false := by simpa using hxy
      have hyxH := Lib.hid hxy.symm
      clear hxy hclashH
      go_wp2_with fail
      go_quiet (fail)
      go_upto_region 14 with fail
      obtain ⟨W4, hW4⟩ : ∃ W4, W3.drewN nq = W4 := ⟨_, rfl⟩
      have hb4 : Below W3.heap.size W3 W4 := by rw [← hW4]; exact (Drew.mk _ _).below _
      rw [hW4]
      have hS4 := hS3H.out.below hb4
      have tp4 := tp3H.out.below hb4
      have tq4 := tq3H.out.below hb4
      have hB4 := bcall hB3H.out hb4
      have qs := hS4.sign
      have caP := fun W (hb : Below W4.heap.size W4 W) => wArguments_any a1 (some ⟨bp, op, none⟩) c1 cx s p W (hS4.sg.below hb) (tp4.below hb) hokH.out p1H.out (by omega)
      have caQ := fun W (hb : Below W4.heap.size W4 W) => wArguments_any a1 (some ⟨bq, oq, none⟩) c1 cy s q W (hS4.sg.below hb) (tq4.below hb) hokH.out q1H.out (by omega)
      have caPH := Lib.hid caP
      have caQH := Lib.hid caQ
      have hS4H := Lib.hid hS4
      have tp4H := Lib.hid tp4
      have tq4H := Lib.hid tq4
      have hB4H := Lib.hid hB4
      clear hW4 hb4 hS3H tp3H tq3H hB3H qp3 qq3 caP caQ hS4 tp4 tq4 hB4
      have hk0 : W4.drew.cell? ⟨xb, 0, none⟩ = some (.slice a1 s.length c1) ∧ Below W4.heap.size W4 W4.drew := ⟨qs, Below.drew (.refl W4.heap.size _)⟩
      go_region_held3 (fun w' => w'.cell? ⟨xb, 0, none⟩ = some (.slice a1 s.length c1) ∧ Below W4.heap.size W4 w')
        ((first | exact hk0 | exact keep2 ‹_› hbQ | exact keep2 ‹_› hbP))
        ((go_at_call 72; (first
          | ((with_reducible refine (caPH.out _ ?_).mono ?_); exact (And.right ‹_›); rintro e w' ⟨vP, rfl, hoP, hbP⟩; obtain ⟨aP, cP, rfl, hIP⟩ := hoP.ints)
          | ((with_reducible refine (caQH.out _ ?_).mono ?_); exact (And.right ‹_›); rintro e w' ⟨vQ, rfl, hoQ, hbQ⟩; obtain ⟨aQ, cQ, rfl, hIQ⟩ := hoQ.ints))))
      have hB5 : Below W4.heap.size W4 w' := And.right (by assumption : w'.cell? ⟨xb, 0, none⟩ = some (.slice a1 s.length c1) ∧ Below W4.heap.size W4 w')
      have hxlt : xb < W4.heap.size := hS4H.out.lt
      have hIP5 := Lib.hid ((hIP.below hbQ).weak (S' := Nx xb) (fun b hb e => by have hb' : W4.heap.size ≤ b := hb; omega))
      have hIQ5 := Lib.hid (hIQ.weak (S' := Nx xb) (fun b hb e => by have hb' : _ ≤ b := hb; have h2 : W4.heap.size ≤ _ := hbP.size; omega))
      have hS5H := Lib.hid (hS4H.out.below hB5)
      have tp5H := Lib.hid (tp4H.out.below hB5)
      have tq5H := Lib.hid (tq4H.out.below hB5)
      have hB5H := Lib.hid (bcall hB4H.out hB5)
      have hlP := aposL_len s p
      have hlQ := aposL_len s q
      rw [halH.out hyxH.out] at hlQ
      have hlQH := Lib.hid hlQ
      have hm3 := hm3H.out
      obtain ⟨m, hm⟩ : ∃ m, (argsW s p).length = m := ⟨_, rfl⟩
      rw [hm] at hlP hlQ hm3
      have hmH := Lib.hid hm
      obtain ⟨w5, hw5⟩ : ∃ w5, w' = w5 := ⟨_, rfl⟩
      subst hw5
      clear hm hB5 hIP hIQ hbP hbQ hoP hoQ hS4H tp4H tq4H hB4H caPH caQH hk0 hxlt qs hlQH
      go_wp2_with fail
      go_loopw [10] (fun i wr => vlopRel w' xb a1 c1 s B θ ρ p q m i wr) (fun i _ => m - (intOf i).toNat)
      case atStart => exact ⟨0, B, θ, ρ, rfl, Nat.zero_le _, hstH.out, hS5H.out, gby_refl _ _⟩
      case round =>
        obtain ⟨k, B1, θ1, ρ1, rfl, hk, hK, hSr, hg⟩ := hrel
        by_cases hkm : k < m
        · have hA : Agree (Nx xb) w' wr := .of_grown hg (fun b hb e => hb (by cases e; rfl))
          have hkP : k < (argsW s p).length := by rw [hmH.out]; exact hkm
          have hkQ : k < (argsW s q).length := by rw [halH.out hyxH.out, hmH.out]; exact hkm
          obtain ⟨bi, oi, rfl, hbi, qi, -⟩ := (hIP5.out.same hA).int k (by rw [hlP]; exact hkm)
          obtain ⟨bj, oj, rfl, hbj, qj, -⟩ := (hIQ5.out.same hA).int k (by rw [hlQ]; exact hkm)
          rw [aposL_at] at qi qj
          obtain ⟨g1, g2, g3, g4⟩ := P3H.out k hkP
          obtain ⟨f1, f2, f3, f4⟩ := Q3H.out k hkQ
          have hcall := hrecH.out k B1 θ1 ρ1 hkP hkQ hyxH.out hK
          have hstep := fun B2 θ2 ρ2 => SlvK.step (B2 := B2) (θ2 := θ2) (ρ2 := ρ2) hK hkP hkQ
          have hfl := hfailH.out k B1 θ1 ρ1 hyxH.out hK hkP hkQ
          have caP := fun W (hW : wr.grownBy W (some xb)) => wPart_any a1 (some ⟨bp, op, none⟩) c1 cx s p (apos s p k) (apos s p (k + 1)) (argsW s p)[k] W (hSr.sg.same (.of_grown hW (fun b hb e => hb (by cases e; rfl)))) ((tp5H.out.same hA).same (.of_grown hW (fun b hb e => hb (by cases e; rfl)))) hokH.out g1 g2 g3 g4 (by omega)
          have caQ := fun W (hW : wr.grownBy W (some xb)) => wPart_any a1 (some ⟨bq, oq, none⟩) c1 cy s q (apos s q k) (apos s q (k + 1)) (argsW s q)[k] W (hSr.sg.same (.of_grown hW (fun b hb e => hb (by cases e; rfl)))) ((tq5H.out.same hA).same (.of_grown hW (fun b hb e => hb (by cases e; rfl)))) hokH.out f1 f2 f3 f4 (by omega)
          obtain ⟨u1, hu1⟩ : ∃ u1, (argsW s p)[k] = u1 := ⟨_, rfl⟩
          obtain ⟨u2, hu2⟩ : ∃ u2, (argsW s q)[k] = u2 := ⟨_, rfl⟩
          rw [hu1] at hcall hfl
          rw [hu2] at hcall hfl
          simp only [hu1, hu2] at hstep caP caQ
          obtain ⟨gi, hgi⟩ : ∃ gi, apos s p k = gi := ⟨_, rfl⟩
          obtain ⟨gj, hgj⟩ : ∃ gj, apos s q k = gj := ⟨_, rfl⟩
          rw [hgi] at caP qi
          rw [hgj] at caQ qj
          have hk0 : wr.drew.cell? ⟨xb, 0, none⟩ = some (.slice a1 s.length c1) ∧ wr.drew.cell? ⟨bi, oi + k, none⟩ = some (.int .i64 gi) ∧ wr.drew.cell? ⟨bj, oj + k, none⟩ = some (.int .i64 gj) ∧ wr.grownBy wr.drew (some xb) :=
            ⟨hSr.sign, qi, qj, gby_below (Below.drew (.refl wr.heap.size _))⟩
          have hcS : ∀ (W w1 : World) (_ : Below wr.drew.heap.size wr.drew w1) (_ : Below w1.heap.size w1 W) (a4 a5 : Option Addr) (c4 c5 : Nat) (_ : Ints (fun b => wr.drew.heap.size ≤ b) w1 a4 c4 u1) (_ : Ints (fun b => w1.heap.size ≤ b) W a5 c5 u2),
              Calls Tryz.prog 73 #[.pointer (some ⟨xb, 0, none⟩), .slice a4 u1.length c4, .slice a5 u2.length c5] W (vsolRet W xb a1 c1 s B1 θ1 ρ1 u1 u2) := fun W w1 h1 h2 a4 a5 c4 c5 i1 i2 => by
            have hx1 := hSr.lt
            refine hcall W a4 a5 c4 c5 (((hSr.below (Below.drew (.refl wr.heap.size _))).below h1).below h2) ((i1.below h2).weak (fun b hb e => ?_)) (i2.weak (fun b hb e => ?_))
            · have hb' : wr.heap.size ≤ b := hb; omega
            · have hb' : w1.heap.size ≤ b := hb
              have : wr.heap.size ≤ w1.heap.size := h1.size
              omega
          have hcSH := Lib.hid hcS
          have caPH := Lib.hid caP
          have caQH := Lib.hid caQ
          have hstepH := Lib.hid hstep
          have hflH := Lib.hid hfl
          have hgH := Lib.hid hg
          have hSrH := Lib.hid hSr
          have qs := hSr.sign
          clear hA g1 g2 g3 g4 f1 f2 f3 f4 hcall hstep hfl caP caQ hu1 hu2 hgi hgj hcS hg hSr hK hkP hkQ
          go_wp2_with fail
          go_region_held3 (fun w' => w'.cell? ⟨xb, 0, none⟩ = some (.slice a1 s.length c1) ∧ w'.cell? ⟨bi, oi + k, none⟩ = some (.int .i64 gi) ∧ w'.cell? ⟨bj, oj + k, none⟩ = some (.int .i64 gj) ∧ wr.grownBy w' (some xb))
            ((first | exact hk0 | exact S4.solve ‹_› hbi hbj hgS hSX | exact S4.call ‹_› hbQ | exact S4.call ‹_› hbP))
            ((first
              | (go_at_call 74; (first
                | ((with_reducible refine (caPH.out _ ?_).mono ?_); exact (And.right (And.right (And.right ‹_›))); rintro e w' ⟨vP, rfl, hoP, hbP⟩; obtain ⟨aP, cP, rfl, hIP⟩ := hoP.ints)
                | ((with_reducible refine (caQH.out _ ?_).mono ?_); exact (And.right (And.right (And.right ‹_›))); rintro e w' ⟨vQ, rfl, hoQ, hbQ⟩; obtain ⟨aQ, cQ, rfl, hIQ⟩ := hoQ.ints)))
              | (go_at_call 73; (with_reducible refine (hcSH.out _ _ hbP hbQ _ _ _ _ hIP hIQ).mono ?_); rintro e w' ⟨r, B', rfl, hgS, hSX, hf, ht⟩)))
          have hgW : wr.grownBy w' (some xb) := And.right (And.right (And.right (by assumption : w'.cell? ⟨xb, 0, none⟩ = some (.slice a1 s.length c1) ∧ w'.cell? ⟨bi, oi + k, none⟩ = some (.int .i64 gi) ∧ w'.cell? ⟨bj, oj + k, none⟩ = some (.int .i64 gj) ∧ wr.grownBy w' (some xb))))
          have hgWH := Lib.hid (gby_trans hgH.out hgW)
          have hSXH := Lib.hid hSX
          have hfH := Lib.hid hf
          have htH := Lib.hid ht
          clear hgW hSX hf ht hgS hIP hIQ hbP hbQ hoP hoQ hk0 hcSH caPH caQH
          cases r with
          | false =>
            go_wp2_with fail
            go_ret
            exact ⟨false, B', rfl, gby_trans (gby_below hB5H.out) hgWH.out, hSXH.out, fun _ => hflH.out (hfH.out (by simp)), fun e => (by cases e)⟩
          | true =>
            go_wp2_with fail
            go_roundw
            case rel =>
              obtain ⟨θ2, ρ2, h2⟩ := htH.out (by simp)
              exact ⟨k + 1, B', θ2, ρ2, by go_num, by omega, hstepH.out _ _ _ h2, hSXH.out, hgWH.out⟩
            case measure => simp [intOf]; omega
        · have hkm' : k = m := by omega
          subst hkm'
          have hf2 := Lib.hid (hfinH.out k B1 θ1 ρ1 hyxH.out hK (by rw [hmH.out]; exact Nat.le_refl _) (by rw [halH.out hyxH.out, hmH.out]; exact Nat.le_refl _))
          have hgF := Lib.hid (gby_trans (gby_below hB5H.out) hg)
          have hSrH := Lib.hid hSr
          clear hK hg hSr
          go_wp2_with fail
          go_ret
          exact ⟨true, B1, rfl, hgF.out, hSrH.out, fun e => (by cases e), fun _ => ⟨_, _, hf2.out⟩⟩
    · have hne : (x != y) = true := by simpa using hxy
      have hcl := Lib.hid (hclashH.out hy0' hxy)
      clear hxy hclashH P3H Q3H halH hfinH hfailH hstH hrecH tp3H tq3H
      go_wp2_with fail
      go_quiet (fail)
      all_goals go_wp2_with fail
      all_goals go_ret
      exact ⟨false, B, rfl, gby_below (bcall hB3H.out ((Drew.mk _ _).below _)), hS3H.out.below ((Drew.mk _ _).below _), fun _ => hcl.out, fun e => (by cases e)⟩
theorem rank_hd (ρ : Int → Nat) (t : List Int) : ∀ n r, t = n :: r → n < 0 → ρ n < ρ (t.headD 0) + 1 := fun n r e _ => by rw [e]; simp
/-- Solve makes two terms one by a most general unifier -/
theorem rsolve_any {xb : Nat} {a1 : Option Addr} {c1 : Nat} {s : Sg} (hok : okSign s = true) : ∀ (N M : Nat) (B : Bd) (θ : Int → List Int) (ρ : Int → Nat) (a b : List Int), Slv s B θ ρ → RgB B → W1 s a → W1 s b → Rg a → Rg b → a.length ≤ 60 → b.length ≤ 60 → (∀ n u, B n = some u → u.length ≤ 60) → free B ≤ N → (ap θ a).length ≤ M →
    SolveAt xb a1 c1 s B θ ρ a b := by
  intro N
  induction N using Nat.strongRecOn with
  | ind N ihN =>
  intro M
  induction M using Nat.strongRecOn with
  | ind M ihM =>
  intro B θ ρ a b h hr ha hb ra rb la lb hlB hN hM
  obtain ⟨p, hp⟩ := Lkd.ex h _ a (rank_hd ρ a)
  obtain ⟨q, hq⟩ := Lkd.ex h _ b (rank_hd ρ b)
  by_cases h0 : p.headD 0 < 0
  · intro w a2 a3 c2 c3 hS ta tb
    exact solve_var h hr hS ta tb ha hb ra rb lb hp hq h0
  · have p1 := (hp.spec h ha).1
    have q1 := (hq.spec h hb).1
    have rp := hp.rg hr ra
    have rq := hq.rg hr rb
    have lp : p.length ≤ 60 := hp.len la hlB
    have lq : q.length ≤ 60 := hq.len lb hlB
    refine solve_step hok h hr ha hb ra rb la lb hlB hp hq (by omega) (fun k B1 θ1 ρ1 hx hy e hK => ?_)
    intro w a2 a3 c2 c3 hS ta tb
    obtain ⟨x1, x2⟩ := args_sub p1 rp _ (List.getElem_mem hx)
    obtain ⟨y1, y2⟩ := args_sub q1 rq _ (List.getElem_mem hy)
    have x3 := args_len p1 (List.getElem_mem hx)
    have y3 := args_len q1 (List.getElem_mem hy)
    rcases hK.down h ha hp (by omega) hx with hd | ⟨hd1, hd2⟩
    · exact ihN (free B1) (by omega) _ B1 θ1 ρ1 _ _ hK.slv hK.rg x1 y1 x2 y2 (by omega) (by omega) hS.len (Nat.le_refl _) (Nat.le_refl _) w a2 a3 c2 c3 hS ta tb
    · exact ihM _ (Nat.lt_of_lt_of_le hd2 hM) B1 θ1 ρ1 _ _ hK.slv hK.rg x1 y1 x2 y2 (by omega) (by omega) hS.len (by rw [hd1]; exact hN) (Nat.le_refl _) w a2 a3 c2 c3 hS ta tb
end Go.Proofs.YthkamffmpejckaaGreatDoor

/- Walks of the reference's solver: Apart. -/
namespace Go.Proofs.YthkamffmpejckaaGreatDoor
open Go Go.RowKit Go.Maps

set_option maxHeartbeats 1000000 in
theorem rApart_any {S : Nat → Prop} (a : Option Addr) (c : Nat) (t : List Int) (w : World) (h : Ints S w a c t) (hl : t.length ≤ lim) (hne : t ≠ []) (hr : ∀ x ∈ t, x < 0 → -12 ≤ x) :
    Calls Tryz.prog 75 #[.slice a t.length c] w (retOwn w (apartT t)) := by
  have m := h.le
  have hl6 : t.length ≤ 1000000 := hl
  obtain ⟨v', w', hrun, ho, hg, -, -⟩ := (OwnL.made intE (fun _ => False) w w.heap.size 3 (Nat.le_refl _)).append_run (P := Tryz.prog) (t := 34) (ty := 34) Tryz.underlying34 infoInt rfl (h.below (below1 w (.cells #[] 3))) (fun _ _ _ h => h) (by simp; omega) (by unfold big; simp; omega) (by simp)
  have hB : Below w.heap.size w w' := (below1 w (.cells #[] 3)).grown hg (by simp) (fun k e => by simp [Value.ownBlock] at e; omega)
  rw [List.nil_append] at ho
  obtain ⟨g, cap, rfl, hg1, hg2⟩ := OwnL.form ho hne
  have hrunH := Lib.hid hrun
  have hoH := Lib.hid ho
  have hBH := Lib.hid hB
  have hrH := Lib.hid hr
  clear hr hrun ho hB hg
  go_enter Tryz.func75, Tryz.ntmps75
  go_wp2_with (at_builtin; refine wpList_append_run rfl _ _ _ rfl rfl rfl hrunH.out ?_)
  go_loopw [4] (fun i wr => apRel t w w.heap.size g cap i wr) (fun i _ => t.length - (intOf i).toNat)
  case atStart => exact ⟨0, rfl, Nat.zero_le _, by rw [doneTo_zero]; exact hoH.out, hBH.out⟩
  case round =>
    obtain ⟨k, rfl, hk, ho, hB⟩ := hrel
    by_cases hlt : k < t.length
    · obtain ⟨b, o, rfl, -, q, hrg⟩ := (h.below hB).int k hlt
      have hxr := hrH.out t[k] (List.getElem_mem hlt)
      have hset := doneTo_set hlt (f := apN)
      have hsame := doneTo_same hlt (f := apN)
      have hget := doneTo_get hlt (f := apN)
      obtain ⟨hc1, hf1⟩ := ho.cellInt (by rw [doneTo_length]) k (by rw [doneTo_length]; exact hlt)
      rw [hget] at hc1
      obtain ⟨x, hx⟩ : ∃ x, t[k] = x := ⟨_, rfl⟩
      rw [hx] at q hrg hset hsame hc1 hxr
      clear hget hx
      by_cases h0 : x < 0
      · have hx12 := hxr h0
        have hap : apN x = x - 12 := by unfold apN; exact if_pos h0
        rw [hap] at hset
        have hsub : IntKind.i64.wrap (x - 12) = x - 12 := IntWalk.i64_in _ (by omega)
        obtain ⟨ho2, hg3⟩ := ho.setInt (by rw [doneTo_length]) k (x - 12) (by unfold inRange; omega)
        rw [hset] at ho2
        have hoH := Lib.hid ho2
        have hBH := Lib.hid (hB.grown hg3 hB.size (fun j e => by cases e; omega))
        clear ho ho2 hset hsame hg3 hap hxr
        go_wp2_with fail
        go_roundw
        case rel => exact ⟨k + 1, by go_num, by omega, hoH.out, hBH.out⟩
        case measure => simp [intOf]; omega
      · have hs2 := hsame (by unfold apN; exact if_neg h0)
        have hoH := Lib.hid ho
        have hsH := Lib.hid hs2
        clear ho hset hsame hs2 hxr
        go_wp2_with fail
        go_roundw
        case rel => exact ⟨k + 1, by go_num, by omega, by rw [← hsH.out]; exact hoH.out, hB⟩
        case measure => simp [intOf]; omega
    · rw [doneTo_all _ _ _ (by omega)] at ho
      have hoH := Lib.hid ho
      clear ho
      go_wp2_with fail
      go_ret
      exact ⟨_, rfl, hoH.out, hB⟩
end Go.Proofs.YthkamffmpejckaaGreatDoor

/- Walks of the reference's solver: size, whole. -/
namespace Go.Proofs.YthkamffmpejckaaGreatDoor
open Go Go.RowKit Go.Maps

def capL (n : Nat) : Nat := if n ≤ 60 then n else 61
theorem capL_le (n : Nat) : capL n ≤ 61 := by unfold capL; split <;> omega
/-- what is known of sizes is right -/
def KnOk (θ : Int → List Int) (f : Nat → Nat) : Prop := ∀ i, i < 24 → f i ≠ 0 → f i = capL (θ (-(i : Int) - 1)).length
def sizRel (w : World) (kb : Nat) (θ : Int → List Int) (t : List Int) (n i : Value) (wr : World) : Prop :=
  ∃ (k m : Nat) (f : Nat → Nat), i = .int .i64 k ∧ k ≤ t.length ∧ n = .int .i64 m ∧ m ≤ 200 ∧ w.grownBy wr (some kb) ∧ MarkW wr kb 158 (fun j => .int .i64 (f j)) ∧ KnOk θ f ∧ capL m = capL (ap θ (t.take k)).length
def sizRet (w : World) (kb : Nat) (θ : Int → List Int) (t : List Int) (e : Ending) (w' : World) : Prop :=
  ∃ f : Nat → Nat, e = .returned (.int .i64 (capL (ap θ t).length : Nat)) ∧ w.grownBy w' (some kb) ∧ MarkW w' kb 158 (fun j => .int .i64 (f j)) ∧ KnOk θ f
theorem capL_add {a b c : Nat} (h : capL a = capL b) : capL (a + c) = capL (b + c) := by unfold capL at *; split at h <;> split at h <;> (split <;> split <;> omega)
theorem capL_add' {a c d : Nat} (h : c = capL d) : capL (a + c) = capL (a + d) := by unfold capL at *; split at h <;> (split <;> split <;> omega)
theorem capL_more {θ : Int → List Int} {t : List Int} {k m : Nat} (h : capL m = capL (ap θ (t.take k)).length) (hm : 60 < m) : capL (ap θ t).length = 61 := by
  have h2 : (ap θ (t.take k)).length ≤ (ap θ t).length := by
    conv => rhs; rw [← List.take_append_drop k t, ap_append, List.length_append]
    omega
  unfold capL at *
  rw [if_neg (by omega)] at h
  split at h
  · omega
  · rw [if_neg (by omega)]
set_option maxRecDepth 20000 in
set_option maxHeartbeats 4000000 in
theorem rsize_any {S : Nat → Prop} {xb kb : Nat} {a1 : Option Addr} {c1 : Nat} {s : Sg} {B : Bd} {θ : Int → List Int} {ρ : Int → Nat} (h : Slv s B θ ρ) (hr : RgB B) (hSd : ¬ S kb) (hxd : xb ≠ kb) :
    ∀ (K : Nat) (t : List Int) (a : Option Addr) (c : Nat) (f : Nat → Nat) (w : World), SolX S w xb a1 c1 s B → MarkW w kb 158 (fun j => .int .i64 (f j)) → Ints S w a c t → Rg t → (∀ n ∈ t, n < 0 → ρ n < K) → KnOk θ f → t.length ≤ 60 →
      Calls Tryz.prog 126 #[.pointer (some ⟨xb, 0, none⟩), .slice a t.length c, .pointer (some ⟨kb, 0, none⟩)] w (sizRet w kb θ t) := by
  intro K
  induction K using Nat.strongRecOn with
  | ind K ih =>
  intro t a c f w hS hM ht rt hK hf hl
  have m2 := ht.le
  have hH := Lib.hid h
  have hrH := Lib.hid hr
  have hSH := Lib.hid hS
  have hMH := Lib.hid hM
  have htH := Lib.hid ht
  have rtH := Lib.hid rt
  have hKH := Lib.hid hK
  have hfH := Lib.hid hf
  have ihH := Lib.hid ih
  clear h hr hS hM ht rt hK hf ih
  go_enter Tryz.func126, Tryz.ntmps126
  go_wp2_with fail
  go_loopw [7, 8] (fun n i wr => sizRel w kb θ t n i wr) (fun _ i _ => t.length - (intOf i).toNat)
  case atStart => exact ⟨0, 0, f, rfl, Nat.zero_le _, rfl, by omega, gby_refl _ _, hMH.out, hfH.out, by simp [ap_nil]⟩
  case round =>
    obtain ⟨k, m, f1, rfl, hk, rfl, hm, hg, hM, hf, hc⟩ := hrel
    have hgH := Lib.hid hg
    have hMH' := Lib.hid hM
    have hfH' := Lib.hid hf
    have hcH := Lib.hid hc
    by_cases hlt : k < t.length
    · by_cases hm60 : m ≤ 60
      · have ht' := htH.out.same (.of_grown hg (fun b hb e => hSd (by cases e; exact hb)))
        obtain ⟨b, o, rfl, hbS, q, hrg⟩ := ht'.int k hlt
        have hS' := hSH.out.grown hg hSd hxd
        have hmem := List.getElem_mem hlt
        have hts := ap_take_succ (θ := θ) hlt
        obtain ⟨x, hx⟩ : ∃ x, t[k] = x := ⟨_, rfl⟩
        rw [hx] at q hrg hmem hts
        have hone : ∀ c, (ap θ [x]).length = c → capL (m + c) = capL (ap θ (t.take (k + 1))).length := fun c e => by
          rw [hts, List.length_append, e]; exact capL_add hc
        have honeH := Lib.hid hone
        have hd1 : decide ((k : Int) < t.length) = true := by simp; omega
        have hd2 : ((m : Int) ≤ 60) := by omega
        by_cases h0 : 0 ≤ x
        · have hstep := Lib.hid (hone 1 (by rw [ap_pos (by omega), ap_nil]; rfl))
          have hdv : decide (0 ≤ x) = true := by simpa using h0
          clear hg hM hf hc hts ht' hS' hmem hx hone
          go_wp2_with fail
          go_quiet (fail)
          all_goals go_wp2_with fail
          go_roundw
          case rel => exact ⟨k + 1, m + 1, f1, by go_num, by omega, by go_num, by omega, gby_trans hgH.out (gby_below ((Drew.mk _ _).below _)), hMH'.out.below ((Drew.mk _ _).below _), hfH'.out, hstep.out⟩
          case measure => simp [intOf]; omega
        · have hx0 : x < 0 := by omega
          have hx24 := rtH.out x hmem hx0
          have hxK := hKH.out x hmem hx0
          obtain ⟨n, hn⟩ : ∃ n : Nat, x = -(n : Int) - 1 := ⟨(-x - 1).toNat, by omega⟩
          have hn24 : n < 24 := by omega
          obtain ⟨vl, qs, hsl⟩ := hS'.slot hx0 hx24
          have hnx : (-x - 1).toNat = n := by omega
          rw [hnx] at qs
          have qd := hM.cell hn24
          have fd := hM.frozen n
          have hxn : -x - 1 = (n : Int) := by omega
          have hw1 : IntKind.i64.wrap (-x) = -x := IntWalk.i64_in _ (by omega)
          have hw2 : IntKind.i64.wrap (n : Int) = (n : Int) := IntWalk.i64_in _ (by omega)
          have hdv : decide (0 ≤ x) = false := by simpa using h0
          have hap1 : ap θ [x] = θ x := ap_one hx0
          have hnH := Lib.hid hn
          clear hnx
          cases hBx : B x with
          | none =>
            rw [hBx] at hsl
            rw [show vl = .slice none 0 0 from hsl] at qs
            have hstep := Lib.hid (hone 1 (by rw [hap1, hH.out.free x hx0 hBx]; rfl))
            have hnl := fun W => Lib.run_eql_slice_nil (P := Tryz.prog) W 34 3 none 0 0 0 0 Tryz.underlying34
            clear hg hM hf hc hts ht' hS' hmem hx hone hsl hBx hap1 hn
            go_wp2_with fail
            go_quiet (fail)
            all_goals go_wp2_with fail
            go_roundw
            case rel => exact ⟨k + 1, m + 1, f1, by go_num, by omega, by go_num, by omega, gby_trans hgH.out (gby_below ((Drew.mk _ _).below _)), hMH'.out.below ((Drew.mk _ _).below _), hfH'.out, hstep.out⟩
            case measure => simp [intOf]; omega
          | some u =>
            rw [hBx] at hsl
            obtain ⟨a3, c3, rfl, hu⟩ := hsl
            have hbnd := hH.out.bnd x u hBx
            have hwu := (hH.out.wf x u hBx).1
            have hul := hwu.len
            obtain ⟨b3, o3, rfl, -, -, -⟩ := hu.int 0 (by omega)
            have hnl := fun W => Lib.run_eql_slice_nil (P := Tryz.prog) W 34 3 (some ⟨b3, o3, none⟩) u.length c3 0 0 Tryz.underlying34
            have hcap : capL (θ x).length ≤ 61 := capL_le _
            obtain ⟨z, hz⟩ : ∃ z, capL (θ x).length = z := ⟨_, rfl⟩
            rw [hz] at hcap
            have hz0 : z ≠ 0 := by
              have := (hH.out.th x hx0).len
              rw [← hz]; unfold capL; split <;> omega
            have hstep := Lib.hid (show capL (m + z) = capL (ap θ (t.take (k + 1))).length by rw [← hone _ (by rw [hap1])]; exact capL_add' hz.symm)
            have hzH := Lib.hid hz
            by_cases hf0 : f1 n = 0
            · rw [hf0] at qd
              have hcall := fun W (hb : Below wr.heap.size wr W) => ihH.out (ρ x) hxK u _ c3 f1 W (hS'.below hb) (hM.below hb) (hu.below hb) (hrH.out x u hBx).1 (fun m hm hm0 => hH.out.rk x u hBx m hm hm0) hf (hS'.len x u hBx)
              have hcallH := Lib.hid hcall
              have hbndH := Lib.hid hbnd
              clear hcall hg hM hf hc hts ht' hS' hmem hx hone hBx hap1 hn hu hbnd hwu hul hz hf0
              go_wp2_with fail
              go_quiet (fail)
              all_goals go_wp2_with fail
              obtain ⟨W3, hW3⟩ : ∃ W3, wr.drewN nq = W3 := ⟨_, rfl⟩
              have hb3 : Below wr.heap.size wr W3 := by rw [← hW3]; exact (Drew.mk _ _).below _
              have hb3d : Below wr.heap.size wr W3.drew := Below.drew hb3
              rw [hW3]
              have qs3 := cell_later hb3 qs
              have cc := Lib.hid (hcallH.out W3.drew hb3d)
              have hb3H := Lib.hid hb3d
              clear hb3 hb3d hW3 hcallH qs qd fd
              go_region_with (go_at_call 126; (with_reducible refine cc.out.mono ?_); rintro e w2 ⟨f2, rfl, hg2, hM2, hf2⟩; have q2 := hM2.cell hn24; have fz2 := hM2.frozen n)
              have hzu : capL (ap θ u).length = z := by rw [← hbndH.out]; exact hzH.out
              rw [hzu]
              obtain ⟨W4, hW4⟩ : ∃ W4, w2.setCell ⟨kb, n, none⟩ (.int .i64 ((z : Nat) : Int)) = W4 := ⟨_, rfl⟩
              have hM4 : MarkW W4 kb 158 (fun j => .int .i64 ((if j = n then z else f2 j : Nat) : Int)) := by
                rw [← hW4]
                refine (hM2.set (i := n) (.int .i64 ((z : Nat) : Int))).congr (fun i _ => ?_)
                by_cases e : i = n
                · simp [e]
                · simp [e]
              have hK4 : KnOk θ (fun j => if j = n then z else f2 j) := fun i hi h1 => by
                by_cases e : i = n
                · subst e; simp only [if_pos]; rw [← hzH.out, hnH.out]
                · simp only [if_neg e] at h1 ⊢; exact hf2 i hi h1
              have hg4 := gby_trans hgH.out (gby_trans (gby_below hb3H.out) (gby_trans hg2 (gby_set w2 kb n (.int .i64 ((z : Nat) : Int)))))
              rw [hW4] at hg4 ⊢
              have qd4 := hM4.cell hn24
              simp only [if_pos] at qd4
              have hM4H := Lib.hid hM4
              have hK4H := Lib.hid hK4
              have hg4H := Lib.hid hg4
              clear hM4 hK4 hg4 hW4 hzu hg2 hM2 hf2 q2 fz2 qs3 cc hb3H
              go_wp2_with fail
              go_roundw
              case rel => exact ⟨k + 1, m + z, _, by go_num, by omega, by go_num, by omega, hg4H.out, hM4H.out, hK4H.out, hstep.out⟩
              case measure => simp [intOf]; omega
            · have hfn : f1 n = z := by rw [hf n hn24 hf0, ← hn]; exact hz
              rw [hfn] at qd
              have hzn : ((z : Nat) : Int) ≠ 0 := by omega
              have hze : ((z : Int) == 0) = false := by simpa using hz0
              clear hg hM hf hc hts ht' hS' hmem hx hone hBx hap1 hn hu hbnd hwu hul hz hf0 hfn
              go_wp2_with fail
              go_quiet (fail)
              all_goals go_wp2_with fail
              go_roundw
              case rel => exact ⟨k + 1, m + z, f1, by go_num, by omega, by go_num, by omega, gby_trans hgH.out (gby_below ((Drew.mk _ _).below _)), hMH'.out.below ((Drew.mk _ _).below _), hfH'.out, hstep.out⟩
              case measure => simp [intOf]; omega
      · have hfin := Lib.hid (capL_more hc (by omega))
        have hm61 : (60 : Int) < m := by omega
        clear hg hM hf hc
        go_wp2_with fail
        go_ret
        exact ⟨f1, by rw [hfin.out]; rfl, hgH.out, hMH'.out, hfH'.out⟩
    · rw [List.take_of_length_le (by omega)] at hc
      by_cases hm60 : m ≤ 60
      · have hfin : capL (ap θ t).length = m := by rw [← hc]; unfold capL; rw [if_pos hm60]
        have hfinH := Lib.hid hfin
        clear hg hM hf hc hfin
        go_wp2_with fail
        go_ret
        exact ⟨f1, by rw [hfinH.out]; rfl, hgH.out, hMH'.out, hfH'.out⟩
      · have hfin : capL (ap θ t).length = 61 := by rw [← hc]; unfold capL; rw [if_neg hm60]
        have hfinH := Lib.hid hfin
        have hm61 : (60 : Int) < m := by omega
        clear hg hM hf hc hfin
        go_wp2_with fail
        go_ret
        exact ⟨f1, by rw [hfinH.out]; rfl, hgH.out, hMH'.out, hfH'.out⟩
end Go.Proofs.YthkamffmpejckaaGreatDoor

/- Walks of the reference's solver: whole. -/
namespace Go.Proofs.YthkamffmpejckaaGreatDoor
open Go Go.RowKit Go.Maps

def whoRel (w : World) (θ : Int → List Int) (t : List Int) (out i : Value) (wr : World) : Prop :=
  ∃ k : Nat, i = .int .i64 k ∧ k ≤ t.length ∧ OwnI wr w.heap.size out (ap θ (t.take k)) ∧ Below w.heap.size w wr
theorem keepW {w w' : World} {p1 p2 : Addr} {v1 v2 : Value} (h1 : w.cell? p1 = some v1) (h2 : w.cell? p2 = some v2) (hb : Below w.heap.size w w') : w'.cell? p1 = some v1 ∧ w'.cell? p2 = some v2 := ⟨cell_later hb h1, cell_later hb h2⟩
theorem ap_take_len {θ : Int → List Int} {t : List Int} (k : Nat) : (ap θ (t.take k)).length ≤ (ap θ t).length := by
  conv => rhs; rw [← List.take_append_drop k t, ap_append, List.length_append]
  omega
theorem OwnI.pushT {w wr W : World} {out : Value} {l l' : List Int} (ho : OwnI wr w.heap.size out l) (hB : Below w.heap.size w wr) (hb : Below wr.heap.size wr W) {x : Int} (hx : inRange x) (hl' : l' = l ++ [x]) (hl : l.length ≤ 1000) :
    ∃ v' w', RowKit.Hid ((Builtin.append_ #[34, 34] 34 #[out, .slice (some ⟨W.heap.size, 0, none⟩) 1 1]).run Tryz.prog (W.alloc (.cells #[.int .i64 x] 3)) = .ok v' w') ∧ RowKit.Hid (OwnI w' w.heap.size v' l') ∧ RowKit.Hid (Below w.heap.size w w') := by
  have hB2 := bcall hB hb
  have ho1 := OwnL.call ho hb
  obtain ⟨v', w', hrun, ho', hg, -⟩ := ho1.push (P := Tryz.prog) (t := 34) (ty := 34) Tryz.underlying34 infoInt rfl (vs := [.int .i64 x]) (x := x) ⟨rfl, hx⟩ (by omega) (by unfold big; omega) hB2.size
  exact ⟨v', w', Lib.hid hrun, Lib.hid (by rw [hl']; exact ho'), Lib.hid (hB2.grown hg hB2.size (fun k e => (ho1.lt k e).1))⟩
theorem OwnI.appT {T : Nat → Prop} {w wr W : World} {out : Value} {l l2 l' : List Int} (ho : OwnI wr w.heap.size out l) (hB : Below w.heap.size w wr) (hb : Below wr.heap.size wr W) {a : Option Addr} {c : Nat} (hx : Ints T W a c l2) (hl' : l' = l ++ l2) (hl : l.length ≤ 1000) (hl2 : l2.length ≤ 1000) :
    ∃ v' w', RowKit.Hid ((Builtin.append_ #[34, 34] 34 #[out, .slice a l2.length c]).run Tryz.prog W = .ok v' w') ∧ RowKit.Hid (OwnI w' w.heap.size v' l') ∧ RowKit.Hid (Below w.heap.size w w') := by
  have hB2 := bcall hB hb
  have ho1 := OwnL.call ho hb
  obtain ⟨v', w', hrun, ho', hg, -⟩ := ho1.append_run (P := Tryz.prog) (t := 34) (ty := 34) Tryz.underlying34 infoInt rfl hx (fun _ _ _ h => h) (by omega) (by unfold big; omega) hB2.size
  exact ⟨v', w', Lib.hid hrun, Lib.hid (by rw [hl']; exact ho'), Lib.hid (hB2.grown hg hB2.size (fun k e => (ho1.lt k e).1))⟩
set_option maxRecDepth 20000 in
set_option maxHeartbeats 4000000 in
theorem rwhole_any {S : Nat → Prop} {xb : Nat} {a1 : Option Addr} {c1 : Nat} {s : Sg} {B : Bd} {θ : Int → List Int} {ρ : Int → Nat} (h : Slv s B θ ρ) (hr : RgB B) :
    ∀ (K : Nat) (t : List Int) (a : Option Addr) (c : Nat) (w : World), SolX S w xb a1 c1 s B → Ints S w a c t → Rg t → (∀ n ∈ t, n < 0 → ρ n < K) → (ap θ t).length ≤ 60 → t.length ≤ 60 →
      Calls Tryz.prog 127 #[.pointer (some ⟨xb, 0, none⟩), .slice a t.length c] w (retOwn w (ap θ t)) := by
  intro K
  induction K using Nat.strongRecOn with
  | ind K ih =>
  intro t a c w hS ht rt hK h60 hl
  have m2 := ht.le
  have hH := Lib.hid h
  have hrH := Lib.hid hr
  have hSH := Lib.hid hS
  have htH := Lib.hid ht
  have rtH := Lib.hid rt
  have hKH := Lib.hid hK
  have h60H := Lib.hid h60
  have ihH := Lib.hid ih
  clear h hr hS ht rt hK h60 ih
  go_enter Tryz.func127, Tryz.ntmps127
  go_wp2_with fail
  go_loopw [5, 6] (fun out i wr => whoRel w θ t out i wr) (fun _ i _ => t.length - (intOf i).toNat)
  case atStart => exact ⟨0, rfl, Nat.zero_le _, .nil _ _ _ _ _, .refl _ _⟩
  case round =>
    obtain ⟨k, rfl, hk, ho, hB⟩ := hrel
    by_cases hlt : k < t.length
    · have ht' := htH.out.below hB
      obtain ⟨b, o, rfl, hbS, q0, hrg⟩ := htH.out.int k hlt
      have hS' := hSH.out.below hB
      have hmem := List.getElem_mem hlt
      have hts := ap_take_succ (θ := θ) hlt
      have hl1 := Nat.le_trans (ap_take_len (θ := θ) (t := t) k) h60H.out
      have hl2 := Nat.le_trans (ap_take_len (θ := θ) (t := t) (k + 1)) h60H.out
      obtain ⟨x, hx⟩ : ∃ x, t[k] = x := ⟨_, rfl⟩
      rw [hx] at q0 hrg hmem hts
      have q := cell_later hB q0
      by_cases h0 : 0 ≤ x
      · rw [ap_pos (by omega), ap_nil] at hts
        have hdv : decide (x < 0) = false := by simpa using h0
        have htsH := Lib.hid hts
        have hoH := Lib.hid ho
        clear hts ho hS' hmem ht' hx hl2
        go_wp2_with fail
        go_quiet (fail)
        go_upto_region 7 with fail
        obtain ⟨W3, hW3⟩ : ∃ W3, wr.drewN nq = W3 := ⟨_, rfl⟩
        have hb3 : Below wr.heap.size wr W3 := by rw [← hW3]; exact (Drew.mk _ _).below _
        rw [hW3]
        have q3 := cell_later hb3 q
        obtain ⟨v', w', hrun, ho', hB'⟩ := OwnI.pushT hoH.out hB hb3 hrg htsH.out (by omega)
        clear hW3 q
        go_wp2_with (at_builtin; refine wpList_append_run rfl _ _ _ rfl rfl rfl hrun.out ?_)
        go_roundw
        case rel => exact ⟨k + 1, by go_num, by omega, ho'.out, hB'.out⟩
        case measure => simp [intOf]; omega
      · have hx0 : x < 0 := by omega
        have hx24 := rtH.out x hmem hx0
        have hxK := hKH.out x hmem hx0
        obtain ⟨n, hn⟩ : ∃ n : Nat, x = -(n : Int) - 1 := ⟨(-x - 1).toNat, by omega⟩
        have hn24 : n < 24 := by omega
        obtain ⟨vl, qs0, hsl⟩ := hSH.out.slot hx0 hx24
        have hnx : (-x - 1).toNat = n := by omega
        rw [hnx] at qs0
        have hxn : -x - 1 = (n : Int) := by omega
        have hw1 : IntKind.i64.wrap (-x) = -x := IntWalk.i64_in _ (by omega)
        have hw2 : IntKind.i64.wrap (n : Int) = (n : Int) := IntWalk.i64_in _ (by omega)
        have hdv : decide (x < 0) = true := by simpa using hx0
        have hap1 : ap θ [x] = θ x := ap_one hx0
        rw [hap1] at hts
        clear hnx hn
        cases hBx : B x with
        | none =>
          rw [hBx] at hsl
          rw [show vl = .slice none 0 0 from hsl] at qs0
          have qs := cell_later hB qs0
          rw [hH.out.free x hx0 hBx] at hts
          have hnl := fun W => Lib.run_eql_slice_nil (P := Tryz.prog) W 34 3 none 0 0 0 0 Tryz.underlying34
          have htsH := Lib.hid hts
          have hoH := Lib.hid ho
          clear hts ho hS' hmem ht' hx hl2 hsl hBx hap1
          go_wp2_with fail
          go_quiet (fail)
          go_upto_region 7 with fail
          obtain ⟨W3, hW3⟩ : ∃ W3, wr.drewN nq = W3 := ⟨_, rfl⟩
          have hb3 : Below wr.heap.size wr W3 := by rw [← hW3]; exact (Drew.mk _ _).below _
          rw [hW3]
          have q3 := cell_later hb3 q
          obtain ⟨v', w', hrun, ho', hB'⟩ := OwnI.pushT hoH.out hB hb3 hrg htsH.out (by omega)
          clear hW3 q
          go_wp2_with (at_builtin; refine wpList_append_run rfl _ _ _ rfl rfl rfl hrun.out ?_)
          go_roundw
          case rel => exact ⟨k + 1, by go_num, by omega, ho'.out, hB'.out⟩
          case measure => simp [intOf]; omega
        | some u =>
          rw [hBx] at hsl
          obtain ⟨a3, c3, rfl, hu0⟩ := hsl
          have hu := hu0.below hB
          have qs := cell_later hB qs0
          have hbnd := hH.out.bnd x u hBx
          have hwu := (hH.out.wf x u hBx).1
          have hul := hwu.len
          have hu60 := hS'.len x u hBx
          obtain ⟨b3, o3, rfl, -, -, -⟩ := hu.int 0 (by omega)
          have hnl := fun W => Lib.run_eql_slice_nil (P := Tryz.prog) W 34 3 (some ⟨b3, o3, none⟩) u.length c3 0 0 Tryz.underlying34
          rw [hbnd] at hts
          have hl3 : (ap θ u).length ≤ 60 := by rw [hts, List.length_append] at hl2; omega
          have hcall := fun W (hb : Below wr.heap.size wr W) => ihH.out (ρ x) hxK u _ c3 W (hS'.below hb) (hu.below hb) (hrH.out x u hBx).1 (fun m hm hm0 => hH.out.rk x u hBx m hm hm0) hl3 hu60
          have happ := fun W (hb : Below wr.heap.size wr W) (T : Nat → Prop) a4 c4 (hi : Ints T W a4 c4 (ap θ u)) => OwnI.appT ho hB hb hi hts (by omega) (by omega)
          have hcallH := Lib.hid hcall
          have happH := Lib.hid happ
          clear hts ho hS' hmem ht' hx hl2 hBx hap1 hu0 hu hbnd hwu hul hcall happ hu60
          go_wp2_with fail
          go_quiet (fail)
          go_upto_region 6 with fail
          obtain ⟨W3, hW3⟩ : ∃ W3, wr.drewN nq = W3 := ⟨_, rfl⟩
          have hb3 : Below wr.heap.size wr W3 := by rw [← hW3]; exact (Drew.mk _ _).below _
          have hb3d : Below wr.heap.size wr W3.drew := Below.drew hb3
          rw [hW3]
          have q3 := cell_later hb3 q
          have qs3 := cell_later hb3 qs
          have hn24i : ((n : Nat) : Int) < 24 := by omega
          clear hW3 q qs
          have hbd : Below w.heap.size w W3.drew := bcall hB hb3d
          have hk0 := keepW q0 qs0 hbd
          go_region_held3 (fun w' => w'.cell? ⟨b, o + k, none⟩ = some (.int .i64 x) ∧ w'.cell? ⟨xb, 1 + n, none⟩ = some (.slice (some ⟨b3, o3, none⟩) u.length c3))
            ((first | exact hk0 | exact keepW q0 qs0 (bcall hbd hb2) | exact keepW q0 qs0 hB'.out))
            ((first
              | (go_at_call 127; (with_reducible refine (hcallH.out _ hb3d).mono ?_); rintro e w2 ⟨v2, rfl, ho2, hb2⟩; obtain ⟨a4, c4, rfl, hI2⟩ := OwnI.ints ho2; obtain ⟨v', w', hrun, ho', hB'⟩ := happH.out w2 (bcall hb3d hb2) _ a4 c4 hI2)
              | (refine oper_append_run (.tmp 32) (.tmp 45) _ rfl rfl rfl hrun.out ?_)))
          all_goals go_wp2_with fail
          all_goals go_roundw
          case rel => exact ⟨k + 1, by go_num, by omega, ho'.out, hB'.out⟩
          case measure => simp [intOf]; omega
    · rw [List.take_of_length_le (by omega)] at ho
      have hoH := Lib.hid ho
      clear ho
      go_wp2_with fail
      go_ret
      exact ⟨_, rfl, hoH.out, hB⟩
end Go.Proofs.YthkamffmpejckaaGreatDoor

/- Walks of the reference's solver: Whole, Few. -/
namespace Go.Proofs.YthkamffmpejckaaGreatDoor
open Go Go.RowKit Go.Maps

theorem skw_lt {s : Sg} : ∀ (t : List Int) (k : Nat), skw s k t = some [] → ∀ x ∈ t, x < s.length
  | [], _, _, x, hx => by simp at hx
  | n :: r, 0, h, _, _ => by rw [skw_zero] at h; simp at h
  | n :: r, k + 1, h, x, hx => by
    rw [skw_cons] at h
    split at h
    · rename_i hc
      rcases List.mem_cons.1 hx with e | e
      · subst e; simpa [cw] using hc
      · exact skw_lt r _ h x e
    · cases h
theorem ap_rgT {s : Sg} {B : Bd} {θ : Int → List Int} {ρ : Int → Nat} (h : Slv s B θ ρ) (hr : RgB B) : ∀ (K : Nat) (t : List Int), Rg t → (∀ n ∈ t, n < 0 → ρ n < K) → Rg (ap θ t) := by
  intro K
  induction K using Nat.strongRecOn with
  | ind K ih =>
  intro t rt hK m hm hm0
  rcases mem_ap.1 hm with ⟨h1, -⟩ | ⟨n, hn, hn0, hmn⟩
  · exact rt m h1 hm0
  · cases hB : B n with
    | none =>
      rw [h.free n hn0 hB, List.mem_singleton] at hmn
      subst hmn
      exact rt m hn hm0
    | some u =>
      rw [h.bnd n u hB] at hmn
      exact ih (ρ n) (hK n hn hn0) u (hr n u hB).1 (h.rk n u hB) m hmn hm0
theorem ap_tame {s : Sg} {B : Bd} {θ : Int → List Int} {ρ : Int → Nat} (hok : okSign s = true) (h : Slv s B θ ρ) (hr : RgB B) {t : List Int} (ht : W1 s t) (rt : Rg t) : tame (ap θ t) := by
  obtain ⟨K, hK⟩ := rank_bd ρ t
  have hrg := ap_rgT h hr K t rt hK
  intro x hx
  have h1 := skw_lt _ _ (ht.ap h.th) x hx
  have h2 := (okSign_len hok).2
  by_cases h0 : x < 0
  · have := hrg x hx h0; omega
  · omega
theorem known_new (W : World) : MarkW (W.alloc (.cells #[.int .i64 0, .int .i64 0, .int .i64 0, .int .i64 0, .int .i64 0, .int .i64 0, .int .i64 0, .int .i64 0, .int .i64 0, .int .i64 0, .int .i64 0, .int .i64 0, .int .i64 0, .int .i64 0, .int .i64 0, .int .i64 0, .int .i64 0, .int .i64 0, .int .i64 0, .int .i64 0, .int .i64 0, .int .i64 0, .int .i64 0, .int .i64 0] 158)) W.heap.size 158 (fun j => .int .i64 ((fun _ => 0 : Nat → Nat) j)) := by
  unfold MarkW
  rw [heap_alloc_new]
  rfl
def whRet (w : World) (θ : Int → List Int) (t : List Int) (e : Ending) (w' : World) : Prop :=
  ∃ v, e = .returned (.tuple #[v, .bool (decide ((ap θ t).length ≤ 60))]) ∧ OwnI w' w.heap.size v (if (ap θ t).length ≤ 60 then ap θ t else []) ∧ Below w.heap.size w w'
set_option maxRecDepth 20000 in
set_option maxHeartbeats 4000000 in
theorem rWhole_any {S : Nat → Prop} {xb : Nat} {a1 : Option Addr} {c1 : Nat} {s : Sg} {B : Bd} {θ : Int → List Int} {ρ : Int → Nat} (h : Slv s B θ ρ) (hr : RgB B) (t : List Int) (a : Option Addr) (c : Nat) (w : World) (hS : SolX S w xb a1 c1 s B) (ht : Ints S w a c t) (rt : Rg t) (hl : t.length ≤ 60) :
    Calls Tryz.prog 105 #[.pointer (some ⟨xb, 0, none⟩), .slice a t.length c] w (whRet w θ t) := by
  have m2 := ht.le
  obtain ⟨K, hK⟩ := rank_bd ρ t
  obtain ⟨W, hW⟩ : ∃ W, w.alloc (.cells #[.int .i64 0, .int .i64 0, .int .i64 0, .int .i64 0, .int .i64 0, .int .i64 0, .int .i64 0, .int .i64 0, .int .i64 0, .int .i64 0, .int .i64 0, .int .i64 0, .int .i64 0, .int .i64 0, .int .i64 0, .int .i64 0, .int .i64 0, .int .i64 0, .int .i64 0, .int .i64 0, .int .i64 0, .int .i64 0, .int .i64 0, .int .i64 0] 158) = W := ⟨_, rfl⟩
  have hM : MarkW W w.heap.size 158 (fun j => .int .i64 ((fun _ => 0 : Nat → Nat) j)) := by rw [← hW]; exact known_new w
  have hbW : Below w.heap.size w W := by rw [← hW]; exact below1 _ _
  have hx := hS.lt
  have cs := rsize_any (S := fun b => S b ∧ b < w.heap.size) h hr (fun e => by have := e.2; omega) (show xb ≠ w.heap.size by omega) K t a c (fun _ => 0) W (hS.lts.below hbW) hM (ht.lt.below hbW) rt hK (fun _ _ h => absurd rfl h) hl
  have cw := fun W (hb : Below w.heap.size w W) h60 => rwhole_any h hr K t a c W (hS.below hb) (ht.below hb) rt hK h60 hl
  have csH := Lib.hid cs
  have cwH := Lib.hid cw
  have hWH := Lib.hid hW
  have hbWH := Lib.hid hbW
  have hle : w.heap.size ≤ W.heap.size := hbW.size
  clear cs cw hW hbW hM hS ht hK rt h hr
  go_enter Tryz.func105, Tryz.ntmps105
  go_wp2_with fail
  rw [hWH.out]
  (with_reducible refine csH.out.mono ?_)
  rintro e w2 ⟨f, rfl, hg, -, -⟩
  have hb2 := below_of_gby hbWH.out hg hle (Nat.le_refl _)
  have cw2 := cwH.out w2 hb2
  by_cases h60 : (ap θ t).length ≤ 60
  · have cw3 := Lib.hid (cw2 h60)
    have hc : capL (ap θ t).length = (ap θ t).length := if_pos h60
    rw [hc]
    have hn60 : ((ap θ t).length : Int) ≤ 60 := by omega
    have hbH := Lib.hid hb2
    clear hg hb2 cw2 hc
    go_wp2_with fail
    (with_reducible refine cw3.out.mono ?_)
    rintro e w3 ⟨v, rfl, ho, hb3⟩
    have hoH := Lib.hid (OwnL.baseMono (base' := w.heap.size) ho hbH.out.size)
    clear ho
    go_wp2_with fail
    go_ret2
    exact ⟨v, by rw [decide_eq_true h60]; rfl, by rw [if_pos h60]; exact hoH.out, bcall hbH.out hb3⟩
  · have hc : capL (ap θ t).length = 61 := if_neg h60
    rw [hc]
    have hbH := Lib.hid hb2
    clear hg hb2 cw2 hc
    go_wp2_with fail
    go_ret2
    exact ⟨.slice none 0 0, by rw [decide_eq_false h60]; rfl, by rw [if_neg h60]; exact .nil _ _ _ _ _, hbH.out⟩
set_option maxHeartbeats 2000000 in
theorem rFew_any {S : Nat → Prop} {xb : Nat} {a1 : Option Addr} {c1 : Nat} {s : Sg} {B : Bd} {θ : Int → List Int} {ρ : Int → Nat} (hok : okSign s = true) (h : Slv s B θ ρ) (hr : RgB B) (t : List Int) (a : Option Addr) (c : Nat) (w : World) (hS : SolX S w xb a1 c1 s B) (ht : Ints S w a c t) (wt : W1 s t) (rt : Rg t) (hl : t.length ≤ 60) :
    Calls Tryz.prog 76 #[.pointer (some ⟨xb, 0, none⟩), .slice a t.length c] w (retE (madeE θ t) w) := by
  have m2 := ht.le
  have cw := rWhole_any h hr t a c w hS ht rt hl
  have htm := ap_tame hok h hr wt rt
  have hne := (wt.ap h.th).ne
  obtain ⟨o, hod⟩ : ∃ o, ap θ t = o := ⟨_, rfl⟩
  have hmd : madeE θ t = if o.length ≤ 60 ∧ (varsC o).length ≤ 12 then (canon o, 0) else ([], 4) := by unfold madeE; rw [hod]
  unfold whRet at cw
  rw [hod] at cw htm hne
  have hmdH := Lib.hid hmd
  have cwH := Lib.hid cw
  have htmH := Lib.hid htm
  have hneH := Lib.hid hne
  clear cw hS ht wt rt h hr hod hmd htm hne
  go_enter Tryz.func76, Tryz.ntmps76
  go_wp2_with fail
  (with_reducible refine cwH.out.mono ?_)
  rintro e w1 ⟨v, rfl, ho, hb1⟩
  clear cwH
  by_cases h60 : o.length ≤ 60
  · rw [if_pos h60] at ho
    rw [decide_eq_true h60]
    obtain ⟨a4, c4, rfl, hI⟩ := OwnI.ints ho
    have mI := hI.le
    have cv := Variables_any a4 c4 o w1 hI (by unfold lim; omega) htmH.out
    have cr := fun W (hb : Below w1.heap.size w1 W) => Renamed_any a4 c4 o W (hI.below hb) (by unfold lim; omega) htmH.out hneH.out
    have cvH := Lib.hid cv
    have crH := Lib.hid cr
    have hvl : (varsV o).length = (varsC o).length := by simp [varsV]
    clear cv cr ho hI
    go_wp2_with fail
    (with_reducible refine cvH.out.mono ?_)
    rintro e w2 ⟨v2, rfl, ho2, hb2⟩
    obtain ⟨a5, c5, rfl, hI5⟩ := OwnI.ints ho2
    have mI5 := hI5.le
    have cr2 := Lib.hid (crH.out w2 hb2)
    have hB2 := bcall hb1 hb2
    rw [hvl] at mI5 ⊢
    clear ho2 hI5 crH cvH hb1 hb2
    by_cases h12 : (varsC o).length ≤ 12
    · have hm1 := Lib.hid (hmdH.out.trans (if_pos ⟨h60, h12⟩))
      have hn12 : ((varsC o).length : Int) ≤ 12 := by omega
      go_wp2_with fail
      (with_reducible refine cr2.out.mono ?_)
      rintro e w3 ⟨v3, rfl, ho3, hb3⟩
      have hoH := Lib.hid (OwnL.baseMono (base' := w.heap.size) ho3 hB2.size)
      clear ho3
      go_wp2_with fail
      go_ret2
      rw [hm1.out]
      exact ⟨_, rfl, hoH.out, bcall hB2 hb3⟩
    · have hm1 := Lib.hid (hmdH.out.trans (if_neg (fun h => h12 h.2)))
      have hn12 : (12 : Int) < ((varsC o).length : Int) := by omega
      go_wp2_with fail
      go_ret2
      rw [hm1.out]
      exact ⟨_, rfl, .nil _ _ _ _ _, hB2⟩
  · rw [if_neg h60] at ho
    rw [decide_eq_false h60]
    have hm1 := Lib.hid (hmdH.out.trans (if_neg (fun h => h60 h.1)))
    clear ho
    go_wp2_with fail
    go_ret2
    rw [hm1.out]
    exact ⟨_, rfl, .nil _ _ _ _ _, hb1⟩
end Go.Proofs.YthkamffmpejckaaGreatDoor

/- Walks: kernel.Detaches. -/
namespace Go.Proofs.YthkamffmpejckaaGreatDoor
open Go Go.RowKit Go.Maps

noncomputable def detsB (s : Sg) (m n : List Int) : Bool := okT s m && (okT s n && (decide (m.headD 0 = 0) && uniB s ((argsT s m).headD []) (apartT n)))
set_option maxHeartbeats 2000000 in
theorem Detaches_any {S1 S2 S3 : Nat → Prop} (a1 a2 a3 : Option Addr) (c1 c2 c3 : Nat) (s : Sg) (m n : List Int) (w : World) (h1 : Sign S1 w a1 c1 s) (h2 : Ints S2 w a2 c2 m) (h3 : Ints S3 w a3 c3 n) :
    Calls Tryz.prog 21 #[.slice a1 s.length c1, .slice a2 m.length c2, .slice a3 n.length c3] w fun e w' => e = .returned (.bool (detsB s m n)) ∧ Below w.heap.size w w' := by
  have m2 := h2.le
  have m3 := h3.le
  have v1 := Valid_any a1 a2 c1 c2 s m w h1 h2
  have v2 := fun W (hb : Below w.heap.size w W) => Valid_any a1 a3 c1 c3 s n W (h1.below hb) (h3.below hb)
  obtain ⟨x, hx⟩ : ∃ x, okT s m = x := ⟨_, rfl⟩
  obtain ⟨y, hy⟩ : ∃ x, okT s n = x := ⟨_, rfl⟩
  rw [hx] at v1
  rw [hy] at v2
  have v1H := Lib.hid v1
  have v2H := Lib.hid v2
  clear v1 v2
  cases x with
  | false =>
    have hmH := Lib.hid (show detsB s m n = false by unfold detsB; rw [hx]; rfl)
    clear hx hy h1 h2 h3
    go_enter Tryz.func21, Tryz.ntmps21
    go_wp2_with fail
    refine v1H.out.mono ?_
    rintro e w1 ⟨rfl, hb1⟩
    go_wp2_with fail
    go_ret
    exact ⟨ret_bool hmH.out.symm, hb1⟩
  | true =>
  cases y with
  | false =>
    have hmH := Lib.hid (show detsB s m n = false by unfold detsB; rw [hx, hy]; rfl)
    clear hx hy h1 h2 h3
    go_enter Tryz.func21, Tryz.ntmps21
    go_wp2_with fail
    refine v1H.out.mono ?_
    rintro e w1 ⟨rfl, hb1⟩
    go_wp2_with fail
    refine (v2H.out _ hb1).mono ?_
    rintro e w2 ⟨rfl, hb2⟩
    go_wp2_with fail
    go_ret
    exact ⟨ret_bool hmH.out.symm, bcall hb1 hb2⟩
  | true =>
    by_cases h0 : m.headD 0 = 0
    · obtain ⟨A, B, e1, e2, oA, oB⟩ := halves hx h0
      have hmH := Lib.hid (show detsB s m n = meetB s A n by unfold detsB meetB; rw [hx, hy, decide_eq_true h0, e1, oA]; rfl)
      have ch := fun W (hb : Below w.heap.size w W) => halves_yes a1 a2 c1 c2 s m A B W (h1.below hb) (h2.below hb) hx e1 h0
      have cd := fun W (hb : Below w.heap.size w W) a4 c4 (hA : Ints (fun _ => True) W a4 c4 A) => Meets_any a1 a4 a3 c1 c4 c3 s A n W (h1.below hb) hA (h3.below hb)
      have chH := Lib.hid ch
      have cdH := Lib.hid cd
      clear ch cd hx hy h1 h2 h3 e1 e2 oA oB h0
      go_enter Tryz.func21, Tryz.ntmps21
      go_wp2_with fail
      refine v1H.out.mono ?_
      rintro e w1 ⟨rfl, hb1⟩
      go_wp2_with fail
      refine (v2H.out _ hb1).mono ?_
      rintro e w2 ⟨rfl, hb2⟩
      have hb2 := bcall hb1 hb2
      clear hb1
      go_wp2_with fail
      refine (chH.out _ hb2).mono ?_
      rintro e w3 ⟨a4, c4, a5, c5, rfl, hA, hB, hb3⟩
      have hb3 := bcall hb2 hb3
      clear hb2
      have cd := cdH.out _ hb3 _ _ hA
      have cdK := Lib.hid cd
      have lA := hA.le
      have lB := hB.le
      clear cd hA hB
      go_wp2_with fail
      refine cdK.out.mono ?_
      rintro e w4 ⟨rfl, hb4⟩
      go_wp2_with fail
      go_ret
      exact ⟨ret_bool hmH.out.symm, bcall hb3 hb4⟩
    · have hmH := Lib.hid (show detsB s m n = false by unfold detsB; rw [hx, hy, decide_eq_false h0]; rfl)
      have ch := fun W (hb : Below w.heap.size w W) => halves_no (.slice a1 s.length c1) a2 c2 m W (h2.below hb) (okT_parts hx).2.1 h0
      have chH := Lib.hid ch
      clear ch hx hy h1 h2 h3 h0
      go_enter Tryz.func21, Tryz.ntmps21
      go_wp2_with fail
      refine v1H.out.mono ?_
      rintro e w1 ⟨rfl, hb1⟩
      go_wp2_with fail
      refine (v2H.out _ hb1).mono ?_
      rintro e w2 ⟨rfl, hb2⟩
      have hb2 := bcall hb1 hb2
      clear hb1
      go_wp2_with fail
      refine (chH.out _ hb2).mono ?_
      rintro e w3 ⟨rfl, rfl⟩
      go_wp2_with fail
      go_ret
      exact ⟨ret_bool hmH.out.symm, hb2⟩
end Go.Proofs.YthkamffmpejckaaGreatDoor

/- Walks: kernel.sorted, slices.Clone of terms. -/
namespace Go.Proofs.YthkamffmpejckaaGreatDoor
open Go Go.RowKit Go.Maps

theorem compact0_any (p : Option Addr) (cap : Nat) (w : World) (fv : Value) :
    Calls Tryz.prog 82 #[.slice p 0 cap, fv] w fun e w' => e = .returned (.slice p 0 cap) ∧ w' = w := by
  go_enter Tryz.func82, Tryz.ntmps82
  go_wp2_with fail
  go_ret
  exact ⟨rfl, rfl⟩
theorem sort0_any (p : Option Addr) (cap : Nat) (w : World) (fv : Value) :
    Calls Tryz.prog 80 #[.slice p 0 cap, fv] w fun e w' => e = .returned (.tuple #[]) ∧ w' = w :=
  AnyF.slices_SortFunc_none (P := Tryz.prog) (ρ := sh6_ren) { sh6 with } p cap fv w
theorem ownsRow_zero {S : Nat → Prop} {w : World} {base : Nat} {v : Value} (ho : OwnTs S w base v []) : ∃ p cap, v = .slice p 0 cap := by
  obtain ⟨a, c, rfl, -⟩ := OwnL.sl ho
  exact ⟨a, c, rfl⟩
set_option maxHeartbeats 1000000 in
theorem ksorted_any {S : Nat → Prop} {w : World} {base : Nat} {v : Value} {l : List (List Int)} (ho : OwnTs S w base v l) (hl : l.length ≤ 1000000) :
    Calls Tryz.prog 50 #[v] w fun e w' => ∃ v', e = .returned v' ∧ OwnTs S w' base v' (sortedL l) ∧ w.grownBy w' v.ownBlock := by
  by_cases h0 : l = []
  · subst h0
    obtain ⟨p, cap, rfl⟩ := ownsRow_zero ho
    have c1 := Lib.hid (fun W fv => sort0_any p cap W fv)
    have c2 := Lib.hid (fun W fv => compact0_any p cap W fv)
    have hoH := Lib.hid ho
    clear ho
    go_enter Tryz.func50, Tryz.ntmps50
    go_wp2_with fail
    (with_reducible refine (c1.out _ _).mono ?_)
    rintro e w1 ⟨rfl, rfl⟩
    go_wp2_with fail
    (with_reducible refine (c2.out _ _).mono ?_)
    rintro e w2 ⟨rfl, rfl⟩
    go_wp2_with fail
    go_ret
    exact ⟨_, rfl, hoH.out, gby_refl _ _⟩
  · obtain ⟨g, cap, rfl, -, -⟩ := OwnL.form ho h0
    have hl0 : 1 ≤ l.length := by
      cases l with
      | nil => exact (h0 rfl).elim
      | cons _ _ => rw [List.length_cons]; omega
    have c1 := Lib.hid (SortT_any ho hl0 hl)
    have c2 : ∀ (W : World) (l' : List (List Int)), l'.Perm l → OwnTs S W base (.slice (some ⟨g, 0, none⟩) l.length cap) l' → _ := fun W l' hp ho' =>
      KCompact_any (S := S) (w := W) (base := base) (g := g) (cap := cap) (l := l') (by rw [hp.length_eq]; exact ho') (by rw [hp.length_eq]; exact hl0) (by rw [hp.length_eq]; exact hl)
    have c2H := Lib.hid c2
    clear ho c2 h0
    go_enter Tryz.func50, Tryz.ntmps50
    go_wp2_with fail
    (with_reducible refine c1.out.mono ?_)
    rintro e w1 ⟨rfl, l', hp, hs, ho1, hg1⟩
    have c3 := c2H.out w1 l' hp ho1
    rw [hp.length_eq] at c3
    have c3H := Lib.hid c3
    have hsH := Lib.hid (sortedL_of hp hs)
    clear c1 c2H ho1 hp hs c3
    go_wp2_with fail
    (with_reducible refine c3H.out.mono ?_)
    rintro e w2 ⟨m, rfl, hm, ho2, hg2⟩
    rw [hsH.out] at ho2
    have hoH := Lib.hid ho2
    have hgH := Lib.hid (gby_trans hg1 hg2)
    clear ho2 hg1 hg2 hm c3H hsH
    go_wp2_with fail
    go_ret
    exact ⟨_, rfl, hoH.out, hgH.out⟩
theorem CloneT_any {S : Nat → Prop} (a : Option Addr) (c : Nat) (l : List (List Int)) (w : World) (h : Terms S w a c l) (hl : l.length ≤ lim) :
    Calls Tryz.prog 51 #[.slice a l.length c] w (retTerms (fun b => b < w.heap.size) w l) := by
  cases a with
  | none =>
    obtain ⟨rfl, rfl⟩ := h.nil rfl
    have hnl := fun W => Lib.run_eql_slice_nil (P := Tryz.prog) W 24 34 none 0 0 0 0 Tryz.underlying24
    go_enter Tryz.func51, Tryz.ntmps51
    go_wp2_with fail
    go_ret
    exact ⟨_, rfl, .nil _ _ _ _ _, .refl _ _⟩
  | some a =>
    have hnl := fun W => Lib.run_eql_slice_nil (P := Tryz.prog) W 24 34 (some a) l.length c 0 0 Tryz.underlying24
    obtain ⟨v', w', hrun, ho, hg, -, -⟩ := (OwnL.made (slE intE) (fun b => b < w.heap.size) w w.heap.size 34 (Nat.le_refl _)).append_run (P := Tryz.prog) (t := 24) (ty := 24) Tryz.underlying24 infoTerm rfl (h.lt.below (below1 w (.cells #[] 34))) (fun i hi vs hv => (slE intE).mono hv (fun b _ hb => ⟨hb.2, fun e => by simp [Value.ownBlock] at e; have := hb.2; omega⟩) (.refl _ _)) (by simp only [List.length_nil]; unfold lim at hl; omega) (by simp only [List.length_nil]; unfold lim at hl; unfold big; omega) (by simp)
    have hB : Below w.heap.size w w' := (below1 w (.cells #[] 34)).grown hg (by simp) (fun k e => by simp [Value.ownBlock] at e; omega)
    rw [List.nil_append] at ho
    clear hg
    have hrunH := Lib.hid hrun
    clear hrun
    go_enter Tryz.func51, Tryz.ntmps51
    go_wp2_with (at_builtin; refine wpList_append_run rfl _ _ _ rfl rfl rfl hrunH.out ?_)
    go_ret
    exact ⟨_, rfl, ho, hB⟩
end Go.Proofs.YthkamffmpejckaaGreatDoor

/- Facts of the program's types that the rows over the kernel want; the start of a row that lists variables. -/
namespace Go.Proofs.YthkamffmpejckaaGreatDoor
open Go Go.RowKit Go.ChangeShapes Go.WideShapes Go.ChangeAt Go.Deep

theorem gives3 {P : Program} {t : TypeId} {α β γ : Type} {E : Enc α} {F : Enc β} {G : Enc γ} {f0 f1 f2 : Field} (ht : P.underlying t = some (.struct #[f0, f1, f2])) (h0 : f0.offset = 0) (h1 : f1.offset = E.size) (h2 : f2.offset = E.size + F.size) (hc : P.cellsOf t = E.size + (F.size + G.size))
    (hc0 : P.cellsOf f0.type = E.size) (hc1 : P.cellsOf f1.type = F.size) (hc2 : P.cellsOf f2.type = G.size) (g0 : Gives P f0.type E) (g1 : Gives P f1.type F) (g2 : Gives P f2.type G) : Gives P t (pairE E (pairE F G)) := by
  intro H enc w base spare held n cs x h
  obtain ⟨y0, y1, y2, n', _, hl, r0, r1, r2⟩ := trod_struct3 ht h
  obtain ⟨a, ha⟩ := g0 H enc w base spare held n' _ _ r0
  obtain ⟨b, hb⟩ := g1 H enc w base spare held n' _ _ r1
  obtain ⟨c, hcc⟩ := g2 H enc w base spare held n' _ _ r2
  refine ⟨(a, b, c), _, _, ?_, ha, _, _, rfl, hb, hcc⟩
  rw [h0, h1, h2, hc0, hc1, hc2, List.drop_zero]
  have e1 : (cs.drop (E.size + F.size)).take G.size = cs.drop (E.size + F.size) := List.take_of_length_le (by simp; omega)
  rw [e1, ← List.drop_drop, List.take_append_drop, List.take_append_drop]
theorem gStp : Gives Tryz.prog 71 stpE := gives3 Tryz.underlying71 rfl rfl rfl (by kernel_rfl) (by kernel_rfl) (by kernel_rfl) (by kernel_rfl) gInt gInt gInt
theorem gSteps : Gives Tryz.prog 25 (slE stpE) := gives_slice Tryz.underlying25 (by kernel_rfl) gStp
theorem gives_array2 {P : Program} {t e : TypeId} {α : Type} {E : Enc α} (ht : P.underlying t = some (.array 2 e)) (hc : P.cellsOf t = E.size + E.size) (he : P.cellsOf e = E.size) (g : Gives P e E) : Gives P t (pairE E E) := by
  intro H enc w base spare held n cs x h
  obtain ⟨xs, m, _, _, hl, hx, hf⟩ := DataW.trod_array ht h
  match xs, hx with
  | [x0, x1], _ =>
    obtain ⟨a, ha⟩ := g H enc w base spare held m _ _ (hf 0 (by omega))
    obtain ⟨b, hb⟩ := g H enc w base spare held m _ _ (hf 1 (by omega))
    refine ⟨(a, b), _, _, ?_, ha, hb⟩
    rw [he, Nat.zero_mul, Nat.one_mul, List.drop_zero]
    have e1 : (cs.drop E.size).take E.size = cs.drop E.size := List.take_of_length_le (by simp; omega)
    rw [e1, List.take_append_drop]
theorem gClaim : Gives Tryz.prog 44 (pairE (slE (slE intE)) (pairE (slE stpE) (slE intE))) := gives3 Tryz.underlying44 rfl rfl rfl (by kernel_rfl) (by kernel_rfl) (by kernel_rfl) (by kernel_rfl) gTerms gSteps gTerm
end Go.Proofs.YthkamffmpejckaaGreatDoor

/- Walks: ValidGivens of the reference. -/
namespace Go.Proofs.YthkamffmpejckaaGreatDoor
open Go Go.RowKit Go.Maps

set_option maxHeartbeats 1000000 in
theorem rValidGivens_any {S1 S2 : Nat → Prop} (a1 a2 : Option Addr) (c1 c2 : Nat) (s : Sg) (L : List (List Int)) (w : World) (h1 : Sign S1 w a1 c1 s) (h2 : Terms S2 w a2 c2 L) :
    Calls Tryz.prog 14 #[.slice a1 s.length c1, .slice a2 L.length c2] w fun e w' => e = .returned (.bool (givensB s L)) ∧ Below w.heap.size w w' := by
  have m2 := h2.le
  have v1 := rValidSign_any a1 c1 s w h1
  have v2 := fun W => isCount_any (L.length : Int) W
  have v3 := fun W (hd : Drew w W) => rAllValid_any a1 a2 c1 c2 s L W (h1.drew hd) (h2.drew hd)
  have hg : givensB s L = (okSign s && decide (L.length ≤ 60) && L.all (okT s)) := rfl
  have hc : (decide ((0 : Int) ≤ (L.length : Int)) && decide ((L.length : Int) ≤ 60)) = decide (L.length ≤ 60) := by
    rw [Bool.eq_iff_iff]; simp only [Bool.and_eq_true, decide_eq_true_eq]; omega
  rw [hc] at v2
  obtain ⟨x, hx⟩ : ∃ x, okSign s = x := ⟨_, rfl⟩
  obtain ⟨y, hy⟩ : ∃ x, decide (L.length ≤ 60) = x := ⟨_, rfl⟩
  obtain ⟨z, hz⟩ : ∃ x, L.all (okT s) = x := ⟨_, rfl⟩
  rw [hx, hy, hz] at hg
  rw [hx] at v1
  rw [hy] at v2
  rw [hz] at v3
  have v1H := Lib.hid v1
  have v2H := Lib.hid v2
  have v3H := Lib.hid v3
  have hgH := Lib.hid hg
  clear v1 v2 v3 h1 h2 hx hy hz hg hc
  cases x with
  | false =>
    go_enter Tryz.func14, Tryz.ntmps14
    go_wp2_with fail
    refine v1H.out.mono ?_
    rintro e w1 ⟨rfl, hd1⟩
    go_wp2_with fail
    go_ret
    exact ⟨by rw [hgH.out]; rfl, hd1.below _⟩
  | true =>
    cases y with
    | false =>
      go_enter Tryz.func14, Tryz.ntmps14
      go_wp2_with fail
      refine v1H.out.mono ?_
      rintro e w1 ⟨rfl, hd1⟩
      go_wp2_with fail
      refine (v2H.out _).mono ?_
      rintro e w2 ⟨rfl, rfl⟩
      go_wp2_with fail
      go_ret
      exact ⟨by rw [hgH.out]; rfl, hd1.below _⟩
    | true =>
      go_enter Tryz.func14, Tryz.ntmps14
      go_wp2_with fail
      refine v1H.out.mono ?_
      rintro e w1 ⟨rfl, hd1⟩
      go_wp2_with fail
      refine (v2H.out _).mono ?_
      rintro e w2 ⟨rfl, rfl⟩
      go_wp2_with fail
      refine (v3H.out _ hd1).mono ?_
      rintro e w2 ⟨rfl, hd2⟩
      go_wp2_with fail
      go_ret
      exact ⟨by rw [hgH.out]; rfl, bcall (hd1.below _) (hd2.below _)⟩
end Go.Proofs.YthkamffmpejckaaGreatDoor

/- Walks: lemmaryref04.detach, Detach, Detaches. -/
namespace Go.Proofs.YthkamffmpejckaaGreatDoor
open Go Go.RowKit Go.Maps

theorem argsW_two {s : Sg} {m A B : List Int} (hm : W1 s m) (e : m = 0 :: (A ++ B)) (hA : W1 s A) (har : arW s 0 = 2) : argsW s m = [A, B] := by
  subst e
  obtain ⟨h1, h2, h3, -⟩ := hm.args
  obtain ⟨L, hL⟩ : ∃ L, argsW s (0 :: (A ++ B)) = L := ⟨_, rfl⟩
  rw [hL] at h1 h2 h3 ⊢
  rw [har] at h1
  match L, h1 with
  | [x, y], _ =>
    have h4 : x ++ (y ++ []) = A ++ B := by simpa using h2
    obtain ⟨e1, e2⟩ := W1.uniq (h3 x (by simp)) hA h4
    rw [e1]
    rw [List.append_nil] at e2
    rw [e2]
theorem arW_zero {s : Sg} (hok : okSign s = true) : arW s 0 = 2 := by
  have h := ar_zero hok
  have hl := (okSign_len hok).1
  unfold okSign at hok
  simp only [Bool.and_eq_true, decide_eq_true_eq] at hok
  unfold arW
  rw [if_neg (by omega)]
  have := hok.2
  simp only [Int.toNat_zero] at *
  rw [this]; rfl
theorem solx_new {w : World} {a1 : Option Addr} {c1 : Nat} {s : Sg} {S1 : Nat → Prop} (h1 : Sign S1 w a1 c1 s) :
    SolX (Nx w.heap.size) (w.alloc (.cells #[.slice a1 s.length c1, .slice none 0 0, .slice none 0 0, .slice none 0 0, .slice none 0 0, .slice none 0 0, .slice none 0 0, .slice none 0 0, .slice none 0 0, .slice none 0 0, .slice none 0 0, .slice none 0 0, .slice none 0 0, .slice none 0 0, .slice none 0 0, .slice none 0 0, .slice none 0 0, .slice none 0 0, .slice none 0 0, .slice none 0 0, .slice none 0 0, .slice none 0 0, .slice none 0 0, .slice none 0 0, .slice none 0 0] 99)) w.heap.size a1 c1 s (fun _ => none) := by
  refine ⟨⟨List.replicate 24 (.slice none 0 0), by rw [heap_alloc_new]; rfl, rfl, fun i hi => ?_⟩, ?_, fun _ _ h => by cases h⟩
  · rw [List.getElem_replicate]; rfl
  · exact (h1.lt.below (below1 _ _)).weak (fun b hb e => by have := hb.2; omega)
theorem wpList_box {P : Program} {ops : Array Oper} {Q : Exit → Act → World → Prop} {a : Act} {w : World} {o1 o2 o3 o4 : Oper} (ty : TypeId) (x0 xs xp xv : Operand) (v zv : Value) (cs : Array Value)
    (g1 : o1.guard = none) (g2 : o2.guard = none) (g3 : o3.guard = none) (g4 : o4.guard = none)
    (h1 : o1.op = .move x0) (h2 : o2.op = .build ty #[(0, xs)]) (h3 : o3.op = .alloc ty) (h4 : o4.op = .store ty xp xv)
    (e1 : a.eval x0 = v) (e2 : (a.put o1.dst v).eval xs = v) (e3 : (((a.put o1.dst v).put o2.dst (.agg cs)).put o3.dst (.pointer (some ⟨w.heap.size, 0, none⟩))).eval xp = .pointer (some ⟨w.heap.size, 0, none⟩))
    (e4 : (((a.put o1.dst v).put o2.dst (.agg cs)).put o3.dst (.pointer (some ⟨w.heap.size, 0, none⟩))).eval xv = .agg cs)
    (hb : (Instr.build ty #[(0, v)]).run P w = .ok (.agg cs) w) (hz : (zeroValue ty).run P w = .ok zv w) (hzs : zv.cells.size = cs.size) (hi : (P.info? ty).map (·.size) = some cs.size) (hc : cs.all (·.oneCell') = true)
    (h : wpList P ops Q [] ((((a.put o1.dst v).put o2.dst (.agg cs)).put o3.dst (.pointer (some ⟨w.heap.size, 0, none⟩))).put o4.dst undef) (w.alloc (.cells cs ty))) : wpList P ops Q [o1, o2, o3, o4] a w := by
  refine wpList_plain g1 fun _ hK => ?_
  unfold Oper.wp execOp
  simp only [h1, e1, Sem.run_pure]
  refine hK _ _ (wpList_plain g2 fun _ hK2 => ?_)
  unfold Oper.wp execOp
  simp only [h2, List.map_toArray, List.map_cons, List.map_nil, e2, Sem.run_bind, hb, Result.andThen_ok, Sem.run_pure]
  refine hK2 _ _ (wpList_plain g3 fun _ hK3 => ?_)
  unfold Oper.wp execOp
  simp only [h3, Instr.alloc, Sem.run_bind, hz, Result.andThen_ok, Sem.run_pure, newVar, newRow, newObj]
  refine hK3 _ _ (wpList_plain g4 fun _ hK4 => ?_)
  unfold Oper.wp execOp
  simp only [h4, e3, e4, Sem.run_bind]
  rw [show (Instr.storeAt ty (.pointer (some ⟨w.heap.size, 0, none⟩)) (.agg cs)).run P { heap := w.heap.push (.cells zv.cells ty), tape := w.tape, drawn := w.drawn, os := w.os, output := w.output } = _ from run_storeAt_new w ty zv.cells cs hi hzs hc]
  exact hK4 _ _ h
theorem solver_zero : (Tryz.prog.info? 99).map (fun i => (i.zero, i.size)) = some (some (.agg #[.slice none 0 0, .slice none 0 0, .slice none 0 0, .slice none 0 0, .slice none 0 0, .slice none 0 0, .slice none 0 0, .slice none 0 0, .slice none 0 0, .slice none 0 0, .slice none 0 0, .slice none 0 0, .slice none 0 0, .slice none 0 0, .slice none 0 0, .slice none 0 0, .slice none 0 0, .slice none 0 0, .slice none 0 0, .slice none 0 0, .slice none 0 0, .slice none 0 0, .slice none 0 0, .slice none 0 0, .slice none 0 0]), 25) := by kernel_rfl
theorem solver_build (w : World) (a : Option Addr) (n c : Nat) : (Instr.build 99 #[(0, .slice a n c)]).run Tryz.prog w = .ok (.agg #[.slice a n c, .slice none 0 0, .slice none 0 0, .slice none 0 0, .slice none 0 0, .slice none 0 0, .slice none 0 0, .slice none 0 0, .slice none 0 0, .slice none 0 0, .slice none 0 0, .slice none 0 0, .slice none 0 0, .slice none 0 0, .slice none 0 0, .slice none 0 0, .slice none 0 0, .slice none 0 0, .slice none 0 0, .slice none 0 0, .slice none 0 0, .slice none 0 0, .slice none 0 0, .slice none 0 0, .slice none 0 0]) w := by kernel_rfl
set_option maxHeartbeats 1000000 in
theorem rdetach_no {S2 : Nat → Prop} (v v3 : Value) (a2 : Option Addr) (c2 : Nat) (s : Sg) (m n : List Int) (w : World) (h2 : Ints S2 w a2 c2 m) (hm : okT s m = true) (hn : okT s n = true) (h0 : m.headD 0 ≠ 0) :
    Calls Tryz.prog 44 #[v, .slice a2 m.length c2, v3] w (retE (detE s m n) w) := by
  have m2 := h2.le
  have lm := (okT_parts hm).2.1
  obtain ⟨b, o, rfl, -, q, -⟩ := h2.int 0 (by omega)
  have hg : m[0] = m.headD 0 := by cases m with | nil => simp at lm | cons _ _ => rfl
  rw [hg, Nat.add_zero] at q
  have hne : (m.headD 0 != 0) = true := by simpa using h0
  rw [detE_state hm hn h0]
  obtain ⟨x, hx⟩ : ∃ x, m.headD 0 = x := ⟨_, rfl⟩
  rw [hx] at q hne
  clear h2 hg h0 hx hm hn
  go_enter Tryz.func44, Tryz.ntmps44
  go_wp2_with fail
  go_ret2
  exact ⟨_, rfl, .nil _ _ _ _ _, .refl _ _⟩
set_option maxRecDepth 20000 in
set_option maxHeartbeats 4000000 in
theorem rdetach_any {S1 S2 S3 : Nat → Prop} (a1 a2 a3 : Option Addr) (c1 c2 c3 : Nat) (s : Sg) (m n : List Int) (w : World) (h1 : Sign S1 w a1 c1 s) (h2 : Ints S2 w a2 c2 m) (h3 : Ints S3 w a3 c3 n) (hm : okT s m = true) (hn : okT s n = true) :
    Calls Tryz.prog 44 #[.slice a1 s.length c1, .slice a2 m.length c2, .slice a3 n.length c3] w (retE (detE s m n) w) := by
  by_cases h0 : m.headD 0 = 0
  case neg => exact rdetach_no _ _ a2 c2 s m n w h2 hm hn h0
  have m1 := h1.le
  have m2 := h2.le
  have m3 := h3.le
  obtain ⟨A, B, e1, e2, oA, oB⟩ := halves hm h0
  have hok := (okT_parts hm).1
  have wA := okT_w1 oA
  have wB := okT_w1 oB
  have wm := okT_w1 hm
  have hd := detE_at hm hn e2 wA
  have hlm := (okT_parts hm).2.2.1
  have hln := (okT_parts hn).2.2.1
  have hlA := (okT_parts oA).2.2.1
  have hlB := (okT_parts oB).2.2.1
  have hL := argsW_two wm e2 wA (arW_zero hok)
  obtain ⟨A1, A2, A3⟩ := args_all wm rfl
  have lm := wm.len
  obtain ⟨b, o, rfl, -, q, -⟩ := h2.int 0 lm
  have hg : m[0] = 0 := by rw [← h0]; cases m with | nil => simp at lm | cons _ _ => rfl
  rw [hg, Nat.add_zero] at q
  have hll : (argsW s m).length = 2 := by rw [hL]; rfl
  have hap : (aposL s m).length = 2 := by rw [aposL_len, hll]
  obtain ⟨f1, f2, f3, f4⟩ := A3 0 (by omega)
  obtain ⟨g1, g2, g3, g4⟩ := A3 1 (by omega)
  simp only [hL, List.getElem_cons_zero, List.getElem_cons_succ] at f4 g4 g1 f1
  have ca := wArguments_any a1 (some ⟨b, o, none⟩) c1 c2 s m w h1 h2 hok wm (by omega)
  have cP1 := fun W (hb : Below w.heap.size w W) => wPart_any a1 (some ⟨b, o, none⟩) c1 c2 s m _ _ A W (h1.below hb) (h2.below hb) hok f1 f2 f3 f4 (by omega)
  have cP2 := fun W (hb : Below w.heap.size w W) => wPart_any a1 (some ⟨b, o, none⟩) c1 c2 s m _ _ B W (h1.below hb) (h2.below hb) hok g1 g2 g3 g4 (by omega)
  have cA := fun W (hb : Below w.heap.size w W) => rApart_any a3 c3 n W (h3.below hb) (by unfold lim; omega) (okT_ne hn) (okT_rg hn)
  have hnew := fun W (hb : Below w.heap.size w W) => solx_new (h1.below hb)
  have cS := fun xb => rsolve_any (xb := xb) (a1 := a1) (c1 := c1) hok _ _ (fun _ => none) (fun n => [n]) (fun _ => 0) A (apartT n) (Slv.empty s) (fun _ _ h => by cases h) wA (apartT_w (okT_w1 hn)) (okT_Rg oA) (apartT_rg hn) hlA (by rw [apartT_len]; exact hln) (fun _ _ h => by cases h) (Nat.le_refl _) (Nat.le_refl _)
  have cF := fun xb B' θ' ρ' (h : Slv s B' θ' ρ') (hr : RgB B') aB cB W (hS : SolX (Nx xb) W xb a1 c1 s B') (hB : Ints (Nx xb) W aB cB B) => rFew_any hok h hr B aB cB W hS hB wB (okT_Rg oB) hlB
  have hno : (∀ η, Wsub s η → Sat (fun _ => none) η → ap η A ≠ ap η (apartT n)) → detE s m n = ([], 8) := fun h => by rw [hd]; exact uniE_none (fun η hw => h η hw (fun _ _ h => by cases h)) B
  have hyes : ∀ B' θ' ρ', Slv2 s (fun _ => none) (fun n => [n]) (fun _ => 0) A (apartT n) B' θ' ρ' → detE s m n = madeE θ' B := fun B' θ' ρ' h => by rw [hd]; exact uniE_some (IsMgu.of2 h) B
  have qz := World.block_lt_of_cell? w _ q
  have aL0 := aposL_at (s := s) (t := m) (k := 0) (by omega)
  have aL1 := aposL_at (s := s) (t := m) (k := 1) (by omega)
  obtain ⟨p0, hp0⟩ : ∃ p0, apos s m 0 = p0 := ⟨_, rfl⟩
  obtain ⟨p1, hp1⟩ : ∃ p1, apos s m 1 = p1 := ⟨_, rfl⟩
  rw [hp0] at aL0 cP1
  rw [hp1] at aL1
  simp only [hp1] at cP2
  have caH := Lib.hid ca
  have cP1H := Lib.hid cP1
  have cP2H := Lib.hid cP2
  have cAH := Lib.hid cA
  have hnewH := Lib.hid hnew
  have cSH := Lib.hid cS
  have cFH := Lib.hid cF
  have hnoH := Lib.hid hno
  have hyesH := Lib.hid hyes
  clear ca cP1 cP2 cA hnew cS cF hno hyes h1 h2 h3 hm hn e1 e2 oA oB hok wA wB wm hd hlm hln hlA hlB hL A1 A2 A3 hg hll f1 f2 f3 f4 g1 g2 g3 g4 hp0 hp1 h0
  go_enter Tryz.func44, Tryz.ntmps44
  go_wp2_with fail
  (with_reducible refine caH.out.mono ?_)
  rintro e w1 ⟨vL, rfl, hoL, hb1⟩
  obtain ⟨aL, cL, rfl, hIL⟩ := OwnI.ints hoL
  obtain ⟨bL, oL, rfl, hbL, qL0, -⟩ := hIL.int 0 (by omega)
  obtain ⟨bL', oL', e', -, qL1, -⟩ := hIL.int 1 (by omega)
  simp only [Option.some.injEq, Addr.mk.injEq, and_true] at e'
  obtain ⟨rfl, rfl⟩ := e'
  rw [aL0, Nat.add_zero] at qL0
  rw [aL1] at qL1
  have mL := hIL.le
  rw [hap] at mL ⊢
  have hltL : bL < w1.heap.size := World.block_lt_of_cell? _ _ qL0
  clear hoL hIL caH aL0 aL1 hap
  go_upto_region 4 with fail
  refine wp_region_lit (wpList_box 99 (.tmp 0) (.tmp 17) (.tmp 9) (.tmp 18) (.slice a1 s.length c1) _ _ rfl rfl rfl rfl rfl rfl rfl rfl rfl rfl rfl rfl (solver_build w1 a1 s.length c1) ((zero_of_info solver_zero).1 w1) rfl (zero_of_info solver_zero).2 (by kernel_rfl) ?_)
  have hS2 := hnewH.out w1 hb1
  obtain ⟨W2, hW2⟩ : ∃ W2, w1.alloc (.cells #[.slice a1 s.length c1, .slice none 0 0, .slice none 0 0, .slice none 0 0, .slice none 0 0, .slice none 0 0, .slice none 0 0, .slice none 0 0, .slice none 0 0, .slice none 0 0, .slice none 0 0, .slice none 0 0, .slice none 0 0, .slice none 0 0, .slice none 0 0, .slice none 0 0, .slice none 0 0, .slice none 0 0, .slice none 0 0, .slice none 0 0, .slice none 0 0, .slice none 0 0, .slice none 0 0, .slice none 0 0, .slice none 0 0] 99) = W2 := ⟨_, rfl⟩
  rw [hW2] at hS2 ⊢
  have hb2 : Below w1.heap.size w1 W2 := by rw [← hW2]; exact below1 _ _
  have qL0' := cell_later hb2 qL0
  have qL1' := cell_later hb2 qL1
  have hB2 := bcall hb1 hb2
  have hz1 := hb1.size
  have hz2 := hb2.size
  have hx2 := hS2.lt
  have cp := Lib.hid (cP1H.out W2 hB2)
  have hS2H := Lib.hid hS2
  clear hS2 hW2 qL0 qL1 cP1H hnewH
  go_wp2_with fail
  (with_reducible refine cp.out.mono ?_)
  rintro e w3 ⟨vA, rfl, hoA, hb3⟩
  obtain ⟨aA, cA, rfl, hIA⟩ := OwnI.ints hoA
  have hB3 := bcall hB2 hb3
  have ca2 := Lib.hid (cAH.out w3 hB3)
  clear hoA cp cAH
  go_wp2_with fail
  (with_reducible refine ca2.out.mono ?_)
  rintro e w4 ⟨vN, rfl, hoN, hb4⟩
  obtain ⟨aN, cN, rfl, hIN⟩ := OwnI.ints hoN
  have hB4 := bcall hB3 hb4
  have hb24 := bcall hb3 hb4
  have hz3 := hb3.size
  have hz4 := hb4.size
  have cc := Lib.hid (cSH.out w1.heap.size w4 aA aN cA cN (hS2H.out.below hb24) ((hIA.below hb4).weak (fun b hb e => by have hb' : W2.heap.size ≤ b := hb; omega)) (hIN.weak (fun b hb e => by have hb' : w3.heap.size ≤ b := hb; omega)))
  have qL1'' := cell_later hb24 qL1'
  clear hoN ca2 cSH hIA hIN hS2H qL0' qL1'
  go_wp2_with fail
  (with_reducible refine cc.out.mono ?_)
  rintro e w5 ⟨r, B', rfl, hg5, hS5, hf, ht⟩
  have hB5 := below_of_gby hB4 hg5 (by omega) hz1
  clear cc
  cases r with
  | false =>
    have hd := Lib.hid (hnoH.out (hf rfl))
    clear hf ht hS5 hnoH hyesH hg5 qL1''
    go_wp2_with fail
    go_ret2
    rw [hd.out]
    exact ⟨_, rfl, .nil _ _ _ _ _, hB5⟩
  | true =>
    obtain ⟨θ', ρ', h2⟩ := ht rfl
    have hd := Lib.hid (hyesH.out _ _ _ h2)
    have qL5 := (World.cell?_of_block (hg5.block bL (World.block_lt_of_cell? _ _ qL1'') (fun e => by cases e; omega))).trans qL1''
    have cp := Lib.hid (cP2H.out w5 hB5)
    have hS5H := Lib.hid hS5
    have h2H := Lib.hid h2
    have hx5 := hS5.lt
    clear hf ht hnoH hyesH hg5 qL1'' cP2H h2 hS5
    go_wp2_with fail
    (with_reducible refine cp.out.mono ?_)
    rintro e w6 ⟨vB, rfl, hoB, hb6⟩
    obtain ⟨aB, cB, rfl, hIB⟩ := OwnI.ints hoB
    have hB6 := bcall hB5 hb6
    have cf := Lib.hid (cFH.out w1.heap.size B' θ' ρ' h2H.out.slv h2H.out.rg aB cB w6 (hS5H.out.below hb6) (hIB.weak (fun b hb e => by have hb' : w5.heap.size ≤ b := hb; omega)))
    clear hoB hIB cp cFH hS5H h2H
    go_wp2_with fail
    (with_reducible refine cf.out.mono ?_)
    rintro e w7 ⟨v7, rfl, ho7, hb7⟩
    have ho7H := Lib.hid (OwnL.baseMono (base' := w.heap.size) ho7 hB6.size)
    clear ho7 cf
    go_wp2_with fail
    go_ret2
    rw [hd.out]
    exact ⟨_, rfl, ho7H.out, bcall hB6 hb7⟩
set_option maxHeartbeats 2000000 in
theorem rDetach_any {S1 S2 S3 : Nat → Prop} (a1 a2 a3 : Option Addr) (c1 c2 c3 : Nat) (s : Sg) (m n : List Int) (w : World) (h1 : Sign S1 w a1 c1 s) (h2 : Ints S2 w a2 c2 m) (h3 : Ints S3 w a3 c3 n) :
    Calls Tryz.prog 20 #[.slice a1 s.length c1, .slice a2 m.length c2, .slice a3 n.length c3] w (retE (detE s m n) w) := by
  have m2 := h2.le
  have m3 := h3.le
  have v1 := rValid_any a1 a2 c1 c2 s m w h1 h2
  have v2 := fun W (hd : Drew w W) => rValid_any a1 a3 c1 c3 s n W (h1.drew hd) (h3.drew hd)
  have v3 := fun W (hb : Below w.heap.size w W) => rdetach_any a1 a2 a3 c1 c2 c3 s m n W (h1.below hb) (h2.below hb) (h3.below hb)
  obtain ⟨x, hx⟩ : ∃ x, okT s m = x := ⟨_, rfl⟩
  obtain ⟨y, hy⟩ : ∃ x, okT s n = x := ⟨_, rfl⟩
  rw [hx] at v1
  rw [hy] at v2
  have v1H := Lib.hid v1
  have v2H := Lib.hid v2
  have v3H := Lib.hid v3
  clear v1 v2 v3 h1 h2 h3
  cases x with
  | false =>
    have hmH := Lib.hid (show detE s m n = ([], 1) by unfold detE; rw [if_neg (by rw [hx]; simp)])
    clear hx hy
    go_enter Tryz.func20, Tryz.ntmps20
    go_wp2_with (go_at_call 43; refine v1H.out.mono ?_; rintro e w1 ⟨rfl, hd1⟩)
    go_ret2
    exact ⟨_, by rw [hmH.out]; rfl, by rw [hmH.out]; exact .nil _ _ _ _ _, hd1.below _⟩
  | true =>
  cases y with
  | false =>
    have hmH := Lib.hid (show detE s m n = ([], 1) by unfold detE; rw [if_neg (by rw [hy]; simp)])
    clear hx hy
    go_enter Tryz.func20, Tryz.ntmps20
    go_wp2_with fail
    refine v1H.out.mono ?_
    rintro e w1 ⟨rfl, hd1⟩
    go_wp2_with fail
    refine (v2H.out _ hd1).mono ?_
    rintro e w2 ⟨rfl, hd2⟩
    go_wp2_with fail
    go_ret2
    exact ⟨_, by rw [hmH.out]; rfl, by rw [hmH.out]; exact .nil _ _ _ _ _, (drew_trans hd1 hd2).below _⟩
  | true =>
    have cd := fun W hb => v3H.out W hb hx hy
    have cdH := Lib.hid cd
    clear cd v3H hx hy
    go_enter Tryz.func20, Tryz.ntmps20
    go_wp2_with fail
    refine v1H.out.mono ?_
    rintro e w1 ⟨rfl, hd1⟩
    go_wp2_with fail
    refine (v2H.out _ hd1).mono ?_
    rintro e w2 ⟨rfl, hd2⟩
    have hb2 := (drew_trans hd1 hd2).below w.heap.size
    go_wp2_with fail
    refine (cdH.out _ hb2).mono ?_
    rintro e w4 ⟨v, rfl, ho, hb4⟩
    have hoH := Lib.hid (OwnL.baseMono (base' := w.heap.size) ho hb2.size)
    clear ho cdH
    go_wp2_with fail
    go_ret2
    exact ⟨_, rfl, hoH.out, bcall hb2 hb4⟩
theorem detsB_eq (s : Sg) (m n : List Int) : (decide ((detE s m n).2 = 0) || decide ((detE s m n).2 = 4)) = detsB s m n := by
  by_cases hm : okT s m = true
  · by_cases hn : okT s n = true
    · rcases det_cases hm hn with ⟨h0, e⟩ | ⟨A, B, e1, e2, oA, oB, (⟨θ, hθ, e, hu⟩ | ⟨-, e, hu⟩)⟩
      · rw [e]; unfold detsB; rw [decide_eq_false h0]; simp
      · have hh : m.headD 0 = 0 := by rw [e2]; rfl
        rw [e]; unfold detsB; rw [hm, hn, decide_eq_true hh, e1]
        simp only [List.headD_cons, hu, Bool.and_true]
        unfold madeE; split <;> simp
      · have hh : m.headD 0 = 0 := by rw [e2]; rfl
        rw [e]; unfold detsB; rw [hm, hn, decide_eq_true hh, e1]
        simp only [List.headD_cons, hu, Bool.and_false]
        decide
    · have : detE s m n = ([], 1) := by unfold detE; rw [if_neg (fun h => hn h.2)]
      rw [this]; unfold detsB; rw [Bool.eq_false_iff.2 hn]; simp
  · have : detE s m n = ([], 1) := by unfold detE; rw [if_neg (fun h => hm h.1)]
    rw [this]; unfold detsB; rw [Bool.eq_false_iff.2 hm]; simp
set_option maxHeartbeats 2000000 in
theorem rDetaches_any {S1 S2 S3 : Nat → Prop} (a1 a2 a3 : Option Addr) (c1 c2 c3 : Nat) (s : Sg) (m n : List Int) (w : World) (h1 : Sign S1 w a1 c1 s) (h2 : Ints S2 w a2 c2 m) (h3 : Ints S3 w a3 c3 n) :
    Calls Tryz.prog 22 #[.slice a1 s.length c1, .slice a2 m.length c2, .slice a3 n.length c3] w fun e w' => e = .returned (.bool (detsB s m n)) ∧ Below w.heap.size w w' := by
  have m2 := h2.le
  have m3 := h3.le
  have v1 := rDetach_any a1 a2 a3 c1 c2 c3 s m n w h1 h2 h3
  have hq := detsB_eq s m n
  obtain ⟨T, E, hT⟩ : ∃ T E, detE s m n = (T, E) := ⟨_, _, rfl⟩
  rw [hT] at v1 hq
  dsimp only at hq
  have v1H := Lib.hid v1
  have hqH := Lib.hid hq
  clear v1 h1 h2 h3 hT hq
  by_cases h0 : E = 0
  · subst h0
    go_enter Tryz.func22, Tryz.ntmps22
    go_wp2_with fail
    refine v1H.out.mono ?_
    rintro e w1 ⟨v, rfl, ho, hb1⟩
    clear ho
    go_wp2_with fail
    go_ret
    exact ⟨ret_bool (by rw [← hqH.out]; rfl), hb1⟩
  · have hz : (E == 0) = false := by simpa using h0
    by_cases h4 : E = 4
    · subst h4
      go_enter Tryz.func22, Tryz.ntmps22
      go_wp2_with fail
      refine v1H.out.mono ?_
      rintro e w1 ⟨v, rfl, ho, hb1⟩
      clear ho
      go_wp2_with fail
      go_ret
      exact ⟨ret_bool (by rw [← hqH.out]; rfl), hb1⟩
    · have hz4 : (E == 4) = false := by simpa using h4
      go_enter Tryz.func22, Tryz.ntmps22
      go_wp2_with fail
      refine v1H.out.mono ?_
      rintro e w1 ⟨v, rfl, ho, hb1⟩
      clear ho
      go_wp2_with fail
      go_ret
      exact ⟨ret_bool (by rw [← hqH.out, decide_eq_false h0, decide_eq_false h4]; rfl), hb1⟩
end Go.Proofs.YthkamffmpejckaaGreatDoor

/- Walks that the laws on kernel share: shelf, Light; awake behind what came before it. -/
namespace Go.Proofs.YthkamffmpejckaaGreatDoor
open Go Go.RowKit Go.Maps

theorem Light_any {S : Nat → Prop} (a : Option Addr) (c : Nat) (p : List Stp) (w : World) (h : Steps S w a c p) :
    Calls Tryz.prog 8 #[.slice a p.length c] w fun e w' => e = .returned (.bool (decide (p.length ≤ 100))) ∧ w = w' := by
  have m := h.le
  go_enter Tryz.func8, Tryz.ntmps8
  go_wp2_with fail
  go_ret
  exact ⟨ret_bool (by rw [Bool.eq_iff_iff]; simp only [decide_eq_true_eq]; omega), rfl⟩
def shelfT (s : Sg) (g : List (List Int)) : Bool := decide (g.length ≤ 80) && smallT s g
theorem shelf_any {S1 S2 : Nat → Prop} (a1 ag : Option Addr) (c1 cg : Nat) (s : Sg) (g : List (List Int)) (w : World) (h1 : Sign S1 w a1 c1 s) (h2 : Terms S2 w ag cg g) :
    Calls Tryz.prog 7 #[.slice a1 s.length c1, .slice ag g.length cg] w fun e w' => e = .returned (.bool (shelfT s g)) ∧ w = w' := by
  have m1 := h1.le
  have m2 := h2.le
  have csH := Lib.hid (Small_any a1 ag c1 cg s g w h1 h2)
  clear h1 h2
  unfold shelfT
  by_cases h80 : g.length ≤ 80
  · have hd : decide ((g.length : Int) ≤ 80) = true := by simp; omega
    rw [decide_eq_true h80]
    go_enter Tryz.func7, Tryz.ntmps7
    go_wp2_with fail
    refine csH.out.mono ?_
    rintro e w1 ⟨rfl, rfl⟩
    go_wp2_with fail
    go_ret
    exact ⟨rfl, rfl⟩
  · have hd : decide ((g.length : Int) ≤ 80) = false := by simp; omega
    rw [decide_eq_false h80]
    go_enter Tryz.func7, Tryz.ntmps7
    go_wp2_with fail
    go_ret
    exact ⟨rfl, rfl⟩
theorem aw4_from {B : Nat} {W W' : World} (hb : Below B W W') (hB : B ≤ W.heap.size) : Calls Tryz.prog 9 #[] W' fun e w' => e = .returned (.bool true) ∧ Below B W w' :=
  (awake4_any W').mono fun _ _ h => ⟨h.1, hb.trans (h.2.mono (Nat.le_trans hB hb.size))⟩
end Go.Proofs.YthkamffmpejckaaGreatDoor

/- Walks: lemmaryref04.run, right, Run, Says. -/
namespace Go.Proofs.YthkamffmpejckaaGreatDoor
open Go Go.RowKit Go.Maps

theorem runL_drop {s : Sg} {g : List (List Int)} {p : List Stp} {k : Nat} (hk : k < p.length) (L : List (List Int)) :
    runL s g (p.drop k) L = if (stepE s g L p[k]).2 = 0 then runL s g (p.drop (k + 1)) (L ++ [(stepE s g L p[k]).1]) else (L, (stepE s g L p[k]).2) := by
  rw [List.drop_eq_getElem_cons hk, runL]
theorem keep4 {W0 w1 w2 : World} {p1 p2 p3 p4 : Addr} {v1 v2 v3 v4 : Value} (h : Below W0.heap.size W0 w1 ∧ w1.cell? p1 = some v1 ∧ w1.cell? p2 = some v2 ∧ w1.cell? p3 = some v3 ∧ w1.cell? p4 = some v4) (hb : Below w1.heap.size w1 w2) :
    Below W0.heap.size W0 w2 ∧ w2.cell? p1 = some v1 ∧ w2.cell? p2 = some v2 ∧ w2.cell? p3 = some v3 ∧ w2.cell? p4 = some v4 :=
  ⟨bcall h.1 hb, cell_later hb h.2.1, cell_later hb h.2.2.1, cell_later hb h.2.2.2.1, cell_later hb h.2.2.2.2⟩
theorem Ts_pushF {w wr w1 : World} {out : Value} {l : List (List Int)} (ho : OwnTs (fun _ => True) wr w.heap.size out l) (hB : Below w.heap.size w wr) (hB1 : Below wr.heap.size wr w1) {a : Option Addr} {c : Nat} {u : List Int} (hu : Ints (fun b => wr.heap.size ≤ b) w1 a c u) (hl : l.length + 1 ≤ 1000000) :
    ∃ v' w', RowKit.Hid ((Builtin.append_ #[24, 24] 24 #[out, .slice (some ⟨w1.heap.size, 0, none⟩) 1 1]).run Tryz.prog (w1.alloc (.cells #[.slice a u.length c] 34)) = .ok v' w') ∧ RowKit.Hid (OwnTs (fun _ => True) w' w.heap.size v' (l ++ [u])) ∧ RowKit.Hid (Below w.heap.size w w') :=
  Ts_push ho hB hB1 (hu.weak (fun b hb => ⟨trivial, fun e => by have h1 := (OwnL.lt ho b e.symm).2; have h2 : wr.heap.size ≤ b := hb; omega⟩)) hl
def rrunRel (s : Sg) (g : List (List Int)) (p : List Stp) (w : World) (out i : Value) (wr : World) : Prop :=
  ∃ (k : Nat) (L : List (List Int)), i = .int .i64 k ∧ k ≤ p.length ∧ L.length = k ∧ (∀ t ∈ L, okT s t = true) ∧ runL s g (p.drop k) L = runL s g p [] ∧ OwnTs (fun _ => True) wr w.heap.size out L ∧ Below w.heap.size w wr
set_option maxRecDepth 20000 in
set_option maxHeartbeats 4000000 in
theorem rrun_any {S1 S2 S3 : Nat → Prop} (a1 ag ap : Option Addr) (c1 cg cp : Nat) (s : Sg) (g : List (List Int)) (p : List Stp) (w : World) (h1 : Sign S1 w a1 c1 s) (h2 : Terms S2 w ag cg g) (h3 : Steps S3 w ap cp p)
    (hg : ∀ t ∈ g, okT s t = true) (hp : okSteps g.length 0 p = true) (hlp : p.length ≤ 60) :
    Calls Tryz.prog 33 #[.slice a1 s.length c1, .slice ag g.length cg, .slice ap p.length cp] w (retTE (runL s g p []) w) := by
  have m1 := h1.le
  have m2 := h2.le
  have m3 := h3.le
  have hgH := Lib.hid hg
  have hpH := Lib.hid hp
  have h1H := Lib.hid h1
  have h2H := Lib.hid h2
  have h3H := Lib.hid h3
  clear hg hp h1 h2 h3
  go_enter Tryz.func33, Tryz.ntmps33
  go_wp2_with fail
  go_loopw [8, 9] (fun out i wr => rrunRel s g p w out i wr) (fun _ i _ => p.length - (intOf i).toNat)
  case atStart => exact ⟨0, [], rfl, Nat.zero_le _, rfl, fun t h => (by cases h), rfl, .nil _ _ _ _ _, .refl _ _⟩
  case round =>
    obtain ⟨k, L, rfl, hk, hLk, hLo, hrun, ho, hB⟩ := hrel
    by_cases hlt : k < p.length
    · rw [runL_drop hlt] at hrun
      have hrb := okSteps_at hpH.out k hlt
      have hs3 := h3H.out.below hB
      obtain ⟨bp, op, rfl, -, q1, q2, q3, -⟩ := hs3.stp k hlt
      obtain ⟨⟨x1, x2, x3⟩, hx⟩ : ∃ x, p[k] = x := ⟨_, rfl⟩
      rw [hx] at hrun hrb q1 q2 q3
      dsimp only at q1 q2 q3
      by_cases hx1 : x1 = 1
      · -- a citation
        obtain ⟨r1, r2, -⟩ := rightB_cite hrb hx1
        dsimp only at r1 r2
        obtain ⟨j, rfl⟩ : ∃ j : Nat, x2 = (j : Int) := ⟨x2.toNat, by omega⟩
        have hj : j < g.length := by omega
        obtain ⟨bg, og, ag2, cg2, rfl, -, qg, hG⟩ := (h2H.out.below hB).sub j hj
        have hgo := hgH.out _ (List.getElem_mem hj)
        have hst : stepE s g L (x1, (j : Int), x3) = (canon g[j], 0) := by unfold stepE; rw [if_pos hx1]; simp [hj]
        rw [hst, if_pos rfl] at hrun
        obtain ⟨u, hu⟩ : ∃ u, g[j] = u := ⟨_, rfl⟩
        rw [hu] at hrun hgo qg hG
        have hcl := okT_canon hgo
        have cr := fun W (hb : Below wr.heap.size wr W) => Renamed_any ag2 cg2 u W (hG.below hb) (by have := (okT_parts hgo).2.2.1; unfold lim; omega) (okT_tame hgo) (okT_ne hgo)
        have hpush := fun W (hb : Below wr.heap.size wr W) a4 c4 (hi : Ints (fun b => wr.heap.size ≤ b) W a4 c4 (canon u)) => Ts_pushF ho hB hb hi (by omega)
        have hLo' : ∀ t ∈ L ++ [canon u], okT s t = true := fun t ht => by
          rcases List.mem_append.1 ht with h | h
          · exact hLo t h
          · rw [List.mem_singleton] at h; rw [h]; exact hcl
        have hLk' : (L ++ [canon u]).length = k + 1 := by rw [List.length_append, List.length_singleton, hLk]
        have crH := Lib.hid (cr wr (.refl _ _))
        have hpushH := Lib.hid hpush
        have hrunH := Lib.hid hrun
        have hLoH := Lib.hid hLo'
        have hLkH := Lib.hid hLk'
        subst hx1
        clear cr hpush hrun hLo hLo' hLk' hcl hgo hG hu hst hx hrb ho hs3 hLk
        go_wp2_with (first
          | (go_at_call 54; (with_reducible refine crH.out.mono ?_); rintro e w2 ⟨v2, rfl, ho2, hb2⟩; obtain ⟨a4, c4, rfl, hI2⟩ := OwnI.ints ho2; obtain ⟨v', w', hrun', ho', hB'⟩ := hpushH.out w2 hb2 a4 c4 hI2)
          | (at_builtin; refine wpList_append_run rfl _ _ _ rfl rfl rfl hrun'.out ?_))
        go_roundw
        case rel => exact ⟨k + 1, _, by go_num, by omega, hLkH.out, hLoH.out, hrunH.out, ho'.out, hB'.out⟩
        case measure => simp [intOf]; omega
      · -- a detachment
        obtain ⟨r0, r1, r2, r3, r4⟩ := rightB_detach hrb hx1
        dsimp only at r0 r1 r2 r3 r4
        obtain ⟨i, rfl⟩ : ∃ j : Nat, x2 = (j : Int) := ⟨x2.toNat, by omega⟩
        obtain ⟨j, rfl⟩ : ∃ j : Nat, x3 = (j : Int) := ⟨x3.toNat, by omega⟩
        have hi : i < L.length := by omega
        have hj : j < L.length := by omega
        have hst : stepE s g L (x1, (i : Int), (j : Int)) = detE s L[i] L[j] := by unfold stepE; rw [if_neg hx1]; simp [hi, hj]
        rw [hst] at hrun
        have oi := hLo _ (List.getElem_mem hi)
        have oj := hLo _ (List.getElem_mem hj)
        obtain ⟨aL, cL, rfl, hT⟩ := OwnL.sl ho
        obtain ⟨bL, oL, ai, ci, rfl, -, qi, hIi⟩ := hT.sub i hi
        obtain ⟨bL', oL', aj, cj, e', -, qj, hIj⟩ := hT.sub j hj
        simp only [Option.some.injEq, Addr.mk.injEq, and_true] at e'
        obtain ⟨rfl, rfl⟩ := e'
        obtain ⟨u, hu⟩ : ∃ u, L[i] = u := ⟨_, rfl⟩
        obtain ⟨y, hy⟩ : ∃ u, L[j] = u := ⟨_, rfl⟩
        rw [hu] at hrun oi qi hIi
        rw [hy] at hrun oj qj hIj
        have mT := hT.le
        have hs1 := h1H.out.below hB
        have cd := fun W (hb : Below wr.heap.size wr W) => rdetach_any a1 ai aj c1 ci cj s u y W (hs1.below hb) (hIi.below hb) (hIj.below hb) oi oj
        have hok : (detE s u y).2 = 0 → okT s (detE s u y).1 = true := fun h => (det_ok h).2.2
        obtain ⟨T, E, hTE⟩ : ∃ T E, detE s u y = (T, E) := ⟨_, _, rfl⟩
        rw [hTE] at hrun hok
        simp only [hTE] at cd
        dsimp only at hrun hok
        have hpush := fun W (hb : Below wr.heap.size wr W) a4 c4 (hi : Ints (fun b => wr.heap.size ≤ b) W a4 c4 T) => Ts_pushF ho hB hb hi (by omega)
        have q2d := cell_later (Below.drew (.refl wr.heap.size _)) q2
        have q3d := cell_later (Below.drew (.refl wr.heap.size _)) q3
        have qid := cell_later (Below.drew (.refl wr.heap.size _)) qi
        have qjd := cell_later (Below.drew (.refl wr.heap.size _)) qj
        have hk0 : Below wr.heap.size wr wr.drew ∧ wr.drew.cell? ⟨bp, op + k * 3 + 1, none⟩ = some (.int .i64 (i : Int)) ∧ wr.drew.cell? ⟨bp, op + k * 3 + 2, none⟩ = some (.int .i64 (j : Int)) ∧ wr.drew.cell? ⟨bL, oL + i, none⟩ = some (.slice ai u.length ci) ∧ wr.drew.cell? ⟨bL, oL + j, none⟩ = some (.slice aj y.length cj) := ⟨Below.drew (.refl wr.heap.size _), q2d, q3d, qid, qjd⟩
        have cdH := Lib.hid cd
        have hpushH := Lib.hid hpush
        have hrunH := Lib.hid hrun
        have hokH := Lib.hid hok
        have hLoH := Lib.hid hLo
        have hoH := Lib.hid ho
        subst r0
        have hLkO := Lib.hid hLk
        clear cd hpush hrun hok hLo oi oj hIi hIj hT hTE hu hy hst hx hrb ho hs3 hs1 q2 q3 qi qj q2d q3d qid qjd hx1 hLk
        go_wp2_with fail
        go_region_held3 (fun w' => Below wr.heap.size wr w' ∧ w'.cell? ⟨bp, op + k * 3 + 1, none⟩ = some (.int .i64 (i : Int)) ∧ w'.cell? ⟨bp, op + k * 3 + 2, none⟩ = some (.int .i64 (j : Int)) ∧ w'.cell? ⟨bL, oL + i, none⟩ = some (.slice ai u.length ci) ∧ w'.cell? ⟨bL, oL + j, none⟩ = some (.slice aj y.length cj))
          ((first | exact hk0 | exact keep4 ‹_› hbD))
          ((go_at_call 44; (with_reducible refine (cdH.out _ ?_).mono ?_); exact (And.left ‹_›); rintro e w2 ⟨vD, rfl, hoD, hbD⟩; obtain ⟨a4, c4, rfl, hI4⟩ := OwnI.ints hoD))
        have hB2 := And.left (‹Below wr.heap.size wr w2 ∧ _›)
        have hrun := hrunH.out
        by_cases hE : E = 0
        · rw [if_pos hE] at hrun
          have hoT := hokH.out hE
          subst hE
          obtain ⟨v', w', hrun', ho', hB'⟩ := hpushH.out w2 hB2 a4 c4 (hI4.weak (fun b hb => hb))
          have hLo' : ∀ t ∈ L ++ [T], okT s t = true := fun t ht => by
            rcases List.mem_append.1 ht with h | h
            · exact hLoH.out t h
            · rw [List.mem_singleton] at h; rw [h]; exact hoT
          have hLk' : (L ++ [T]).length = k + 1 := by rw [List.length_append, List.length_singleton, hLkO.out]
          have hrunH := Lib.hid hrun
          have hLoH := Lib.hid hLo'
          have hLkH := Lib.hid hLk'
          clear hrun hLo' hLk' hpushH hokH hoT hB2 hI4 hoD hbD hk0 cdH hoH
          go_wp2_with (at_builtin; refine wpList_append_run rfl _ _ _ rfl rfl rfl hrun'.out ?_)
          go_roundw
          case rel => exact ⟨k + 1, _, by go_num, by omega, hLkH.out, hLoH.out, hrunH.out, ho'.out, hB'.out⟩
          case measure => simp [intOf]; omega
        · rw [if_neg hE] at hrun
          have hne : (E != 0) = true := by simpa using hE
          have hrunH := Lib.hid hrun
          have hoH := Lib.hid (OwnL.call hoH.out hB2)
          have hBH := Lib.hid (bcall hB hB2)
          clear hrun hpushH hokH hB2 hI4 hoD hbD hk0 cdH
          go_wp2_with fail
          go_ret2
          rw [← hrunH.out]
          exact ⟨_, rfl, hoH.out, hBH.out⟩
    · rw [List.drop_eq_nil_of_le (by omega), runL] at hrun
      have hrunH := Lib.hid hrun
      have hoH := Lib.hid ho
      clear hrun ho
      go_wp2_with fail
      go_ret2
      rw [← hrunH.out]
      exact ⟨_, rfl, hoH.out, hB⟩
end Go.Proofs.YthkamffmpejckaaGreatDoor

/- Walks: lemmaryref04.Reachable. -/
namespace Go.Proofs.YthkamffmpejckaaGreatDoor
open Go Go.RowKit Go.Maps

def rr1Rel (g : List (List Int)) (w : World) (out i : Value) (wr : World) : Prop :=
  ∃ (k : Nat) (a : Option Addr) (c : Nat), i = .int .i64 k ∧ k ≤ g.length ∧ out = .slice a (sortedL ((g.take k).map canon)).length c ∧ Terms (fun _ => True) wr a c (sortedL ((g.take k).map canon)) ∧ Below w.heap.size w wr
def rr2Rel (s : Sg) (m : Nat) (R : List (List Int) × Int) (w : World) (out i : Value) (wr : World) : Prop :=
  ∃ (k : Nat) (l : List (List Int)) (a : Option Addr) (c : Nat), i = .int .i64 k ∧ k ≤ m ∧ iterE s (m - k) l = R ∧ Asc l ∧ l.length ≤ 60 ∧ (∀ t ∈ l, okT s t = true) ∧ out = .slice a l.length c ∧ Terms (fun _ => True) wr a c l ∧ Below w.heap.size w wr
def foldW (l d : List (List Int)) : List (List Int) := d.foldl (fun l x => withL x l) l
def rr3Rel (s : Sg) (l : List (List Int)) (w5 : World) (nx i : Value) (wr : World) : Prop :=
  ∃ (k : Nat) (a : Option Addr) (c : Nat), i = .int .i64 k ∧ k ≤ l.length ∧ nx = .slice a (foldW l (detsL s l k)).length c ∧ Terms (fun _ => True) wr a c (foldW l (detsL s l k)) ∧ Below w5.heap.size w5 wr
def rr4Rel (s : Sg) (l X : List (List Int)) (u : List Int) (w5 : World) (nx j : Value) (wr : World) : Prop :=
  ∃ (k : Nat) (a : Option Addr) (c : Nat), j = .int .i64 k ∧ k ≤ l.length ∧ nx = .slice a (foldW X (rowD s u (l.take k))).length c ∧ Terms (fun _ => True) wr a c (foldW X (rowD s u (l.take k))) ∧ Below w5.heap.size w5 wr
theorem foldW_append (l d e : List (List Int)) : foldW l (d ++ e) = foldW (foldW l d) e := by unfold foldW; rw [List.foldl_append]
theorem foldW_one (l : List (List Int)) (t : List Int) : foldW l [t] = withL t l := rfl
theorem keep2R {W0 w1 w2 : World} {p1 p2 : Addr} {v1 v2 : Value} (h : Below W0.heap.size W0 w1 ∧ w1.cell? p1 = some v1 ∧ w1.cell? p2 = some v2) (hb : Below w1.heap.size w1 w2) :
    Below W0.heap.size W0 w2 ∧ w2.cell? p1 = some v1 ∧ w2.cell? p2 = some v2 :=
  ⟨bcall h.1 hb, cell_later hb h.2.1, cell_later hb h.2.2⟩
set_option maxRecDepth 20000 in
set_option maxHeartbeats 8000000 in
theorem rReach_any {S1 S2 : Nat → Prop} (a1 ag : Option Addr) (c1 cg : Nat) (s : Sg) (g : List (List Int)) (most : Int) (w : World) (h1 : Sign S1 w a1 c1 s) (h2 : Terms S2 w ag cg g) :
    Calls Tryz.prog 28 #[.slice a1 s.length c1, .slice ag g.length cg, .int .i64 most] w fun e w' => ∃ a c, e = .returned (.tuple #[.slice a (reachE s g most).1.length c, .int .i64 (reachE s g most).2]) ∧ Terms (fun _ => True) w' a c (reachE s g most).1 ∧ Below w.heap.size w w' := by
  have m1 := h1.le
  have m2 := h2.le
  have v1 := Lib.hid (rValidGivens_any a1 ag c1 cg s g w h1 h2)
  cases hg : givensB s g with
  | false =>
    rw [hg] at v1
    have hR := Lib.hid (show reachE s g most = ([], 1) by rw [reachE, if_neg (by simp [hg])])
    clear h1 h2 hg
    go_enter Tryz.func28, Tryz.ntmps28
    go_wp2_with fail
    refine v1.out.mono ?_
    rintro e w1 ⟨rfl, hb1⟩
    go_wp2_with fail
    go_ret2
    rw [hR.out]
    exact ⟨_, _, rfl, Sl.empty, hb1⟩
  | true =>
  rw [hg] at v1
  have v2 := Lib.hid (fun W => r4within_any most 0 3 W)
  cases hm : (decide (0 ≤ most) && decide (most ≤ 3)) with
  | false =>
    rw [hm] at v2
    have hR := Lib.hid (show reachE s g most = ([], 7) by rw [reachE, if_pos hg, if_neg (by simp [hm])])
    clear h1 h2 hg hm
    go_enter Tryz.func28, Tryz.ntmps28
    go_wp2_with fail
    refine v1.out.mono ?_
    rintro e w1 ⟨rfl, hb1⟩
    go_wp2_with fail
    refine (v2.out _).mono ?_
    rintro e w2 ⟨rfl, rfl⟩
    go_wp2_with fail
    go_ret2
    rw [hR.out]
    exact ⟨_, _, rfl, Sl.empty, hb1⟩
  | true =>
  rw [hm] at v2
  obtain ⟨-, hgl, hgo⟩ := givensB_parts hg
  have hm' : 0 ≤ most ∧ most ≤ 3 := by simpa using hm
  obtain ⟨m, rfl⟩ : ∃ m : Nat, most = (m : Int) := ⟨most.toNat, by omega⟩
  have hm3 : m ≤ 3 := by omega
  obtain ⟨R, hR⟩ : ∃ R, iterE s m (sortedL (g.map canon)) = R := ⟨_, rfl⟩
  have hRR : reachE s g (m : Int) = R := by rw [reachE, if_pos hg, if_pos hm, Int.toNat_natCast, hR]
  rw [hRR]
  have hmapok : ∀ t ∈ sortedL (g.map canon), okT s t = true := fun t ht => by
    obtain ⟨u, hu, rfl⟩ := List.mem_map.1 (mem_sortedL.1 ht)
    exact okT_canon (hgo u hu)
  have hmapl : (sortedL (g.map canon)).length ≤ 60 := by have := sortedL_len (g.map canon); rw [List.length_map] at this; omega
  have cD := Lib.hid (fun W (hb : Below w.heap.size w W) (a b : Option Addr) (c d : Nat) (u y : List Int) (S T : Nat → Prop) (hi : Ints S W a c u) (hj : Ints T W b d y) => rdetach_any a1 a b c1 c d s u y W (h1.below hb) hi hj)
  have h2H := Lib.hid h2
  have hgoH := Lib.hid hgo
  have hRH := Lib.hid hR
  have hmapokH := Lib.hid hmapok
  have hmaplH := Lib.hid hmapl
  clear h1 h2 hg hm hm' hgo hR hRR hmapok hmapl
  go_enter Tryz.func28, Tryz.ntmps28
  go_wp2_with fail
  refine v1.out.mono ?_
  rintro e w1 ⟨rfl, hb1⟩
  go_wp2_with fail
  refine (v2.out _).mono ?_
  rintro e w2 ⟨rfl, rfl⟩
  have hb1H := Lib.hid hb1
  clear v1 v2 hb1
  go_wp2_with fail
  go_loopw [8, 9] (fun out i wr => rr1Rel g w out i wr) (fun _ i _ => g.length - (intOf i).toNat)
  case atStart => exact ⟨0, none, 0, rfl, Nat.zero_le _, rfl, Sl.empty, hb1H.out⟩
  case round =>
    obtain ⟨k, aL, cL, rfl, hk, rfl, hT, hB⟩ := hrel
    by_cases hlt : k < g.length
    · obtain ⟨bg, og, ai, ci, rfl, -, qi, hIi⟩ := (h2H.out.below hB).sub k hlt
      have hok := hgoH.out _ (List.getElem_mem hlt)
      have htk : sortedL ((g.take (k + 1)).map canon) = withL (canon g[k]) (sortedL ((g.take k).map canon)) := by
        rw [List.take_succ_eq_append_getElem hlt, List.map_append, sortedL_append]; rfl
      obtain ⟨X, hX⟩ : ∃ X, sortedL ((g.take k).map canon) = X := ⟨_, rfl⟩
      have hXl : X.length ≤ 60 := by
        rw [← hX]
        have := sortedL_len ((g.take k).map canon)
        rw [List.length_map, List.length_take] at this
        omega
      rw [hX] at hT htk
      rw [hX]
      obtain ⟨u, hu⟩ : ∃ u, g[k] = u := ⟨_, rfl⟩
      rw [hu] at qi hIi hok htk
      have cr := Lib.hid (Renamed_any ai ci u wr hIi (by have := (okT_parts hok).2.2.1; unfold lim; omega) (okT_tame hok) (okT_ne hok))
      have mX := hT.le
      have cw := fun W (hb : Below wr.heap.size wr W) (S : Nat → Prop) a4 c4 (hi : Ints S W a4 c4 (canon u)) => With_any aL a4 cL c4 X (canon u) W (hT.below hb) hi (by omega)
      have cwH := Lib.hid cw
      have htkH := Lib.hid htk
      have hBH := Lib.hid hB
      clear hT hIi htk hok hu hX cw hB
      go_wp2_with fail
      (with_reducible refine cr.out.mono ?_)
      rintro e w3 ⟨v3, rfl, ho3, hb3⟩
      obtain ⟨a4, c4, rfl, hI4⟩ := OwnI.ints ho3
      have cw3 := Lib.hid (cwH.out w3 hb3 _ a4 c4 hI4)
      have hB3 := Lib.hid (bcall hBH.out hb3)
      clear cr cwH ho3 hI4 hb3 hBH
      go_wp2_with fail
      (with_reducible refine cw3.out.mono ?_)
      rintro e w4 ⟨v4, rfl, ho4, hb4⟩
      obtain ⟨a5, c5, rfl, hT5⟩ := OwnL.sl ho4
      have hT5H := Lib.hid hT5.any
      have hB4 := Lib.hid (bcall hB3.out hb4)
      clear cw3 ho4 hT5 hb4 hB3
      go_wp2_with fail
      go_roundw
      case rel => exact ⟨k + 1, a5, c5, by go_num, by omega, by rw [htkH.out], by rw [htkH.out]; exact hT5H.out, hB4.out⟩
      case measure => simp [intOf]; omega
    · have hkk : k = g.length := by omega
      subst hkk
      rw [List.take_length] at hT
      rw [List.take_length]
      have hTH := Lib.hid hT
      have hBH := Lib.hid hB
      clear hT hB hgoH h2H hb1H
      go_wp2_with fail
      go_loopw [8, 10] (fun out i wr => rr2Rel s m R w out i wr) (fun _ i _ => m - (intOf i).toNat)
      case atStart => exact ⟨0, _, aL, cL, rfl, Nat.zero_le _, hRH.out, sortedL_isAsc _, hmaplH.out, hmapokH.out, rfl, hTH.out, hBH.out⟩
      case round =>
        obtain ⟨k, l, aL, cL, rfl, hk, hit, hAsc, hl60, hlo, rfl, hT, hB⟩ := hrel
        by_cases hlt : k < m
        · obtain ⟨w5, hw5⟩ : ∃ w5, w5 = wr := ⟨_, rfl⟩
          subst hw5
          have mL := hT.le
          have hTH := Lib.hid hT
          have hB5H := Lib.hid hB
          have hitH := Lib.hid hit
          have hAscH := Lib.hid hAsc
          have hloH := Lib.hid hlo
          clear hT hB hit hAsc hlo
          go_wp2_with fail
          go_loopw [11, 12] (fun nx i wr => rr3Rel s l w5 nx i wr) (fun _ i _ => l.length - (intOf i).toNat)
          case atStart => exact ⟨0, aL, cL, rfl, Nat.zero_le _, rfl, hTH.out, .refl _ _⟩
          case round =>
            obtain ⟨i, aN, cN, rfl, hi, rfl, hN, hB⟩ := hrel
            by_cases hlt2 : i < l.length
            · obtain ⟨bL, oL, ai, ci, rfl, -, qi, hIi⟩ := hTH.out.sub i hlt2
              have oki := hloH.out _ (List.getElem_mem hlt2)
              obtain ⟨u, hu⟩ : ∃ u, l[i] = u := ⟨_, rfl⟩
              rw [hu] at qi hIi oki
              obtain ⟨X, hX⟩ : ∃ X, foldW l (detsL s l i) = X := ⟨_, rfl⟩
              have hXl : X.length ≤ 3660 := by
                have := reach_bound (s := s) hl60 (k := i) (by omega)
                have h2 := foldW_len (detsL s l i) l
                rw [← hX]; unfold foldW; omega
              have hXs : foldW l (detsL s l (i + 1)) = foldW X (rowD s u (l.take l.length)) := by rw [detsL_succ hlt2, hu, List.take_length, foldW_append, hX]
              rw [hX] at hN
              rw [hX]
              have hNH := Lib.hid hN
              have hB7H := Lib.hid hB
              have hIiH := Lib.hid hIi
              have hXsH := Lib.hid hXs
              clear hN hB hu hX hXs hIi
              go_wp2_with fail
              go_loopw [11, 13] (fun nx j wr => rr4Rel s l X u w5 nx j wr) (fun _ j _ => l.length - (intOf j).toNat)
              case atStart => exact ⟨0, aN, cN, rfl, Nat.zero_le _, rfl, hNH.out, hB7H.out⟩
              case round =>
                obtain ⟨j, aM, cM, rfl, hj, rfl, hN, hB⟩ := hrel
                by_cases hlt3 : j < l.length
                · obtain ⟨bL2, oL2, aj, cj, e', -, qj, hIj⟩ := hTH.out.sub j hlt3
                  simp only [Option.some.injEq, Addr.mk.injEq, and_true] at e'
                  obtain ⟨rfl, rfl⟩ := e'
                  have hrow := rowD_succ (s := s) (m := u) hlt3
                  have okj := hloH.out _ (List.getElem_mem hlt3)
                  obtain ⟨y, hy⟩ : ∃ y, l[j] = y := ⟨_, rfl⟩
                  rw [hy] at qj hIj hrow okj
                  have cd := fun W (hb : Below wr.heap.size wr W) => cD.out W (bcall hB5H.out (bcall hB hb)) ai aj ci cj u y _ _ ((hIiH.out.below hB).below hb) ((hIj.below hB).below hb) oki okj
                  obtain ⟨T, E, hTE⟩ : ∃ T E, detE s u y = (T, E) := ⟨_, _, rfl⟩
                  simp only [hTE] at cd hrow
                  obtain ⟨Y, hY⟩ : ∃ Y, foldW X (rowD s u (l.take j)) = Y := ⟨_, rfl⟩
                  have hYl : Y.length ≤ 100000 := by
                    have h1 := rowD_len s u (l.take j)
                    rw [List.length_take] at h1
                    have h2 := foldW_len (rowD s u (l.take j)) X
                    rw [← hY]; unfold foldW; omega
                  rw [hY] at hN
                  rw [hY]
                  have mY := hN.le
                  have cw := fun W (hb : Below wr.heap.size wr W) (S : Nat → Prop) a4 c4 (hi : Ints S W a4 c4 T) => With_any aM a4 cM c4 Y T W (hN.below hb) hi hYl
                  have hbd : Below wr.heap.size wr wr.drew := Below.drew (.refl wr.heap.size _)
                  have hk0 : Below wr.heap.size wr wr.drew ∧ wr.drew.cell? ⟨bL, oL + i, none⟩ = some (.slice ai u.length ci) ∧ wr.drew.cell? ⟨bL, oL + j, none⟩ = some (.slice aj y.length cj) := ⟨hbd, cell_later hbd (cell_later hB qi), cell_later hbd (cell_later hB qj)⟩
                  have cdH := Lib.hid cd
                  have cwH := Lib.hid cw
                  have hrowH := Lib.hid hrow
                  have hYH := Lib.hid hY
                  have hNJ := Lib.hid (fun W (hb : Below wr.heap.size wr W) => hN.below hb)
                  have hBJ := Lib.hid (fun W (hb : Below wr.heap.size wr W) => bcall hB hb)
                  clear hN hB cd cw hrow hTE hy hIj hYl qi qj hY hbd oki okj
                  go_wp2_with fail
                  go_region_held3 (fun w' => Below wr.heap.size wr w' ∧ w'.cell? ⟨bL, oL + i, none⟩ = some (.slice ai u.length ci) ∧ w'.cell? ⟨bL, oL + j, none⟩ = some (.slice aj y.length cj))
                    ((first | exact hk0 | exact keep2R ‹_› hbD))
                    ((go_at_call 44; (with_reducible refine (cdH.out _ ?_).mono ?_); exact (And.left ‹_›); rintro e w8 ⟨vD, rfl, hoD, hbD⟩; obtain ⟨a4, c4, rfl, hI4⟩ := OwnI.ints hoD))
                  have hB8 := And.left (‹Below wr.heap.size wr w8 ∧ _›)
                  by_cases hE : E = 0
                  · have cw8 := Lib.hid (cwH.out w8 hB8 _ a4 c4 hI4)
                    have hB8H := Lib.hid hB8
                    have hrow := hrowH.out
                    rw [if_pos hE] at hrow
                    have hfin : foldW X (rowD s u (l.take (j + 1))) = withL T Y := by rw [hrow, foldW_append, hYH.out]; rfl
                    have hfinH := Lib.hid hfin
                    subst hE
                    clear hB8 hoD hI4 hbD hk0 cdH cwH hNJ hrow hrowH hfin hYH
                    go_wp2_with fail
                    (with_reducible refine cw8.out.mono ?_)
                    rintro e w9 ⟨v9, rfl, ho9, hb9⟩
                    obtain ⟨a9, c9, rfl, hT9⟩ := OwnL.sl ho9
                    have hT9H := Lib.hid hT9.any
                    have hB9H := Lib.hid (hBJ.out _ (bcall hB8H.out hb9))
                    clear ho9 hT9 hb9 cw8 hB8H hBJ
                    go_wp2_with fail
                    go_roundw
                    case rel => exact ⟨j + 1, a9, c9, by go_num, by omega, by rw [hfinH.out], by rw [hfinH.out]; exact hT9H.out, hB9H.out⟩
                    case measure => simp [intOf]; omega
                  · have hne : (E == 0) = false := by simpa using hE
                    have hrow := hrowH.out
                    rw [if_neg hE, List.append_nil] at hrow
                    have hfin : foldW X (rowD s u (l.take (j + 1))) = Y := by rw [hrow, hYH.out]
                    have hfinH := Lib.hid hfin
                    have hN8 := Lib.hid (hNJ.out _ hB8)
                    have hB8H := Lib.hid (hBJ.out _ hB8)
                    clear hE hB8 hoD hI4 hbD hk0 cdH cwH hNJ hBJ hrow hrowH hfin hYH
                    go_wp2_with fail
                    go_roundw
                    case rel => exact ⟨j + 1, aM, cM, by go_num, by omega, by rw [hfinH.out], by rw [hfinH.out]; exact hN8.out, hB8H.out⟩
                    case measure => simp [intOf]; omega
                · have hjj : j = l.length := by omega
                  subst hjj
                  have hNK := Lib.hid hN
                  have hBK := Lib.hid hB
                  clear hN hB qi
                  go_wp2_with fail
                  go_roundw
                  case rel => exact ⟨i + 1, aM, cM, by go_num, by omega, by rw [hXsH.out], by rw [hXsH.out]; exact hNK.out, hBK.out⟩
                  case measure => simp [intOf]; omega
            · have hii : i = l.length := by omega
              subst hii
              have hasc2 := stepW_asc (s := s) hAscH.out
              have hok2 := stepW_ok hAscH.out hloH.out
              have hit2 : iterE s (m - k) l = if 60 < (stepW s l).length then ([], 4) else iterE s (m - (k + 1)) (stepW s l) := by
                rw [show m - k = (m - (k + 1)) + 1 by omega, iterE]
              rw [hitH.out] at hit2
              have hfs : foldW l (detsL s l l.length) = stepW s l := rfl
              obtain ⟨l2, hl2⟩ : ∃ l2, stepW s l = l2 := ⟨_, rfl⟩
              rw [hfs, hl2] at hN
              rw [hfs]
              rw [hl2] at hasc2 hok2 hit2 ⊢
              have mN := hN.le
              have hascH := Lib.hid hasc2
              have hokH := Lib.hid hok2
              have hitK := Lib.hid hit2
              have hNK := Lib.hid hN
              have hBN := Lib.hid (bcall hB5H.out hB)
              clear hN hB hasc2 hok2 hit2 hl2 hfs
              by_cases h60 : 60 < l2.length
              · have hd : decide (60 < (l2.length : Int)) = true := by simp; omega
                have hit := hitK.out
                rw [if_pos h60] at hit
                have hitL := Lib.hid hit
                clear hit hitK
                go_wp2_with fail
                go_ret2
                rw [hitL.out]
                exact ⟨_, _, rfl, Sl.empty, hBN.out⟩
              · have hd : decide (60 < (l2.length : Int)) = false := by simp; omega
                have hit := hitK.out
                rw [if_neg h60] at hit
                have hitL := Lib.hid hit.symm
                clear hit hitK
                go_wp2_with fail
                go_roundw
                case rel => exact ⟨k + 1, l2, aN, cN, by go_num, by omega, hitL.out, hascH.out, by omega, hokH.out, rfl, hNK.out, hBN.out⟩
                case measure => simp [intOf]; omega
        · have hkm : k = m := by omega
          subst hkm
          rw [Nat.sub_self, iterE] at hit
          have hTH := Lib.hid hT
          have hBH := Lib.hid hB
          clear hT hB hAsc hlo
          go_wp2_with fail
          go_ret2
          rw [← hit]
          exact ⟨_, _, rfl, hTH.out, hBH.out⟩
end Go.Proofs.YthkamffmpejckaaGreatDoor

/- Walks: kernel.Reachable. -/
namespace Go.Proofs.YthkamffmpejckaaGreatDoor
open Go Go.RowKit Go.Maps

def kr1Rel (g : List (List Int)) (w : World) (out i : Value) (wr : World) : Prop :=
  ∃ k : Nat, i = .int .i64 k ∧ k ≤ g.length ∧ OwnTs (fun _ => True) wr w.heap.size out ((g.take k).map canon) ∧ Below w.heap.size w wr
def kr2Rel (s : Sg) (m : Nat) (R : List (List Int) × Int) (w : World) (out i : Value) (wr : World) : Prop :=
  ∃ (k : Nat) (l : List (List Int)), i = .int .i64 k ∧ k ≤ m ∧ iterE s (m - k) l = R ∧ Asc l ∧ l.length ≤ 60 ∧ (∀ t ∈ l, okT s t = true) ∧ OwnTs (fun _ => True) wr w.heap.size out l ∧ Below w.heap.size w wr
def kr3Rel (s : Sg) (l : List (List Int)) (w1 : World) (nx i : Value) (wr : World) : Prop :=
  ∃ k : Nat, i = .int .i64 k ∧ k ≤ l.length ∧ OwnTs (fun _ => True) wr w1.heap.size nx (l ++ detsL s l k) ∧ Below w1.heap.size w1 wr
def kr4Rel (s : Sg) (l X : List (List Int)) (u : List Int) (w1 : World) (nx j : Value) (wr : World) : Prop :=
  ∃ k : Nat, j = .int .i64 k ∧ k ≤ l.length ∧ OwnTs (fun _ => True) wr w1.heap.size nx (X ++ rowD s u (l.take k)) ∧ Below w1.heap.size w1 wr
set_option maxRecDepth 20000 in
set_option maxHeartbeats 8000000 in
theorem Reach_any {S1 S2 : Nat → Prop} (a1 ag : Option Addr) (c1 cg : Nat) (s : Sg) (g : List (List Int)) (most : Int) (w : World) (h1 : Sign S1 w a1 c1 s) (h2 : Terms S2 w ag cg g) :
    Calls Tryz.prog 27 #[.slice a1 s.length c1, .slice ag g.length cg, .int .i64 most] w (retTE (reachE s g most) w) := by
  have m1 := h1.le
  have m2 := h2.le
  have v1 := Lib.hid (ValidGivens_any a1 ag c1 cg s g w h1 h2)
  cases hg : givensB s g with
  | false =>
    rw [hg] at v1
    have hR := Lib.hid (show reachE s g most = ([], 1) by rw [reachE, if_neg (by simp [hg])])
    clear h1 h2 hg
    go_enter Tryz.func27, Tryz.ntmps27
    go_wp2_with fail
    refine v1.out.mono ?_
    rintro e w1 ⟨rfl, hb1⟩
    go_wp2_with fail
    go_ret2
    rw [hR.out]
    exact ⟨_, rfl, .nil _ _ _ _ _, hb1⟩
  | true =>
  rw [hg] at v1
  have v2 := Lib.hid (fun W => kwithin_any most 0 3 W)
  cases hm : (decide (0 ≤ most) && decide (most ≤ 3)) with
  | false =>
    rw [hm] at v2
    have hR := Lib.hid (show reachE s g most = ([], 7) by rw [reachE, if_pos hg, if_neg (by simp [hm])])
    clear h1 h2 hg hm
    go_enter Tryz.func27, Tryz.ntmps27
    go_wp2_with fail
    refine v1.out.mono ?_
    rintro e w1 ⟨rfl, hb1⟩
    go_wp2_with fail
    refine (v2.out _).mono ?_
    rintro e w2 ⟨rfl, rfl⟩
    go_wp2_with fail
    go_ret2
    rw [hR.out]
    exact ⟨_, rfl, .nil _ _ _ _ _, hb1⟩
  | true =>
  rw [hm] at v2
  obtain ⟨-, hgl, hgo⟩ := givensB_parts hg
  have hm' : 0 ≤ most ∧ most ≤ 3 := by simpa using hm
  obtain ⟨m, rfl⟩ : ∃ m : Nat, most = (m : Int) := ⟨most.toNat, by omega⟩
  have hm3 : m ≤ 3 := by omega
  obtain ⟨R, hR⟩ : ∃ R, iterE s m (sortedL (g.map canon)) = R := ⟨_, rfl⟩
  have hRR : reachE s g (m : Int) = R := by rw [reachE, if_pos hg, if_pos hm, Int.toNat_natCast, hR]
  rw [hRR]
  have hmapok : ∀ t ∈ sortedL (g.map canon), okT s t = true := fun t ht => by
    obtain ⟨u, hu, rfl⟩ := List.mem_map.1 (mem_sortedL.1 ht)
    exact okT_canon (hgo u hu)
  have hmapl : (sortedL (g.map canon)).length ≤ 60 := by have := sortedL_len (g.map canon); rw [List.length_map] at this; omega
  have cC := Lib.hid (fun W (hb : Below w.heap.size w W) (a : Option Addr) (c : Nat) (u : List Int) (S : Nat → Prop) (hi : Ints S W a c u) => Canonical_any a1 a c1 c s u W (h1.below hb) hi)
  have cD := Lib.hid (fun W (hb : Below w.heap.size w W) (a b : Option Addr) (c d : Nat) (u y : List Int) (S T : Nat → Prop) (hi : Ints S W a c u) (hj : Ints T W b d y) => Detach_any a1 a b c1 c d s u y W (h1.below hb) hi hj)
  have h2H := Lib.hid h2
  have hgoH := Lib.hid hgo
  have hRH := Lib.hid hR
  have hmapokH := Lib.hid hmapok
  have hmaplH := Lib.hid hmapl
  clear h1 h2 hg hm hm' hgo hR hRR hmapok hmapl
  go_enter Tryz.func27, Tryz.ntmps27
  go_wp2_with fail
  refine v1.out.mono ?_
  rintro e w1 ⟨rfl, hb1⟩
  go_wp2_with fail
  refine (v2.out _).mono ?_
  rintro e w2 ⟨rfl, rfl⟩
  have hb1H := Lib.hid hb1
  clear v1 v2 hb1
  go_wp2_with fail
  go_loopw [8, 31] (fun out i wr => kr1Rel g w out i wr) (fun _ i _ => g.length - (intOf i).toNat)
  case atStart => exact ⟨0, rfl, Nat.zero_le _, .nil _ _ _ _ _, hb1H.out⟩
  case round =>
    obtain ⟨k, rfl, hk, ho, hB⟩ := hrel
    by_cases hlt : k < g.length
    · obtain ⟨bg, og, ai, ci, rfl, -, qi, hIi⟩ := (h2H.out.below hB).sub k hlt
      have hok := hgoH.out _ (List.getElem_mem hlt)
      have htk : (g.take (k + 1)).map canon = (g.take k).map canon ++ [canon g[k]] := by rw [List.take_succ_eq_append_getElem hlt, List.map_append]; rfl
      have hlen : ((g.take k).map canon).length + 1 ≤ 1000000 := by rw [List.length_map, List.length_take]; omega
      obtain ⟨u, hu⟩ : ∃ u, g[k] = u := ⟨_, rfl⟩
      rw [hu] at qi hIi hok htk
      have cc := Lib.hid (cC.out wr hB ai ci u _ hIi)
      have hpush := fun W (hb : Below wr.heap.size wr W) a4 c4 (hi : Ints (fun b => wr.heap.size ≤ b) W a4 c4 (canon u)) => Ts_pushF ho hB hb hi hlen
      have hpushH := Lib.hid hpush
      have htkH := Lib.hid htk
      have hokH := Lib.hid hok
      clear ho hIi hpush htk hok hu hlen
      go_wp2_with fail
      (with_reducible refine cc.out.mono ?_)
      rintro e w3 ⟨v3, n3, rfl, hb3, -, ht3⟩
      obtain ⟨rfl, ho3⟩ := ht3 hokH.out
      obtain ⟨a4, c4, rfl, hI4⟩ := OwnI.ints ho3
      obtain ⟨v', w', hrun', ho', hB'⟩ := hpushH.out w3 hb3 a4 c4 hI4
      clear cc hpushH ht3 ho3 hI4 hb3 hokH hB
      go_wp2_with (at_builtin; refine wpList_append_run rfl _ _ _ rfl rfl rfl hrun'.out ?_)
      go_roundw
      case rel => exact ⟨k + 1, by go_num, by omega, by rw [htkH.out]; exact ho'.out, hB'.out⟩
      case measure => simp [intOf]; omega
    · have hkk : k = g.length := by omega
      subst hkk
      rw [List.take_length] at ho
      have hlen : (g.map canon).length ≤ 1000000 := by rw [List.length_map]; omega
      have cs := Lib.hid (ksorted_any ho hlen)
      have hlo := OwnL.lt ho
      have hloH := Lib.hid hlo
      have hBH := Lib.hid hB
      clear ho hlo hB hlen
      go_wp2_with fail
      (with_reducible refine cs.out.mono ?_)
      rintro e w4 ⟨v4, rfl, ho4, hg4⟩
      have hB4 : Below w.heap.size w w4 := hBH.out.grown hg4 hBH.out.size (fun j e => (hloH.out j e).1)
      have ho4H := Lib.hid ho4
      have hB4H := Lib.hid hB4
      clear cs hloH hBH hg4 ho4 hB4 hgoH h2H hb1H
      go_wp2_with fail
      go_loopw [8, 49] (fun out i wr => kr2Rel s m R w out i wr) (fun _ i _ => m - (intOf i).toNat)
      case atStart => exact ⟨0, _, rfl, Nat.zero_le _, hRH.out, sortedL_isAsc _, hmaplH.out, hmapokH.out, ho4H.out, hB4H.out⟩
      case round =>
        obtain ⟨k, l, rfl, hk, hit, hAsc, hl60, hlo, ho, hB⟩ := hrel
        by_cases hlt : k < m
        · obtain ⟨w5, hw5⟩ : ∃ w5, w5 = wr := ⟨_, rfl⟩
          subst hw5
          obtain ⟨aL, cL, rfl, hT⟩ := OwnL.sl ho
          have mL := hT.le
          have ccl := Lib.hid (CloneT_any aL cL l w5 hT (by unfold lim; omega))
          have hTH := Lib.hid hT
          have hB5H := Lib.hid hB
          have hitH := Lib.hid hit
          have hAscH := Lib.hid hAsc
          have hloH := Lib.hid hlo
          clear ho hT hB hit hAsc hlo
          go_wp2_with fail
          (with_reducible refine ccl.out.mono ?_)
          rintro e w6 ⟨v6, rfl, ho6, hb6⟩
          have ho6H := Lib.hid (OwnL.weak (S' := fun _ => True) ho6 (fun _ _ _ => trivial))
          have hb6H := Lib.hid hb6
          clear ccl ho6 hb6
          go_wp2_with fail
          go_loopw [13, 55] (fun nx i wr => kr3Rel s l w5 nx i wr) (fun _ i _ => l.length - (intOf i).toNat)
          case atStart => exact ⟨0, rfl, Nat.zero_le _, by rw [detsL, List.append_nil]; exact ho6H.out, hb6H.out⟩
          case round =>
            obtain ⟨i, rfl, hi, ho, hB⟩ := hrel
            by_cases hlt2 : i < l.length
            · obtain ⟨bL, oL, ai, ci, rfl, -, qi, hIi⟩ := hTH.out.sub i hlt2
              obtain ⟨u, hu⟩ : ∃ u, l[i] = u := ⟨_, rfl⟩
              rw [hu] at qi hIi
              obtain ⟨X, hX⟩ : ∃ X, l ++ detsL s l i = X := ⟨_, rfl⟩
              rw [hX] at ho
              have hXl : X.length ≤ 3660 := by
                have := reach_bound (s := s) hl60 (k := i) (by omega)
                rw [← hX, List.length_append]; omega
              have hXs : l ++ detsL s l (i + 1) = X ++ rowD s u (l.take l.length) := by rw [detsL_succ hlt2, hu, List.take_length, ← hX, List.append_assoc]
              have qi7 := cell_later hB qi
              have hoH := Lib.hid ho
              have hB7H := Lib.hid hB
              have hIiH := Lib.hid hIi
              have hXsH := Lib.hid hXs
              clear ho hB hu hX hXs hIi
              go_wp2_with fail
              clear qi7
              go_loopw [13, 61] (fun nx j wr => kr4Rel s l X u w5 nx j wr) (fun _ j _ => l.length - (intOf j).toNat)
              case atStart => exact ⟨0, rfl, Nat.zero_le _, by rw [List.take_zero, rowD, List.append_nil]; exact hoH.out, hB7H.out⟩
              case round =>
                obtain ⟨j, rfl, hj, ho, hB⟩ := hrel
                by_cases hlt3 : j < l.length
                · obtain ⟨bL2, oL2, aj, cj, e', -, qj, hIj⟩ := hTH.out.sub j hlt3
                  simp only [Option.some.injEq, Addr.mk.injEq, and_true] at e'
                  obtain ⟨rfl, rfl⟩ := e'
                  have hrow := rowD_succ (s := s) (m := u) hlt3
                  obtain ⟨y, hy⟩ : ∃ y, l[j] = y := ⟨_, rfl⟩
                  rw [hy] at qj hIj hrow
                  have cd := cD.out wr (bcall hB5H.out hB) ai aj ci cj u y _ _ (hIiH.out.below hB) (hIj.below hB)
                  obtain ⟨T, E, hTE⟩ : ∃ T E, detE s u y = (T, E) := ⟨_, _, rfl⟩
                  rw [hTE] at cd hrow
                  dsimp only at hrow
                  have hYl : (X ++ rowD s u (l.take j)).length + 1 ≤ 1000000 := by
                    have := rowD_len s u (l.take j)
                    rw [List.length_take] at this
                    rw [List.length_append]; omega
                  have hpush := fun W (hb : Below wr.heap.size wr W) a4 c4 (hi : Ints (fun b => wr.heap.size ≤ b) W a4 c4 T) => Ts_pushF ho hB hb hi hYl
                  have qj8 := cell_later hB qj
                  have cdH := Lib.hid cd
                  have hpushH := Lib.hid hpush
                  have hrowH := Lib.hid hrow
                  have hoJ := Lib.hid (fun W (hb : Below wr.heap.size wr W) => OwnL.call ho hb)
                  have hBJ := Lib.hid (fun W (hb : Below wr.heap.size wr W) => bcall hB hb)
                  clear ho hB cd hpush hrow hTE hy hIj hYl qi qj
                  by_cases hE : E = 0
                  · subst hE
                    go_wp2_with fail
                    (with_reducible refine cdH.out.mono ?_)
                    rintro e w8 ⟨vD, rfl, hoD, hbD⟩
                    obtain ⟨a4, c4, rfl, hI4⟩ := OwnI.ints hoD
                    obtain ⟨v', w', hrun', ho', hB'⟩ := hpushH.out w8 hbD a4 c4 hI4
                    have hrow := hrowH.out
                    rw [if_pos trivial] at hrow
                    have hrowK := Lib.hid hrow
                    clear hpushH hoD hI4 hbD cdH hoJ hBJ hrow hrowH qj8
                    go_wp2_with (at_builtin; refine wpList_append_run rfl _ _ _ rfl rfl rfl hrun'.out ?_)
                    go_roundw
                    case rel => exact ⟨j + 1, by go_num, by omega, by rw [hrowK.out, ← List.append_assoc]; exact ho'.out, hB'.out⟩
                    case measure => simp [intOf]; omega
                  · have hne : (E == 0) = false := by simpa using hE
                    have hrow := hrowH.out
                    rw [if_neg hE, List.append_nil] at hrow
                    have hrowK := Lib.hid hrow
                    clear hE hrow hrowH hpushH
                    go_wp2_with fail
                    (with_reducible refine cdH.out.mono ?_)
                    rintro e w8 ⟨vD, rfl, hoD, hbD⟩
                    have hoK := Lib.hid (hoJ.out _ hbD)
                    have hBK := Lib.hid (hBJ.out _ hbD)
                    clear hoD hbD cdH hoJ hBJ qj8
                    go_wp2_with fail
                    go_roundw
                    case rel => exact ⟨j + 1, by go_num, by omega, by rw [hrowK.out]; exact hoK.out, hBK.out⟩
                    case measure => simp [intOf]; omega
                · have hjj : j = l.length := by omega
                  subst hjj
                  have hoK := Lib.hid ho
                  have hBK := Lib.hid hB
                  clear ho hB qi
                  go_wp2_with fail
                  go_roundw
                  case rel => exact ⟨i + 1, by go_num, by omega, by rw [hXsH.out]; exact hoK.out, hBK.out⟩
                  case measure => simp [intOf]; omega
            · have hii : i = l.length := by omega
              subst hii
              have hb := reach_bound (s := s) hl60 (Nat.le_refl _)
              have cs := ksorted_any ho (by rw [List.length_append]; omega)
              rw [stepW_sorted hAscH.out] at cs
              have hasc2 := stepW_asc (s := s) hAscH.out
              have hok2 := stepW_ok hAscH.out hloH.out
              have hit2 : iterE s (m - k) l = if 60 < (stepW s l).length then ([], 4) else iterE s (m - (k + 1)) (stepW s l) := by
                rw [show m - k = (m - (k + 1)) + 1 by omega, iterE]
              rw [hitH.out] at hit2
              obtain ⟨l2, hl2⟩ : ∃ l2, stepW s l = l2 := ⟨_, rfl⟩
              rw [hl2] at cs hasc2 hok2 hit2
              have csH := Lib.hid cs
              have hltH := Lib.hid (OwnL.lt ho)
              have hBH := Lib.hid hB
              have hascH := Lib.hid hasc2
              have hokH := Lib.hid hok2
              have hitK := Lib.hid hit2
              clear ho hB cs hasc2 hok2 hit2 hl2 hb
              go_wp2_with fail
              (with_reducible refine csH.out.mono ?_)
              rintro e w9 ⟨v9, rfl, ho9, hg9⟩
              have hB9 : Below w5.heap.size w5 w9 := hBH.out.grown hg9 hBH.out.size (fun j e => (hltH.out j e).1)
              obtain ⟨aN, cN, rfl, hTN⟩ := OwnL.sl ho9
              have mN := hTN.le
              have hoN := Lib.hid (OwnL.baseMono (base' := w.heap.size) ho9 hB5H.out.size)
              have hBN := Lib.hid (bcall hB5H.out hB9)
              clear ho9 hg9 hB9 hTN csH hBH hltH
              by_cases h60 : 60 < l2.length
              · have hd : decide (60 < (l2.length : Int)) = true := by simp; omega
                have hit := hitK.out
                rw [if_pos h60] at hit
                have hitL := Lib.hid hit
                clear hit hitK
                go_wp2_with fail
                go_ret2
                rw [hitL.out]
                exact ⟨_, rfl, .nil _ _ _ _ _, hBN.out⟩
              · have hd : decide (60 < (l2.length : Int)) = false := by simp; omega
                have hit := hitK.out
                rw [if_neg h60] at hit
                have hitL := Lib.hid hit.symm
                clear hit hitK
                go_wp2_with fail
                go_roundw
                case rel => exact ⟨k + 1, l2, by go_num, by omega, hitL.out, hascH.out, by omega, hokH.out, hoN.out, hBN.out⟩
                case measure => simp [intOf]; omega
        · have hkm : k = m := by omega
          subst hkm
          rw [Nat.sub_self, iterE] at hit
          obtain ⟨aL, cL, rfl, hT⟩ := OwnL.sl ho
          have hoH := Lib.hid ho
          have hBH := Lib.hid hB
          clear hT ho hB hAsc hlo
          go_wp2_with fail
          go_ret2
          rw [← hit]
          exact ⟨_, rfl, hoH.out, hBH.out⟩
end Go.Proofs.YthkamffmpejckaaGreatDoor

/- The law KernelReaches, walked. -/
namespace Go.Proofs.YthkamffmpejckaaGreatDoor
open Go Go.RowKit Go.Maps

set_option maxRecDepth 100000 in
set_option maxHeartbeats 8000000 in
theorem KernelReaches_walk {S1 S2 : Nat → Prop} (a1 : Option Addr) (k1 : Nat) (s : Sg) (ag : Option Addr) (cg : Nat) (g : List (List Int)) (most : Int) (w : World) (h1 : Sign S1 w a1 k1 s) (h2 : Terms S2 w ag cg g) :
    Calls Tryz.prog 6 #[.slice a1 s.length k1, .slice ag g.length cg, .int .i64 most] w fun e w' => e = .returned (.bool true) ∧ Below w.heap.size w w' := by
  have m1 := h1.le
  have m2 := h2.le
  have csH := Lib.hid (Small_any a1 ag k1 cg s g w h1 h2)
  have awH := Lib.hid (fun W' (hb : Below w.heap.size w W') => aw4_from hb (Nat.le_refl _))
  have kr := Lib.hid (Reach_any a1 ag k1 cg s g most w h1 h2)
  have rr := Lib.hid (fun W (hb : Below w.heap.size w W) => rReach_any a1 ag k1 cg s g most W (h1.below hb) (h2.below hb))
  clear h1 h2
  by_cases h8 : 8 < g.length
  · have hd : decide (8 < (g.length : Int)) = true := by simp; omega
    go_enter Tryz.func6, Tryz.ntmps6
    go_wp2_with fail
    refine (awH.out _ (.refl _ _)).mono ?_
    rintro e w2 ⟨rfl, hb2⟩
    go_wp2_with fail
    go_ret
    exact ⟨rfl, hb2⟩
  have hd : decide (8 < (g.length : Int)) = false := by simp; omega
  cases hsm : smallT s g with
  | false =>
    rw [hsm] at csH
    go_enter Tryz.func6, Tryz.ntmps6
    go_wp2_with fail
    refine csH.out.mono ?_
    rintro e w1 ⟨rfl, rfl⟩
    go_wp2_with fail
    refine (awH.out _ (.refl _ _)).mono ?_
    rintro e w2 ⟨rfl, hb2⟩
    go_wp2_with fail
    go_ret
    exact ⟨rfl, hb2⟩
  | true =>
  rw [hsm] at csH
  obtain ⟨⟨L, E⟩, hR⟩ : ∃ r, reachE s g most = r := ⟨_, rfl⟩
  rw [hR] at kr rr
  clear hR hsm
  go_enter Tryz.func6, Tryz.ntmps6
  go_wp2_with fail
  refine csH.out.mono ?_
  rintro e w1 ⟨rfl, rfl⟩
  clear csH
  go_wp2_with fail
  refine kr.out.mono ?_
  rintro e w1 ⟨v1, rfl, o1, hb1⟩
  obtain ⟨a1', d1, rfl, t1⟩ := OwnL.sl o1
  have t1H := Lib.hid t1
  clear o1 t1 kr
  go_wp2_with fail
  refine (rr.out _ hb1).mono ?_
  rintro e w2 ⟨a2', d2, rfl, t2, hb2⟩
  have cs2 := Lib.hid (SameTerms_any a1' a2' d1 d2 L L w2 (t1H.out.below hb2) t2)
  have hb2 := bcall hb1 hb2
  clear t2 t1H rr hb1
  go_wp2_with fail
  refine cs2.out.mono ?_
  rintro e w3 ⟨rfl, hd3⟩
  have aw := Lib.hid (awH.out _ (bcall hb2 (hd3.below _)))
  clear cs2 hb2 hd3
  go_wp2_with fail
  refine aw.out.mono ?_
  rintro e w4 ⟨rfl, hb4⟩
  go_wp2_with fail
  go_ret
  exact ⟨by simp, hb4⟩
end Go.Proofs.YthkamffmpejckaaGreatDoor

/- The card of KernelReaches: for every input KernelReaches returns true and leaves its arguments as they were; the listed variables are tied to the program's text. No condition. -/
namespace Go.Proofs.YthkamffmpejckaaGreatDoor
open Go Go.RowKit Go.ChangeShapes Go.WideShapes Go.ChangeAt

theorem kernelReaches_door (os : Os) (args : Array Value) : laidMetH Tryz.prog Rows.kernelReachesRow.laid ((World.doorLaid Tryz.prog 400 os).forCall (fun _ _ => 0) ⟨#[], args, []⟩).memory :=
  laidMetH_of_parts3 (fuel := 8) (laidMet_of_run' 8 (by kernel_rfl) (by kernel_rfl)) (by kernel_rfl) (by kernel_rfl)
set_option maxRecDepth 100000 in
theorem kernelReaches_lifted (os : Os) (started : os.Started) (H : Type) (enc : TypeId × Value → H) :
    ReturnsInHanded {} Tryz.checked os 6 .any (fun w args => (Rows.kernelReachesSpec.pre enc Tryz.prog Tryz.f6 [] false w args ∧ laidMetH Tryz.prog Rows.kernelReachesRow.laid w) ∧ sizedMet enc Tryz.prog Tryz.f6 (OpenSpec.ofChange Rows.kernelReachesSpec) false w args)
      (Rows.kernelReachesSpec.post enc Tryz.prog Tryz.f6 false true false false) := by
  refine returnsInHanded_of_change_and (C := Tryz.checked) (X := fun w _ => laidMetH Tryz.prog Rows.kernelReachesRow.laid w) (fun _ _ _ hh h => h.of_heap hh) Tryz.own started (by kernel_rfl) Tryz.func6
    (ChangeSpec.witness_shaped (enc := enc) (C := Tryz.checked) (os := os) (X := fun w _ => laidMetH Tryz.prog Rows.kernelReachesRow.laid w) false (World.doorLaid Tryz.prog 400 os) #[.slice none 0 0, .slice none 0 0, .int .i64 0] 8 rfl (World.shaped_of_RefB (by kernel_rfl) (by kernel_rfl)) (by kernel_rfl) (by kernel_rfl) (by kernel_rfl) (kernelReaches_door os _)) ?_
  intro W base args ds gs before hval0 hW _ _ hL _
  clear hL
  have hval : ∀ (j : Nat) t v, Tryz.f6.params[j]? = some t → args[j]? = some v → Value.okWide Tryz.prog W .any base t v := hval0
  have hW' := hW
  obtain ⟨p, q, hA0, hV, rfl, hfz, hnd⟩ := hW
  have hA : DataW.TrodAll enc Tryz.prog W 0 (fun _ => true) true Tryz.f6.params.toList args.toList ds p := hA0
  rw [Tryz.params6] at hA hval
  obtain ⟨v0, v1, v2, d0, d1, d2, p0, p1, p2, rfl, rfl, rfl, h0, h1, h2⟩ := trodAll_three hA
  obtain ⟨rfl, rfl⟩ := trodVars_none hV
  clear hA0 hval0
  simp only [List.append_nil] at hW'
  have hlt : ∀ x ∈ p0 ++ (p1 ++ p2), x.block < W.heap.size := fun x hx => hW'.lt x (by simpa using hx)
  have keep0 := fun (W' : World) (hn : Below W.heap.size W W') => Below.trod Tryz.laidOut (by kernel_rfl) (of_decide_eq_true (by kernel_rfl)) h0 hn (fun x hx => hlt x (by simp [hx]))
  have keep1 := fun (W' : World) (hn : Below W.heap.size W W') => Below.trod Tryz.laidOut (by kernel_rfl) (of_decide_eq_true (by kernel_rfl)) h1 hn (fun x hx => hlt x (by simp [hx]))
  have keep2 := fun (W' : World) (hn : Below W.heap.size W W') => Below.trod Tryz.laidOut (by kernel_rfl) (of_decide_eq_true (by kernel_rfl)) h2 hn (fun x hx => hlt x (by simp [hx]))
  obtain ⟨l0, a0, c0, rfl, r0⟩ := gSign.arg h0 (okWide_slice Tryz.underlying23 (hval 0 23 v0 rfl rfl))
  obtain ⟨l1, a1, c1, rfl, r1⟩ := gTerms.arg h1 (okWide_slice Tryz.underlying24 (hval 1 24 v1 rfl rfl))
  obtain ⟨x2, rfl, rfl, rfl, wx2⟩ := open_int Tryz.underlying3 (hval 2 3 v2 rfl rfl) h2
  refine (KernelReaches_walk _ _ _ _ _ _ _ W r0 r1).mono fun e W' ⟨he, hB⟩ => ?_
  subst he
  exact ⟨_, rfl, _, _, _, [], _, [], hW', trodAll_mk1 (shut_bool Tryz.underlying4 true), trodAll_mk3 (keep0 _ hB) (keep1 _ hB) (keep2 _ hB), rfl, hB.frame _, fun h => by cases h⟩

/-- KernelReaches: for every input it returns true, and each argument reads as it did. -/
theorem kernelReaches_holds : Rows.KernelReachesSaid :=
  OpenClaim.holds_of_wide 6 Tryz.f6 rfl rfl rfl rfl rfl rfl rfl ⟨rfl, rfl, rfl, rfl, rfl⟩ rfl rfl rfl rfl rfl (by kernel_rfl) Tryz.func6 (by kernel_rfl)
    (of_decide_eq_true (by kernel_rfl)) (by unfold Func.isWrapper; first | (rw [if_pos (by decide +kernel)]; kernel_rfl) | (rw [if_neg (by decide +kernel)]; exact ⟨rfl, rfl⟩))
    (fun os started H enc _ => kernelReaches_lifted os started H enc)
/-- the card of KernelReaches -/
theorem kernelReaches_card_holds : Rows.KernelReachesCardSaid :=
  Claim7.holds_tied_plain_at .later [] [.data, .data, .data, .sentinel, .sentinel] true Rows.kernelReachesCard.stood.harness Rows.kernelReachesCard.stood.looks
    kernelReaches_holds (fun _ h => by cases h) (by kernel_rfl) (fun _ h => by cases h) kernelReaches_row_tie rfl ⟨rfl, rfl⟩ (by kernel_rfl) rfl
    (fun f fn hf hfn => by
      obtain rfl : f = 6 := Option.some.inj ((show Tryz.prog.funcNamed Rows.kernelReachesRow.func = some 6 by kernel_rfl).symm.trans hf) |>.symm
      obtain rfl : fn = Tryz.f6 := (Option.some.inj (Tryz.func6.symm.trans hfn)).symm
      exact ⟨by kernel_rfl, fun j t ht => by
        rw [Tryz.params6] at ht
        have hm : t ∈ [23, 24, 3] := by simpa using Array.mem_of_getElem? ht
        have hall : ([23, 24, 3].all fun u => !Tryz.prog.wantsStandIn u) = true := by kernel_rfl
        exact (show Tryz.prog.wantsStandIn t = false by simpa using List.all_eq_true.1 hall t hm)⟩)
    (by kernel_rfl)
end Go.Proofs.YthkamffmpejckaaGreatDoor
