/- The proof of one statement, its texts joined in build order, part 1 of 4. Each part below begins with its own remark. -/
import Derived.WalkKit
import Derived.WalkSpells
import Derived.WalkLawsBesides
import Derived.BigQuiet
import Derived.Deep.QuietTactic
import Derived.Lib.Hide
import Derived.Laws.EntriesVeiled
import Derived.Test.YtgkddhakhapjlaaGreatDoorRows
import Derived.Maps.OwnSet
import Derived.Maps.OwnOps
import Derived.Maps.Views
import Derived.StringKeys
import Derived.Maps.AppendAt
import Derived.Deep.Onto
/- Terms as lists of numbers written head first: the plain functions that the program's layer 1 computes, and their laws. No program is named. -/
namespace Go.Proofs.YtgkddhakhapjlaaGreatDoor

abbrev Sg := List (ByteArray × Int)

def isLet (b : UInt8) : Bool := (decide (97 ≤ b.toNat) && decide (b.toNat ≤ 122)) || (decide (65 ≤ b.toNat) && decide (b.toNat ≤ 90))
def nameOk (s : ByteArray) : Bool := decide (1 ≤ s.size) && decide (s.size ≤ 8) && s.data.toList.all isLet
def entOk (x : ByteArray × Int) : Bool := nameOk x.1 && (decide (0 ≤ x.2) && decide (x.2 ≤ 3))
def okSign (s : Sg) : Bool :=
  decide (1 ≤ s.length) && decide (s.length ≤ 12) && s.all entOk && decide ((s.map (·.1)).Nodup) && decide ((s.getD 0 default).2 = 2)

/-- the number of arguments of a number; -1 for none -/
def arC (s : Sg) (n : Int) : Int :=
  if -12 ≤ n ∧ n ≤ -1 then 0 else if 0 ≤ n ∧ n < s.length then (s.getD n.toNat default).2 else -1
def codeOk (s : Sg) (n : Int) : Bool := decide (-12 ≤ n ∧ n ≤ -1) || decide (0 ≤ n ∧ n < s.length)
def ar (s : Sg) (n : Int) : Nat := (arC s n).toNat

/-- what is left behind k terms -/
def skip (s : Sg) : Nat → List Int → Option (List Int)
  | 0, l => some l
  | _ + 1, [] => none
  | k + 1, n :: r => if codeOk s n then skip s (k + ar s n) r else none

def okT (s : Sg) (t : List Int) : Bool := okSign s && (decide (1 ≤ t.length) && decide (t.length ≤ 60)) && decide (skip s 1 t = some [])

theorem skip_zero (s : Sg) (l : List Int) : skip s 0 l = some l := by cases l <;> rfl
theorem skip_nil (s : Sg) (k : Nat) : skip s (k + 1) [] = none := rfl
theorem skip_cons (s : Sg) (k : Nat) (n : Int) (r : List Int) : skip s (k + 1) (n :: r) = if codeOk s n then skip s (k + ar s n) r else none := rfl

theorem skip_add (s : Sg) (j k : Nat) (l : List Int) : skip s (j + k) l = (skip s j l).bind (skip s k) := by
  induction l generalizing j with
  | nil => cases j with
    | zero => simp [skip_zero]
    | succ j => rw [show j + 1 + k = (j + k) + 1 by omega]; rfl
  | cons n r ih => cases j with
    | zero => simp [skip_zero]
    | succ j =>
      rw [show j + 1 + k = (j + k) + 1 by omega, skip_cons, skip_cons]
      split
      · rw [show j + k + ar s n = j + ar s n + k by omega, ih]
      · rfl

theorem skip_append (s : Sg) (k : Nat) (l x : List Int) (r : List Int) (h : skip s k l = some r) : skip s k (l ++ x) = some (r ++ x) := by
  induction l generalizing k with
  | nil => cases k with
    | zero => simp only [skip_zero, Option.some.injEq] at h ⊢; rw [← h]
    | succ k => simp [skip_nil] at h
  | cons n t ih => cases k with
    | zero => simp only [skip_zero, Option.some.injEq] at h ⊢; rw [← h]
    | succ k =>
      rw [skip_cons] at h
      rw [List.cons_append, skip_cons]
      split at h
      · rw [if_pos ‹_›]; exact ih _ h
      · cases h

theorem skip_split (s : Sg) (k : Nat) (l r : List Int) (h : skip s k l = some r) : ∃ u, l = u ++ r ∧ skip s k u = some [] ∧ k ≤ u.length := by
  induction l generalizing k with
  | nil => cases k with
    | zero => simp only [skip_zero, Option.some.injEq] at h; subst h; exact ⟨[], rfl, rfl, Nat.le_refl _⟩
    | succ k => simp [skip_nil] at h
  | cons n t ih => cases k with
    | zero => simp only [skip_zero, Option.some.injEq] at h; subst h; exact ⟨[], rfl, rfl, Nat.zero_le _⟩
    | succ k =>
      rw [skip_cons] at h
      split at h
      · rename_i hc
        obtain ⟨u, rfl, hu, hl⟩ := ih _ h
        exact ⟨n :: u, rfl, by rw [skip_cons, if_pos hc, hu], by simp; omega⟩
      · cases h

theorem skip_len (s : Sg) (k : Nat) (l r : List Int) (h : skip s k l = some r) : r.length + k ≤ l.length := by
  obtain ⟨u, rfl, _, hl⟩ := skip_split s k l r h
  simp; omega

/-! ### where a term ends, and its depth -/
def endOf (s : Sg) (t : List Int) (k : Int) : Int :=
  if 0 ≤ k ∧ k < t.length then (match skip s 1 (t.drop k.toNat) with | some r => (t.length : Int) - r.length | none => -1) else -1
def depArgs (g : List Int → Nat) (s : Sg) : Nat → List Int → Nat
  | 0, _ => 0
  | k + 1, l => max (g l) (depArgs g s k ((skip s 1 l).getD []))
def dep (s : Sg) : Nat → List Int → Nat
  | 0, _ => 0
  | _ + 1, [] => 0
  | f + 1, n :: r => depArgs (dep s f) s (ar s n) r + 1

theorem depArgs_le (g : List Int → Nat) (s : Sg) (B : Nat) (hg : ∀ l, g l ≤ B) : ∀ k l, depArgs g s k l ≤ B
  | 0, _ => Nat.zero_le _
  | k + 1, l => by unfold depArgs; have := depArgs_le g s B hg k ((skip s 1 l).getD []); have := hg l; omega
theorem dep_le (s : Sg) : ∀ f l, dep s f l ≤ f
  | 0, _ => Nat.le_refl _
  | f + 1, [] => Nat.zero_le _
  | f + 1, n :: r => by unfold dep; have := depArgs_le (dep s f) s f (dep_le s f) (ar s n) r; omega
theorem depArgs_congr (g g' : List Int → Nat) (s : Sg) (B : Nat) (h : ∀ l, l.length ≤ B → g l = g' l) : ∀ k l, l.length ≤ B → depArgs g s k l = depArgs g' s k l
  | 0, _, _ => rfl
  | k + 1, l, hl => by
    unfold depArgs
    rw [h l hl, depArgs_congr g g' s B h k]
    cases hs : skip s 1 l with
    | none => simp
    | some r => have := skip_len s 1 l r hs; simp; omega
theorem dep_fuel (s : Sg) : ∀ f f' l, l.length ≤ f → l.length ≤ f' → dep s f l = dep s f' l
  | 0, 0, _, _, _ => rfl
  | 0, _ + 1, [], _, _ => rfl
  | _ + 1, 0, [], _, _ => rfl
  | _ + 1, _ + 1, [], _, _ => rfl
  | 0, _ + 1, _ :: _, h, _ => by simp at h
  | _ + 1, 0, _ :: _, _, h => by simp at h
  | f + 1, f' + 1, n :: r, h, h' => by
    unfold dep
    simp at h h'
    rw [depArgs_congr (dep s f) (dep s f') s r.length (fun l hl => dep_fuel s f f' l (by omega) (by omega)) _ _ (Nat.le_refl _)]
def depth (s : Sg) (t : List Int) : Nat := dep s t.length t

theorem endOf_out (s : Sg) (t : List Int) (k : Int) (h : ¬ (0 ≤ k ∧ k < t.length)) : endOf s t k = -1 := by rw [endOf, if_neg h]
theorem endOf_some (s : Sg) (t : List Int) (p : Nat) (r : List Int) (h : skip s 1 (t.drop p) = some r) : endOf s t p = (t.length - r.length : Nat) ∧ t.drop (t.length - r.length) = r ∧ p < t.length - r.length ∧ t.length - r.length ≤ t.length := by
  have hl := skip_len s 1 _ r h
  obtain ⟨u, hu, _, h1⟩ := skip_split s 1 _ r h
  simp at hl
  have e1 : u.length + r.length = t.length - p := by rw [← List.length_drop, hu, List.length_append]
  refine ⟨?_, ?_, by omega, by omega⟩
  · rw [endOf, if_pos ⟨by omega, by omega⟩, Int.toNat_natCast, h]; simp; omega
  · rw [show t.length - r.length = p + u.length by omega, ← List.drop_drop, hu]; simp
theorem endOf_none (s : Sg) (t : List Int) (p : Nat) (h : skip s 1 (t.drop p) = none) : endOf s t p = -1 := by
  unfold endOf
  split
  · rw [Int.toNat_natCast, h]
  · rfl
theorem endOf_cases (s : Sg) (t : List Int) (k : Int) : endOf s t k = -1 ∨ (0 ≤ k ∧ k < endOf s t k ∧ endOf s t k ≤ t.length) := by
  by_cases h : 0 ≤ k ∧ k < t.length
  · obtain ⟨p, rfl⟩ := Int.eq_ofNat_of_zero_le h.1
    cases hs : skip s 1 (t.drop p) with
    | none => exact .inl (endOf_none s t p hs)
    | some r => obtain ⟨h1, _, h3, h4⟩ := endOf_some s t p r hs; right; rw [h1]; omega
  · exact .inl (endOf_out s t k h)

/-- the loop over the arguments: what is known behind j of them -/
def EndInv (s : Sg) (t : List Int) (F m k : Nat) (next : Int) (deep j : Nat) : Prop :=
  deep ≤ F ∧ ((∃ p : Nat, next = p ∧ p ≤ t.length ∧ k < p ∧ skip s (m - j) (t.drop p) = skip s m (t.drop (k + 1)) ∧ (skip s m (t.drop (k + 1)) ≠ none → max deep (depArgs (dep s F) s (m - j) (t.drop p)) = depArgs (dep s F) s m (t.drop (k + 1)))) ∨
    (next = -1 ∧ skip s m (t.drop (k + 1)) = none))
theorem EndInv.start (s : Sg) (t : List Int) (F m k : Nat) (hk : k < t.length) : EndInv s t F m k ((k : Int) + 1) 0 0 :=
  ⟨Nat.zero_le _, .inl ⟨k + 1, by omega, by omega, by omega, by simp, by simp⟩⟩
theorem EndInv.next {s : Sg} {t : List Int} {F m k : Nat} {next : Int} {deep j : Nat} (h : EndInv s t F m k next deep j) : (k : Int) < next ∧ next ≤ t.length ∨ next = -1 := by
  rcases h.2 with ⟨p, rfl, h1, h2, _⟩ | ⟨rfl, _⟩
  · left; omega
  · right; rfl
theorem EndInv.step {s : Sg} {t : List Int} {F m k : Nat} {next : Int} {deep j d : Nat} (h : EndInv s t F m k next deep j) (hj : j < m) (hF : t.length - (k + 1) ≤ F) (hd : d ≤ F)
    (hdep : endOf s t next ≠ -1 → ∀ G, t.length - next.toNat ≤ G → d = dep s G (t.drop next.toNat)) : EndInv s t F m k (endOf s t next) (max deep d) (j + 1) := by
  refine ⟨by have := h.1; omega, ?_⟩
  rcases h.2 with ⟨p, rfl, h1, h2, h3, h4⟩ | ⟨rfl, h5⟩
  · have em : m - j = 1 + (m - (j + 1)) := by omega
    rw [em, skip_add] at h3
    cases hs : skip s 1 (t.drop p) with
    | none => right; rw [hs] at h3; exact ⟨endOf_none s t p hs, h3.symm⟩
    | some r =>
      obtain ⟨g1, g2, g3, g4⟩ := endOf_some s t p r hs
      left
      rw [hs] at h3
      refine ⟨t.length - r.length, g1, g4, by omega, by rw [g2]; exact h3, fun hne => ?_⟩
      rw [← h4 hne, g2]
      have e2 : depArgs (dep s F) s (m - j) (t.drop p) = max (dep s F (t.drop p)) (depArgs (dep s F) s (m - (j + 1)) r) := by
        rw [show m - j = (m - (j + 1)) + 1 by omega, depArgs, hs]; rfl
      have e3 : d = dep s F (t.drop p) := hdep (by rw [g1]; omega) F (by simp; omega)
      rw [e2, e3]; omega
  · right; exact ⟨endOf_out s t _ (by omega), h5⟩
theorem EndInv.done {s : Sg} {t : List Int} {F k : Nat} {n : Int} {next : Int} {deep : Nat} (hk : k < t.length) (hn : t[k] = n) (hc : codeOk s n = true) (h : EndInv s t F (ar s n) k next deep (ar s n)) (hF : t.length - (k + 1) ≤ F) :
    endOf s t k = next ∧ (next ≠ -1 → ∀ G, t.length - k ≤ G → deep + 1 = dep s G (t.drop k)) := by
  have ed : t.drop k = n :: t.drop (k + 1) := by rw [List.drop_eq_getElem_cons hk, hn]
  have es : skip s 1 (t.drop k) = skip s (ar s n) (t.drop (k + 1)) := by rw [ed, skip_cons, if_pos hc, Nat.zero_add]
  rcases h.2 with ⟨p, rfl, h1, h2, h3, h4⟩ | ⟨rfl, h5⟩
  · rw [Nat.sub_self, skip_zero] at h3
    obtain ⟨g1, g2, g3, g4⟩ := endOf_some s t k (t.drop p) (by rw [es, h3])
    refine ⟨by rw [g1]; simp; omega, fun _ G hG => ?_⟩
    obtain ⟨G', rfl⟩ : ∃ G', G = G' + 1 := ⟨G - 1, by omega⟩
    rw [ed, dep]
    have h5 := h4 (by rw [← h3]; simp)
    simp [depArgs] at h5
    rw [h5, depArgs_congr (dep s G') (dep s F) s (t.length - (k + 1)) (fun l hl => dep_fuel s _ _ l (by omega) (by omega)) _ _ (by simp)]
  · exact ⟨endOf_none s t k (by rw [es, h5]), fun h => (h rfl).elim⟩
theorem endOf_bad (s : Sg) (t : List Int) (k : Nat) (hk : k < t.length) (hc : codeOk s t[k] = false) : endOf s t k = -1 :=
  endOf_none s t k (by rw [List.drop_eq_getElem_cons hk, skip_cons, hc]; rfl)

theorem arC_ok {s : Sg} (hs : okSign s = true) {n : Int} (hc : codeOk s n = true) : arC s n = ar s n ∧ ar s n ≤ 3 := by
  unfold ar
  simp only [codeOk, Bool.or_eq_true, decide_eq_true_eq] at hc
  simp only [okSign, Bool.and_eq_true, List.all_eq_true, decide_eq_true_eq] at hs
  unfold arC
  split
  · simp
  · rename_i h1
    have h2 : 0 ≤ n ∧ n < s.length := by omega
    rw [if_pos h2, List.getD_eq_getElem?_getD, List.getElem?_eq_getElem (by omega)]
    have := hs.1.1.2 _ (List.getElem_mem (by omega : n.toNat < s.length))
    simp only [entOk, Bool.and_eq_true, decide_eq_true_eq] at this
    simp; omega
theorem arC_bad {s : Sg} {n : Int} (hc : codeOk s n = false) : arC s n = -1 := by
  simp only [codeOk, Bool.or_eq_false_iff, decide_eq_false_iff_not] at hc
  rw [arC, if_neg hc.1, if_neg hc.2]

/-! ### variables and canonical forms -/
def addV (acc : List Int) (n : Int) : List Int := if n < 0 ∧ n ∉ acc then acc ++ [n] else acc
/-- the numbers of the variables, in the order in which they come for the first time -/
def varsC (t : List Int) : List Int := t.foldl addV []
def canonW (v : List Int) (n : Int) : Int := if 0 ≤ n then n else -(v.idxOf n : Int) - 1
def canon (t : List Int) : List Int := t.map (canonW (varsC t))
def flat (t : List Int) : List Int := t.map (fun n => if n < 0 then -1 else n)

theorem varsC_take_succ {t : List Int} {k : Nat} (h : k < t.length) : varsC (t.take (k + 1)) = addV (varsC (t.take k)) t[k] := by
  unfold varsC
  rw [List.take_succ_eq_append_getElem h, List.foldl_append]; rfl
theorem addV_mem {acc : List Int} {n x : Int} : x ∈ addV acc n ↔ x ∈ acc ∨ (x = n ∧ n < 0) := by
  unfold addV
  split
  · rename_i h; simp [h.1]
  · rename_i h
    constructor
    · exact .inl
    · rintro (h' | ⟨rfl, hn⟩)
      · exact h'
      · exact Classical.byContradiction (fun hc => h ⟨hn, hc⟩)
theorem foldl_addV_prefix (t : List Int) : ∀ acc : List Int, acc <+: t.foldl addV acc := by
  induction t with
  | nil => intro acc; exact List.prefix_refl _
  | cons n r ih =>
    intro acc
    rw [List.foldl_cons]
    refine List.IsPrefix.trans ?_ (ih _)
    unfold addV
    split
    · exact List.prefix_append _ _
    · exact List.prefix_refl _
theorem varsC_prefix (t : List Int) (k : Nat) : varsC (t.take k) <+: varsC t := by
  conv => rhs; rw [← List.take_append_drop k t]
  unfold varsC
  rw [List.foldl_append]
  exact foldl_addV_prefix _ _
theorem mem_foldl_addV (t : List Int) (x : Int) : ∀ acc : List Int, x ∈ t.foldl addV acc ↔ x ∈ acc ∨ (x ∈ t ∧ x < 0) := by
  induction t with
  | nil => intro acc; simp
  | cons n r ih =>
    intro acc
    rw [List.foldl_cons, ih, addV_mem]
    constructor
    · rintro ((h | ⟨rfl, h⟩) | ⟨h, h'⟩)
      · exact .inl h
      · exact .inr ⟨by simp, h⟩
      · exact .inr ⟨by simp [h], h'⟩
    · rintro (h | ⟨h, h'⟩)
      · exact .inl (.inl h)
      · rcases List.mem_cons.1 h with rfl | h
        · exact .inl (.inr ⟨rfl, h'⟩)
        · exact .inr ⟨h, h'⟩
theorem mem_varsC {t : List Int} {x : Int} : x ∈ varsC t ↔ x ∈ t ∧ x < 0 := by
  unfold varsC; rw [mem_foldl_addV]; simp
theorem length_foldl_addV (t : List Int) : ∀ acc : List Int, (t.foldl addV acc).length ≤ acc.length + t.length := by
  induction t with
  | nil => intro acc; simp
  | cons n r ih =>
    intro acc
    rw [List.foldl_cons]
    have := ih (addV acc n)
    have h2 : (addV acc n).length ≤ acc.length + 1 := by unfold addV; split <;> simp
    simp; omega
theorem varsC_length (t : List Int) : (varsC t).length ≤ t.length := by have := length_foldl_addV t []; simpa [varsC] using this
theorem nodup_foldl_addV (t : List Int) : ∀ acc : List Int, acc.Nodup → (t.foldl addV acc).Nodup := by
  induction t with
  | nil => intro acc h; exact h
  | cons n r ih =>
    intro acc h
    rw [List.foldl_cons]
    apply ih
    unfold addV
    split
    · rename_i hn
      rw [List.nodup_append]
      refine ⟨h, by simp, ?_⟩
      intro a ha b hb hab
      simp at hb
      subst hb; subst hab
      exact hn.2 ha
    · exact h
theorem varsC_nodup (t : List Int) : (varsC t).Nodup := nodup_foldl_addV t [] (by simp)

theorem idxOf_app_mem {a c : List Int} {x : Int} (hx : x ∈ a) : (a ++ c).idxOf x = a.idxOf x := by rw [List.idxOf_append, if_pos hx]
theorem idxOf_app_not {a c : List Int} {x : Int} (hx : x ∉ a) : (a ++ c).idxOf x = c.idxOf x + a.length := by rw [List.idxOf_append, if_neg hx]
theorem idxOf_prefix {a b : List Int} (h : a <+: b) {x : Int} (hx : x ∈ a) : b.idxOf x = a.idxOf x := by
  obtain ⟨c, rfl⟩ := h
  rw [idxOf_app_mem hx]

/-- what the program's map holds behind k numbers -/
def nameF (t : List Int) (k : Nat) (x : Int) : Option Int := if x ∈ varsC (t.take k) then some (-((varsC (t.take k)).idxOf x : Int) - 1) else none
theorem nameF_zero (t : List Int) : nameF t 0 = fun _ => none := by funext x; simp [nameF, varsC]
theorem nameF_old {t : List Int} {k : Nat} (h : k < t.length) (hv : 0 ≤ t[k] ∨ t[k] ∈ varsC (t.take k)) : nameF t (k + 1) = nameF t k ∧ (varsC (t.take (k + 1))).length = (varsC (t.take k)).length := by
  have : varsC (t.take (k + 1)) = varsC (t.take k) := by
    rw [varsC_take_succ h, addV, if_neg]
    rintro ⟨h1, h2⟩
    rcases hv with h' | h'
    · omega
    · exact h2 h'
  unfold nameF
  rw [this]; exact ⟨rfl, rfl⟩
theorem nameF_new {t : List Int} {k : Nat} (h : k < t.length) (hn : t[k] < 0) (hv : t[k] ∉ varsC (t.take k)) :
    nameF t (k + 1) = (fun z => if z = t[k] then some (-((varsC (t.take k)).length : Int) - 1) else nameF t k z) ∧ (varsC (t.take (k + 1))).length = (varsC (t.take k)).length + 1 := by
  have hs : varsC (t.take (k + 1)) = varsC (t.take k) ++ [t[k]] := by rw [varsC_take_succ h, addV, if_pos ⟨hn, hv⟩]
  unfold nameF
  rw [hs]
  refine ⟨?_, by simp⟩
  funext z
  by_cases hz : z = t[k]
  · subst hz
    rw [if_pos (by simp), if_pos rfl, idxOf_app_not hv]; simp
  · rw [if_neg hz]
    by_cases hm : z ∈ varsC (t.take k)
    · rw [if_pos (by simp [hm]), if_pos hm, idxOf_app_mem hm]
    · rw [if_neg (by simp [hm, hz]), if_neg hm]
theorem nameF_canonW {t : List Int} {k : Nat} {x : Int} (hx : x ∈ varsC (t.take k)) : nameF t k x = some (canonW (varsC t) x) := by
  unfold nameF canonW
  have h0 := (mem_varsC.1 hx).2
  rw [if_pos hx, if_neg (by omega), idxOf_prefix (varsC_prefix t k) hx]

/-- a list that is rewritten by f, one number after the other -/
def doneTo (f : Int → Int) (t : List Int) (k : Nat) : List Int := (t.take k).map f ++ t.drop k
theorem doneTo_zero (f : Int → Int) (t : List Int) : doneTo f t 0 = t := by simp [doneTo]
theorem doneTo_all (f : Int → Int) (t : List Int) (k : Nat) (h : t.length ≤ k) : doneTo f t k = t.map f := by
  unfold doneTo; rw [List.take_of_length_le h, List.drop_eq_nil_of_le h, List.append_nil]
theorem doneTo_length (f : Int → Int) (t : List Int) (k : Nat) : (doneTo f t k).length = t.length := by simp [doneTo]; omega
theorem doneTo_set {f : Int → Int} {t : List Int} {k : Nat} (h : k < t.length) : (doneTo f t k).set k (f t[k]) = doneTo f t (k + 1) := by
  unfold doneTo
  rw [List.set_append_right _ _ (by simp; exact Nat.min_le_left ..)]
  simp only [List.length_map, List.length_take, Nat.min_eq_left (Nat.le_of_lt h), Nat.sub_self]
  rw [List.drop_eq_getElem_cons h, List.set_cons_zero, List.take_succ_eq_append_getElem h, List.map_append]
  simp
theorem doneTo_same {f : Int → Int} {t : List Int} {k : Nat} (h : k < t.length) (hf : f t[k] = t[k]) : doneTo f t k = doneTo f t (k + 1) := by
  unfold doneTo
  rw [List.drop_eq_getElem_cons h, List.take_succ_eq_append_getElem h, List.map_append]
  simp [hf]
theorem doneTo_get {f : Int → Int} {t : List Int} {k : Nat} (h : k < t.length) : (doneTo f t k)[k]'(by rw [doneTo_length]; exact h) = t[k] := by
  unfold doneTo
  rw [List.getElem_append_right (by simp; exact Nat.min_le_left ..)]
  simp [Nat.min_eq_left (Nat.le_of_lt h)]

theorem canonW_pos {v : List Int} {n : Int} (h : 0 ≤ n) : canonW v n = n := by rw [canonW, if_pos h]
theorem canonW_neg {v : List Int} {n : Int} (h : n < 0) : canonW v n = -(v.idxOf n : Int) - 1 := by rw [canonW, if_neg (by omega)]
theorem canonW_bound {v : List Int} {n : Int} : canonW v n = n ∨ (-(v.length : Int) - 1 ≤ canonW v n ∧ canonW v n ≤ -1) := by
  unfold canonW
  split
  · exact .inl rfl
  · have := List.idxOf_le_length (l := v) (a := n)
    right; omega

def vnum (n : Int) : Int := -n - 1
def varsV (t : List Int) : List Int := (varsC t).map vnum
theorem vnum_inj {a b : Int} (h : vnum a = vnum b) : a = b := by unfold vnum at h; omega
theorem mem_map_vnum {l : List Int} {x : Int} : vnum x ∈ l.map vnum ↔ x ∈ l := by
  rw [List.mem_map]
  constructor
  · rintro ⟨y, hy, he⟩; rw [← vnum_inj he]; exact hy
  · intro h; exact ⟨x, h, rfl⟩
def tame (t : List Int) : Prop := ∀ x ∈ t, -1000000 ≤ x ∧ x ≤ 1000000
theorem skip_codes (s : Sg) (k : Nat) (l : List Int) (h : skip s k l = some []) : ∀ x ∈ l, codeOk s x = true := by
  induction l generalizing k with
  | nil => intro x hx; simp at hx
  | cons n r ih => cases k with
    | zero => simp [skip_zero] at h
    | succ k =>
      rw [skip_cons] at h
      split at h
      · rename_i hc
        intro x hx
        rcases List.mem_cons.1 hx with rfl | hx
        · exact hc
        · exact ih _ h x hx
      · cases h
theorem okT_parts {s : Sg} {t : List Int} (h : okT s t = true) : okSign s = true ∧ 1 ≤ t.length ∧ t.length ≤ 60 ∧ skip s 1 t = some [] := by
  simp only [okT, Bool.and_eq_true, decide_eq_true_eq] at h
  exact ⟨h.1.1, h.1.2.1, h.1.2.2, h.2⟩
theorem okSign_len {s : Sg} (h : okSign s = true) : 1 ≤ s.length ∧ s.length ≤ 12 := by
  simp only [okSign, Bool.and_eq_true, decide_eq_true_eq] at h
  exact ⟨h.1.1.1.1, h.1.1.1.2⟩
theorem codeOk_bd {s : Sg} (hs : okSign s = true) {x : Int} (h : codeOk s x = true) : -12 ≤ x ∧ x ≤ 11 := by
  have := okSign_len hs
  simp only [codeOk, Bool.or_eq_true, decide_eq_true_eq] at h
  omega
theorem okT_tame {s : Sg} {t : List Int} (h : okT s t = true) : tame t := by
  obtain ⟨h1, _, _, h4⟩ := okT_parts h
  intro x hx
  have := codeOk_bd h1 (skip_codes s 1 t h4 x hx)
  omega
theorem okT_ne {s : Sg} {t : List Int} (h : okT s t = true) : t ≠ [] := by
  obtain ⟨_, h1, _⟩ := okT_parts h
  intro e; subst e; simp at h1
end Go.Proofs.YtgkddhakhapjlaaGreatDoor

/- More on terms as lists: renaming one number after the other. No program is named. -/
namespace Go.Proofs.YtgkddhakhapjlaaGreatDoor

/-- the i-th number while its name is looked for among the first j variables -/
def midW (t : List Int) (j : Nat) (x : Int) : Int := if x ∈ (varsC t).take j then canonW (varsC t) x else x
theorem midW_zero (t : List Int) (x : Int) : midW t 0 x = x := by simp [midW]
theorem idxOf_getElem {l : List Int} (h : l.Nodup) {j : Nat} (hj : j < l.length) : l.idxOf l[j] = j := by
  exact List.Nodup.idxOf_getElem h j hj
theorem midW_hit {t : List Int} {j : Nat} (hj : j < (varsC t).length) : midW t (j + 1) (varsC t)[j] = -(j : Int) - 1 := by
  have hm : (varsC t)[j] ∈ (varsC t).take (j + 1) := List.mem_take_iff_getElem.2 ⟨j, by omega, rfl⟩
  unfold midW
  rw [if_pos hm, canonW_neg (mem_varsC.1 (List.getElem_mem hj)).2, idxOf_getElem (varsC_nodup t) hj]
theorem midW_miss {t : List Int} {j : Nat} {x : Int} (hj : j < (varsC t).length) (h : x ≠ (varsC t)[j]) : midW t (j + 1) x = midW t j x := by
  unfold midW
  have : x ∈ (varsC t).take (j + 1) ↔ x ∈ (varsC t).take j := by
    rw [List.take_succ_eq_append_getElem hj, List.mem_append, List.mem_singleton]
    exact ⟨fun h' => h'.resolve_right h, .inl⟩
  by_cases hx : x ∈ (varsC t).take j
  · rw [if_pos hx, if_pos (this.2 hx)]
  · rw [if_neg hx, if_neg (fun e => hx (this.1 e))]
theorem midW_all {t : List Int} {j : Nat} {x : Int} (hj : (varsC t).length ≤ j) (hx : x ∈ t) : midW t j x = canonW (varsC t) x := by
  unfold midW
  rw [List.take_of_length_le hj]
  split
  · rfl
  · rename_i h
    have : ¬ x < 0 := fun hn => h (mem_varsC.2 ⟨hx, hn⟩)
    rw [canonW_pos (by omega)]
theorem doneTo_set_same {f : Int → Int} {t : List Int} {k : Nat} (h : k < t.length) : (doneTo f t k).set k t[k] = doneTo f t k := by
  have h' : k < (doneTo f t k).length := by rw [doneTo_length]; exact h
  have := doneTo_get (f := f) h
  rw [← this, List.set_getElem_self]
theorem varsV_get {t : List Int} {j : Nat} (h : j < (varsV t).length) : (varsV t)[j] = vnum ((varsC t)[j]'(by simpa [varsV] using h)) := by
  simp [varsV]
theorem flat_get (x : Int) : (fun n : Int => if n < 0 then -1 else n) x = max x (-1) := by
  simp only []
  split <;> omega

/-! ### results with an error -/
def errE (s : Sg) (t : List Int) (l : List Int) : List Int × Int := if okT s t then (l, 0) else ([], 1)
theorem errE_ok {s : Sg} {t l : List Int} (h : okT s t = true) : errE s t l = (l, 0) := by rw [errE, if_pos h]
theorem errE_no {s : Sg} {t l : List Int} (h : okT s t = false) : errE s t l = ([], 1) := by rw [errE, h]; rfl

/-! ### the canonical form is canonical -/
theorem canonW_lt {v : List Int} {n : Int} (h : n < 0) : canonW v n < 0 := by rw [canonW_neg h]; omega
theorem canonW_inj {v : List Int} {a b : Int} (ha : a ∈ v ∨ 0 ≤ a) (hb : b ∈ v ∨ 0 ≤ b) (hv : ∀ x ∈ v, x < 0) (h : canonW v a = canonW v b) : a = b := by
  rcases ha with ha | ha <;> rcases hb with hb | hb
  · rw [canonW_neg (hv a ha), canonW_neg (hv b hb)] at h
    have e : v.idxOf a = v.idxOf b := by omega
    have h1 := List.getElem_idxOf (List.idxOf_lt_length_iff.2 ha)
    have h2 := List.getElem_idxOf (List.idxOf_lt_length_iff.2 hb)
    rw [← h1, ← h2]; simp only [e]
  · have := canonW_lt (v := v) (hv a ha); rw [canonW_pos hb] at h; omega
  · have := canonW_lt (v := v) (hv b hb); rw [canonW_pos ha] at h; omega
  · rw [canonW_pos ha, canonW_pos hb] at h; exact h
/-- renaming by a map that is one to one on the variables and keeps signs renames the list of variables -/
theorem foldl_addV_map (f : Int → Int) (t : List Int) (hneg : ∀ x ∈ t, (x < 0 ↔ f x < 0)) (acc : List Int) (hinj : ∀ x ∈ t, ∀ y, (y ∈ acc ∨ y ∈ t) → x < 0 → y < 0 → f x = f y → x = y) (hacc : ∀ y ∈ acc, y < 0) :
    (t.map f).foldl addV (acc.map f) = (t.foldl addV acc).map f := by
  induction t generalizing acc with
  | nil => rfl
  | cons n r ih =>
    rw [List.map_cons, List.foldl_cons, List.foldl_cons]
    have e : addV (acc.map f) (f n) = (addV acc n).map f := by
      by_cases h : n < 0
      · by_cases hm : n ∈ acc
        · have e1 : addV (acc.map f) (f n) = acc.map f := if_neg (fun e => e.2 (List.mem_map.2 ⟨n, hm, rfl⟩))
          have e2 : addV acc n = acc := if_neg (fun e => e.2 hm)
          rw [e1, e2]
        · have e1 : addV (acc.map f) (f n) = acc.map f ++ [f n] := if_pos ⟨(hneg n (by simp)).1 h, fun e => by
            obtain ⟨y, hy, hfy⟩ := List.mem_map.1 e
            exact hm (hinj n (by simp) y (.inl hy) h (hacc y hy) hfy.symm ▸ hy)⟩
          have e2 : addV acc n = acc ++ [n] := if_pos ⟨h, hm⟩
          rw [e1, e2, List.map_append]; rfl
      · have e1 : addV (acc.map f) (f n) = acc.map f := if_neg (fun e => h ((hneg n (by simp)).2 e.1))
        have e2 : addV acc n = acc := if_neg (fun e => h e.1)
        rw [e1, e2]
    rw [e]
    refine ih (fun x hx => hneg x (by simp [hx])) (addV acc n) (fun x hx y hy => hinj x (by simp [hx]) y ?_) ?_
    · rcases hy with hy | hy
      · rcases addV_mem.1 hy with h | h
        · exact .inl h
        · exact .inr (by simp [h.1])
      · exact .inr (by simp [hy])
    · intro y hy
      rcases addV_mem.1 hy with h | h
      · exact hacc y h
      · rw [h.1]; exact h.2
theorem varsC_map (f : Int → Int) (t : List Int) (hneg : ∀ x ∈ t, (x < 0 ↔ f x < 0)) (hinj : ∀ x ∈ t, ∀ y ∈ t, x < 0 → y < 0 → f x = f y → x = y) : varsC (t.map f) = (varsC t).map f :=
  foldl_addV_map f t hneg [] (fun x hx y hy => hinj x hx y (hy.resolve_left (by simp))) (by simp)
theorem idxOf_map_inj (f : Int → Int) (v : List Int) (x : Int) (hx : x ∈ v) (hinj : ∀ y ∈ v, f x = f y → x = y) : (v.map f).idxOf (f x) = v.idxOf x := by
  induction v with
  | nil => simp at hx
  | cons y r ih =>
    rw [List.map_cons]
    by_cases h : x = y
    · subst h; simp
    · have h1 : f x ≠ f y := fun e => h (hinj y (by simp) e)
      have e1 : (f y == f x) = false := by simpa using fun e => h1 e.symm
      have e2 : (y == x) = false := by simpa using fun e => h e.symm
      rw [List.idxOf_cons, List.idxOf_cons, e1, e2, cond_false, cond_false, ih ((List.mem_cons.1 hx).resolve_left h) (fun z hz => hinj z (by simp [hz]))]
theorem varsC_neg {t : List Int} : ∀ x ∈ varsC t, x < 0 := fun _ hx => (mem_varsC.1 hx).2
/-- renamed lists have one canonical form -/
theorem canon_map (f : Int → Int) (t : List Int) (hpos : ∀ x ∈ t, 0 ≤ x → f x = x) (hneg : ∀ x ∈ t, x < 0 → f x < 0) (hinj : ∀ x ∈ t, ∀ y ∈ t, x < 0 → y < 0 → f x = f y → x = y) : canon (t.map f) = canon t := by
  have hn : ∀ x ∈ t, (x < 0 ↔ f x < 0) := fun x hx => ⟨hneg x hx, fun h => Classical.byContradiction (fun h' => by rw [hpos x hx (by omega)] at h; omega)⟩
  unfold canon
  rw [varsC_map f t hn hinj, List.map_map]
  apply List.map_congr_left
  intro x hx
  rw [Function.comp]
  by_cases h : x < 0
  · rw [canonW_neg h, canonW_neg (hneg x hx h)]
    have hv : x ∈ varsC t := mem_varsC.2 ⟨hx, h⟩
    rw [idxOf_map_inj f _ _ hv (fun y hy => hinj x hx y (mem_varsC.1 hy).1 h (mem_varsC.1 hy).2)]
  · rw [hpos x hx (by omega), canonW_pos (by omega), canonW_pos (by omega)]
theorem canon_canon (t : List Int) : canon (canon t) = canon t :=
  canon_map (canonW (varsC t)) t (fun _ _ h => canonW_pos h) (fun _ _ h => canonW_lt h)
    (fun _ hx _ hy h1 h2 h => canonW_inj (.inl (mem_varsC.2 ⟨hx, h1⟩)) (.inl (mem_varsC.2 ⟨hy, h2⟩)) varsC_neg h)
/-- a list whose numbers are replaced by others of the same arity has the same form -/
theorem skip_map (s : Sg) (f : Int → Int) (t : List Int) (h : ∀ x ∈ t, codeOk s (f x) = codeOk s x ∧ ar s (f x) = ar s x) : ∀ k, skip s k (t.map f) = (skip s k t).map (List.map f) := by
  induction t with
  | nil => intro k; cases k <;> rfl
  | cons n r ih =>
    intro k
    cases k with
    | zero => rw [skip_zero, skip_zero]; rfl
    | succ k =>
      rw [List.map_cons, skip_cons, skip_cons, (h n (by simp)).1, (h n (by simp)).2]
      split
      · exact ih (fun x hx => h x (by simp [hx])) _
      · rfl
theorem ar_neg {s : Sg} {x : Int} (h : x < 0) : ar s x = 0 := by
  unfold ar arC
  split
  · rfl
  · rw [if_neg (by omega)]; rfl
theorem codeOk_neg {s : Sg} {x : Int} (h : x < 0) : codeOk s x = decide (-12 ≤ x) := by
  rw [Bool.eq_iff_iff]; simp [codeOk]; omega
theorem nodup_bound : ∀ (n : Nat) (l : List Nat), l.Nodup → (∀ x ∈ l, x < n) → l.length ≤ n
  | 0, l, _, hb => by
    cases l with
    | nil => simp
    | cons x r => have := hb x (by simp); omega
  | n + 1, l, hl, hb => by
    have h1 := nodup_bound n (l.erase n) (hl.erase n) (fun x hx => by
      have h2 := (hl.mem_erase_iff).1 hx
      have := hb x h2.2
      omega)
    by_cases hm : n ∈ l
    · rw [List.length_erase_of_mem hm] at h1; omega
    · rw [List.erase_of_not_mem hm] at h1; omega
theorem varsC_le12 {s : Sg} {t : List Int} (h : ∀ x ∈ t, codeOk s x = true) : (varsC t).length ≤ 12 := by
  have h1 : ((varsC t).map (fun x => (-x - 1).toNat)).Nodup := by
    unfold List.Nodup
    rw [List.pairwise_map]
    refine List.Pairwise.imp_of_mem ?_ (varsC_nodup t)
    intro a b ha hb hab e
    have h1 := (mem_varsC.1 ha).2
    have h2 := (mem_varsC.1 hb).2
    exact hab (by omega)
  have h2 := nodup_bound 12 _ h1 (fun x hx => by
    obtain ⟨y, hy, rfl⟩ := List.mem_map.1 hx
    have hm := mem_varsC.1 hy
    have := h y hm.1
    rw [codeOk_neg hm.2, decide_eq_true_eq] at this
    omega)
  simpa using h2
theorem canon_codes {s : Sg} {t : List Int} (h : ∀ x ∈ t, codeOk s x = true) : ∀ x ∈ t, codeOk s (canonW (varsC t) x) = codeOk s x ∧ ar s (canonW (varsC t) x) = ar s x := by
  intro x hx
  by_cases h0 : x < 0
  · have hn := canonW_lt (v := varsC t) h0
    rw [ar_neg hn, ar_neg h0, h x hx, codeOk_neg hn, canonW_neg h0]
    have h12 := varsC_le12 h
    have := List.idxOf_lt_length_iff.2 (mem_varsC.2 ⟨hx, h0⟩)
    refine ⟨decide_eq_true (by omega), rfl⟩
  · rw [canonW_pos (by omega)]; exact ⟨rfl, rfl⟩
theorem okT_canon {s : Sg} {t : List Int} (h : okT s t = true) : okT s (canon t) = true := by
  obtain ⟨h1, h2, h3, h4⟩ := okT_parts h
  have hc := skip_codes s 1 t h4
  have := skip_map s (canonW (varsC t)) t (canon_codes hc) 1
  rw [h4] at this
  unfold okT
  rw [h1]
  have hl : (canon t).length = t.length := by simp [canon]
  rw [hl, decide_eq_true h2, decide_eq_true h3]
  rw [decide_eq_true (by simpa [canon] using this)]; rfl
end Go.Proofs.YtgkddhakhapjlaaGreatDoor

/- Arguments and parts of terms as lists. No program is named. -/
namespace Go.Proofs.YtgkddhakhapjlaaGreatDoor

/-- the first term of a list -/
def partAt (s : Sg) (l : List Int) : List Int := l.take (l.length - ((skip s 1 l).getD []).length)
/-- the first k terms of a list -/
def splitK (s : Sg) : Nat → List Int → List (List Int)
  | 0, _ => []
  | k + 1, l => partAt s l :: splitK s k ((skip s 1 l).getD [])
/-- where they begin -/
def posK (s : Sg) (n : Nat) : Nat → List Int → List Int
  | 0, _ => []
  | k + 1, l => ((n - l.length : Nat) : Int) :: posK s n k ((skip s 1 l).getD [])
def argsT (s : Sg) (t : List Int) : List (List Int) := match t with | [] => [] | n :: r => splitK s (ar s n) r

theorem partAt_eq {s : Sg} {l r : List Int} (h : skip s 1 l = some r) : l = partAt s l ++ r ∧ skip s 1 (partAt s l) = some [] ∧ 1 ≤ (partAt s l).length := by
  obtain ⟨u, rfl, hu, hl⟩ := skip_split s 1 l r h
  have : partAt s (u ++ r) = u := by
    unfold partAt
    rw [h]; simp
  rw [this]; exact ⟨rfl, hu, hl⟩
theorem partAt_len {s : Sg} {l r : List Int} (h : skip s 1 l = some r) : (partAt s l).length = l.length - r.length := by
  obtain ⟨h1, _, _⟩ := partAt_eq h
  have : l.length = (partAt s l).length + r.length := by rw [← List.length_append, ← h1]
  omega
theorem skip_one {s : Sg} {k : Nat} {l r : List Int} (h : skip s (k + 1) l = some r) : ∃ m, skip s 1 l = some m ∧ skip s k m = some r := by
  rw [Nat.add_comm, skip_add] at h
  cases hm : skip s 1 l with
  | none => rw [hm] at h; cases h
  | some m => rw [hm] at h; exact ⟨m, rfl, h⟩
theorem splitK_spec (s : Sg) : ∀ (k : Nat) (l r : List Int), skip s k l = some r → (splitK s k l).length = k ∧ (splitK s k l).flatten ++ r = l ∧ ∀ u ∈ splitK s k l, skip s 1 u = some [] ∧ 1 ≤ u.length
  | 0, l, r, h => by
    rw [skip_zero] at h
    simp only [Option.some.injEq] at h
    exact ⟨rfl, by rw [← h]; rfl, fun u hu => by simp [splitK] at hu⟩
  | k + 1, l, r, h => by
    obtain ⟨m, h1, h2⟩ := skip_one h
    obtain ⟨a1, a2, a3⟩ := splitK_spec s k m r h2
    obtain ⟨b1, b2, b3⟩ := partAt_eq h1
    unfold splitK
    rw [h1]
    refine ⟨by simp [a1], ?_, ?_⟩
    · rw [List.flatten_cons, List.append_assoc, Option.getD_some, a2]; exact b1.symm
    · intro u hu
      rcases List.mem_cons.1 hu with rfl | hu
      · exact ⟨b2, b3⟩
      · exact a3 u hu
/-- a valid term is its head and its arguments -/
theorem okT_head {s : Sg} {t : List Int} (h : okT s t = true) : ∃ n r, t = n :: r ∧ codeOk s n = true ∧ skip s (ar s n) r = some [] := by
  obtain ⟨h1, h2, h3, h4⟩ := okT_parts h
  cases t with
  | nil => simp at h2
  | cons n r =>
    rw [skip_cons] at h4
    split at h4
    · rename_i hc; exact ⟨n, r, rfl, hc, by simpa using h4⟩
    · cases h4
theorem len_flatten {l : List (List Int)} {u : List Int} (h : u ∈ l) : u.length ≤ l.flatten.length := by
  induction l with
  | nil => simp at h
  | cons x r ih =>
    rw [List.flatten_cons, List.length_append]
    rcases List.mem_cons.1 h with rfl | h
    · omega
    · have := ih h; omega
theorem argsT_spec {s : Sg} {t : List Int} (h : okT s t = true) : (argsT s t).length = ar s (t.headD 0) ∧ t = t.headD 0 :: (argsT s t).flatten ∧ ∀ u ∈ argsT s t, okT s u = true := by
  obtain ⟨n, r, rfl, hc, hs⟩ := okT_head h
  obtain ⟨h1, h2, h3, h4⟩ := okT_parts h
  obtain ⟨a1, a2, a3⟩ := splitK_spec s (ar s n) r [] hs
  refine ⟨a1, ?_, ?_⟩
  · show n :: r = n :: (splitK s (ar s n) r).flatten
    rw [List.append_nil] at a2; rw [a2]
  · intro u hu
    obtain ⟨b1, b2⟩ := a3 u hu
    have hl : u.length ≤ r.length := by
      rw [List.append_nil] at a2
      rw [← a2]
      exact len_flatten hu
    simp at h3
    unfold okT
    rw [h1, decide_eq_true b2, decide_eq_true (by omega), decide_eq_true b1]; rfl
theorem okT_of_skip {s : Sg} {u : List Int} (hs : okSign s = true) (h : skip s 1 u = some []) (hl : u.length ≤ 60) : okT s u = true := by
  have h1 : 1 ≤ u.length := by have := skip_len s 1 u [] h; simpa using this
  unfold okT
  rw [hs, decide_eq_true h1, decide_eq_true hl, decide_eq_true h]; rfl
/-- a symbol built of arguments -/
theorem skip_flatten {s : Sg} : ∀ (l : List (List Int)), (∀ u ∈ l, skip s 1 u = some []) → skip s l.length l.flatten = some []
  | [], _ => rfl
  | u :: l, h => by
    rw [List.length_cons, Nat.add_comm, skip_add, List.flatten_cons]
    have := skip_append s 1 u l.flatten [] (h u (by simp))
    rw [this]
    exact skip_flatten l (fun v hv => h v (by simp [hv]))
theorem splitK_flatten {s : Sg} : ∀ (l : List (List Int)) (x : List Int), (∀ u ∈ l, skip s 1 u = some []) → splitK s l.length (l.flatten ++ x) = l
  | [], _, _ => rfl
  | u :: l, x, h => by
    have hu := h u (by simp)
    have h1 := skip_append s 1 u (l.flatten ++ x) [] hu
    rw [List.nil_append] at h1
    rw [List.length_cons, splitK, List.flatten_cons, List.append_assoc, h1, Option.getD_some, splitK_flatten l x (fun v hv => h v (by simp [hv]))]
    congr 1
    unfold partAt
    rw [h1]; simp
end Go.Proofs.YtgkddhakhapjlaaGreatDoor

/- Paths in terms. No program is named. -/
namespace Go.Proofs.YtgkddhakhapjlaaGreatDoor

theorem skip_pos {s : Sg} {k : Nat} {l r : List Int} (h : skip s (k + 1) l = some r) : ∃ n x, l = n :: x ∧ codeOk s n = true ∧ skip s (k + ar s n) x = some r := by
  cases l with
  | nil => simp [skip_nil] at h
  | cons n x =>
    rw [skip_cons] at h
    split at h
    · exact ⟨n, x, rfl, ‹_›, h⟩
    · cases h
theorem skip_drop {s : Sg} {k p : Nat} {t r : List Int} (h : skip s (k + 1) (t.drop p) = some r) : ∃ hp : p < t.length, codeOk s t[p] = true ∧ skip s (k + ar s t[p]) (t.drop (p + 1)) = some r := by
  obtain ⟨n, x, hx, hc, hs⟩ := skip_pos h
  have hp : p < t.length := by
    rcases Nat.lt_or_ge p t.length with h | h
    · exact h
    · rw [List.drop_eq_nil_of_le h] at hx; cases hx
  rw [List.drop_eq_getElem_cons hp] at hx
  simp only [List.cons.injEq] at hx
  obtain ⟨rfl, rfl⟩ := hx
  exact ⟨hp, hc, hs⟩
theorem posK_length (s : Sg) (n : Nat) : ∀ k l, (posK s n k l).length = k
  | 0, _ => rfl
  | k + 1, l => by unfold posK; rw [List.length_cons, posK_length s n k]
theorem splitK_append {s : Sg} {k : Nat} {l x : List Int} (h : skip s k l = some []) : splitK s k (l ++ x) = splitK s k l := by
  obtain ⟨h1, h2, h3⟩ := splitK_spec s k l [] h
  rw [List.append_nil] at h2
  have := splitK_flatten (s := s) (splitK s k l) x (fun u hu => (h3 u hu).1)
  rw [h1, h2] at this
  exact this
/-- where a term's arguments begin, and what they are -/
theorem posK_at (s : Sg) (t : List Int) : ∀ (k q : Nat) (r : List Int), q ≤ t.length → skip s k (t.drop q) = some r → ∀ j, j < k →
    ∃ z rest, (posK s t.length k (t.drop q))[j]? = some ((z : Nat) : Int) ∧ skip s 1 (t.drop z) = some rest ∧ (splitK s k (t.drop q))[j]? = some (partAt s (t.drop z)) ∧ z = q + ((splitK s k (t.drop q)).take j).flatten.length
  | 0, _, _, _, _, j, hj => by omega
  | k + 1, q, r, hq, hs, j, hj => by
    obtain ⟨m, h1, h2⟩ := skip_one hs
    cases j with
    | zero =>
      refine ⟨q, m, ?_, h1, ?_, by simp⟩
      · simp [posK]; omega
      · simp [splitK]
    | succ j =>
      obtain ⟨-, g2, g3, g4⟩ := endOf_some s t q m h1
      have hpl := partAt_len h1
      rw [List.length_drop] at hpl
      have ih := posK_at s t k (t.length - m.length) r g4 (by rw [g2]; exact h2) j (by omega)
      rw [g2] at ih
      obtain ⟨z, rest, e1, e2, e3, e4⟩ := ih
      refine ⟨z, rest, ?_, e2, ?_, ?_⟩
      · rw [posK, h1]; simpa using e1
      · rw [splitK, h1]; simpa using e3
      · rw [splitK, h1, List.take_succ_cons, List.flatten_cons, List.length_append, hpl, Option.getD_some, e4]; omega

/-- the index of an argument of the part at an index -/
def stepTo (s : Sg) (t : List Int) (a : Nat) (k : Int) : Option Nat :=
  if 0 ≤ k ∧ k < ar s (t.getD a 0) then some ((posK s t.length (ar s (t.getD a 0)) (t.drop (a + 1))).getD k.toNat 0).toNat else none
/-- the index to which a path leads -/
def place (s : Sg) (t : List Int) : List Int → Nat → Option Nat
  | [], a => some a
  | k :: ks, a => (stepTo s t a k).bind (place s t ks)
/-- the part at a path -/
def sub (s : Sg) : List Int → List Int → Option (List Int)
  | [], u => some u
  | k :: ks, u => if 0 ≤ k then ((argsT s u)[k.toNat]?).bind (sub s ks) else none

theorem part_args {s : Sg} {t rest : List Int} {a : Nat} (h : skip s 1 (t.drop a) = some rest) :
    argsT s (partAt s (t.drop a)) = splitK s (ar s (t.getD a 0)) (t.drop (a + 1)) ∧ skip s (ar s (t.getD a 0)) (t.drop (a + 1)) = some rest ∧ (argsT s (partAt s (t.drop a))).length = ar s (t.getD a 0) ∧ a < t.length := by
  obtain ⟨hlt, hc, hs⟩ := skip_drop (k := 0) h
  have hgd : t.getD a 0 = t[a] := by simp [hlt]
  rw [hgd]
  rw [Nat.zero_add] at hs
  obtain ⟨e1, e2, -⟩ := partAt_eq h
  obtain ⟨n, x, hx, -, hs2⟩ := skip_pos (k := 0) e2
  rw [Nat.zero_add] at hs2
  rw [hx, List.cons_append, List.drop_eq_getElem_cons hlt] at e1
  simp only [List.cons.injEq] at e1
  obtain ⟨hn, hd⟩ := e1
  have h1 : argsT s (partAt s (t.drop a)) = splitK s (ar s t[a]) (t.drop (a + 1)) := by
    rw [hx, hn, hd, splitK_append hs2]; rfl
  refine ⟨h1, hs, ?_, hlt⟩
  rw [h1]; exact (splitK_spec s _ _ _ hs).1
theorem step_ok {s : Sg} {t rest : List Int} {a : Nat} (h : skip s 1 (t.drop a) = some rest) (k : Nat) (hk : k < (argsT s (partAt s (t.drop a))).length) :
    ∃ z rest', stepTo s t a k = some z ∧ z = a + 1 + ((argsT s (partAt s (t.drop a))).take k).flatten.length ∧ skip s 1 (t.drop z) = some rest' ∧ partAt s (t.drop z) = (argsT s (partAt s (t.drop a)))[k] ∧
      (posK s t.length (ar s (t.getD a 0)) (t.drop (a + 1)))[k]? = some (z : Int) := by
  obtain ⟨h1, h2, h3, h4⟩ := part_args h
  rw [h3] at hk
  obtain ⟨z, r', e1, e2, e3, e4⟩ := posK_at s t _ (a + 1) rest (by omega) h2 k hk
  refine ⟨z, r', ?_, by rw [h1]; exact e4, e2, ?_, e1⟩
  · rw [stepTo, if_pos ⟨by omega, by omega⟩, List.getD_eq_getElem?_getD, Int.toNat_natCast, e1]; rfl
  · rw [← h1, List.getElem?_eq_getElem (by omega)] at e3
    exact (Option.some.inj e3).symm
theorem step_no {s : Sg} {t rest : List Int} {a : Nat} (h : skip s 1 (t.drop a) = some rest) (k : Int) (hk : ¬ (0 ≤ k ∧ k < (argsT s (partAt s (t.drop a))).length)) : stepTo s t a k = none := by
  obtain ⟨h1, h2, h3, h4⟩ := part_args h
  rw [h3] at hk
  rw [stepTo, if_neg hk]
theorem place_sub {s : Sg} {t : List Int} : ∀ (p : List Int) {rest : List Int} {a : Nat} (_ : skip s 1 (t.drop a) = some rest),
    (∀ z, place s t p a = some z → ∃ r', skip s 1 (t.drop z) = some r' ∧ sub s p (partAt s (t.drop a)) = some (partAt s (t.drop z))) ∧ (place s t p a = none → sub s p (partAt s (t.drop a)) = none)
  | [], rest, a, h => ⟨fun z hz => by cases hz; exact ⟨rest, h, rfl⟩, fun hz => by cases hz⟩
  | k :: ks, rest, a, h => by
    by_cases hk : 0 ≤ k ∧ k < (argsT s (partAt s (t.drop a))).length
    · obtain ⟨n, rfl⟩ := Int.eq_ofNat_of_zero_le hk.1
      have hk2 : n < (argsT s (partAt s (t.drop a))).length := by omega
      obtain ⟨z, r', e1, -, e3, e4, -⟩ := step_ok h n hk2
      have ih := place_sub ks e3
      have hs : sub s ((n : Int) :: ks) (partAt s (t.drop a)) = sub s ks (partAt s (t.drop z)) := by
        rw [sub, if_pos hk.1, Int.toNat_natCast, List.getElem?_eq_getElem hk2, e4]; rfl
      rw [place, e1, hs]; exact ih
    · have hs : sub s (k :: ks) (partAt s (t.drop a)) = none := by
        rw [sub]
        split
        · rw [List.getElem?_eq_none (by omega)]; rfl
        · rfl
      rw [place, step_no h k hk, hs]
      exact ⟨fun z hz => (by cases hz), fun _ => rfl⟩
theorem partAt_all {s : Sg} {t : List Int} (h : okT s t = true) : partAt s (t.drop 0) = t := by
  have := (okT_parts h).2.2.2
  rw [List.drop_zero]; unfold partAt; rw [this]; simp
theorem okT_skip0 {s : Sg} {t : List Int} (h : okT s t = true) : skip s 1 (t.drop 0) = some [] := (okT_parts h).2.2.2
theorem okT_part {s : Sg} {t rest : List Int} {a : Nat} (h : okT s t = true) (hs : skip s 1 (t.drop a) = some rest) : okT s (partAt s (t.drop a)) = true ∧ (partAt s (t.drop a)).length = t.length - a - rest.length := by
  obtain ⟨h1, h2, h3, -⟩ := okT_parts h
  have hl := partAt_len hs
  rw [List.length_drop] at hl
  exact ⟨okT_of_skip h1 (partAt_eq hs).2.1 (by omega), hl⟩
/-- what At answers -/
def atE (s : Sg) (t p : List Int) : List Int × Int :=
  if okT s t then (match place s t p 0 with | some z => (partAt s (t.drop z), 0) | none => ([], 8)) else ([], 1)
theorem atE_no {s : Sg} {t p : List Int} (h : okT s t = false) : atE s t p = ([], 1) := by rw [atE, h]; rfl
theorem atE_some {s : Sg} {t p : List Int} {z : Nat} (h : okT s t = true) (hp : place s t p 0 = some z) : atE s t p = (partAt s (t.drop z), 0) := by rw [atE, if_pos h, hp]
theorem atE_none {s : Sg} {t p : List Int} (h : okT s t = true) (hp : place s t p 0 = none) : atE s t p = ([], 8) := by rw [atE, if_pos h, hp]
theorem atE_sub {s : Sg} {t p : List Int} (h : okT s t = true) : atE s t p = match sub s p t with | some u => (u, 0) | none => ([], 8) := by
  obtain ⟨h1, h2⟩ := place_sub p (okT_skip0 h)
  rw [partAt_all h] at h1 h2
  cases hp : place s t p 0 with
  | none => rw [atE_none h hp, h2 hp]
  | some z => obtain ⟨r, -, e⟩ := h1 z hp; rw [atE_some h hp, e]
/-- what is at a path below an argument is at the rest of it in that argument -/
theorem atE_down {s : Sg} {t ks : List Int} {k : Int} (h : (atE s t (k :: ks)).2 = 0) : okT s t = true ∧ 0 ≤ k ∧ ∃ hk : k.toNat < (argsT s t).length, atE s (argsT s t)[k.toNat] ks = atE s t (k :: ks) := by
  cases hx : okT s t with
  | false => rw [atE_no hx] at h; cases h
  | true =>
    rw [atE_sub hx] at h
    by_cases hk : 0 ≤ k
    · by_cases hk2 : k.toNat < (argsT s t).length
      · refine ⟨rfl, hk, hk2, ?_⟩
        rw [atE_sub ((argsT_spec hx).2.2 _ (List.getElem_mem hk2)), atE_sub hx, sub, if_pos hk, List.getElem?_eq_getElem hk2]; rfl
      · rw [sub, if_pos hk, List.getElem?_eq_none (by omega)] at h; cases h
    · rw [sub, if_neg hk] at h; cases h
end Go.Proofs.YtgkddhakhapjlaaGreatDoor

/- Putting terms in place of variables, and most general ones: terms are lists of numbers written head first; a number below 0 is a variable. No program is named. -/
namespace Go.Proofs.YtgkddhakhapjlaaGreatDoor

/-! ### terms with any variables -/
def cw (s : Sg) (n : Int) : Bool := decide (n < s.length)
def arW (s : Sg) (n : Int) : Nat := if n < 0 then 0 else (s.getD n.toNat default).2.toNat
def skw (s : Sg) : Nat → List Int → Option (List Int)
  | 0, l => some l
  | _ + 1, [] => none
  | k + 1, n :: r => if cw s n then skw s (k + arW s n) r else none
theorem skw_zero (s : Sg) (l : List Int) : skw s 0 l = some l := by cases l <;> rfl

theorem skw_nil (s : Sg) (k : Nat) : skw s (k + 1) [] = none := rfl

theorem skw_cons (s : Sg) (k : Nat) (n : Int) (r : List Int) : skw s (k + 1) (n :: r) = if cw s n then skw s (k + arW s n) r else none := rfl

theorem skw_add (s : Sg) (j k : Nat) (l : List Int) : skw s (j + k) l = (skw s j l).bind (skw s k) := by
  induction l generalizing j with
  | nil => cases j with
    | zero => simp [skw_zero]
    | succ j => rw [show j + 1 + k = (j + k) + 1 by omega]; rfl
  | cons n r ih => cases j with
    | zero => simp [skw_zero]
    | succ j =>
      rw [show j + 1 + k = (j + k) + 1 by omega, skw_cons, skw_cons]
      split
      · rw [show j + k + arW s n = j + arW s n + k by omega, ih]
      · rfl

theorem skw_append (s : Sg) (k : Nat) (l x : List Int) (r : List Int) (h : skw s k l = some r) : skw s k (l ++ x) = some (r ++ x) := by
  induction l generalizing k with
  | nil => cases k with
    | zero => simp only [skw_zero, Option.some.injEq] at h ⊢; rw [← h]
    | succ k => simp [skw_nil] at h
  | cons n t ih => cases k with
    | zero => simp only [skw_zero, Option.some.injEq] at h ⊢; rw [← h]
    | succ k =>
      rw [skw_cons] at h
      rw [List.cons_append, skw_cons]
      split at h
      · rw [if_pos ‹_›]; exact ih _ h
      · cases h

theorem skw_split (s : Sg) (k : Nat) (l r : List Int) (h : skw s k l = some r) : ∃ u, l = u ++ r ∧ skw s k u = some [] ∧ k ≤ u.length := by
  induction l generalizing k with
  | nil => cases k with
    | zero => simp only [skw_zero, Option.some.injEq] at h; subst h; exact ⟨[], rfl, rfl, Nat.le_refl _⟩
    | succ k => simp [skw_nil] at h
  | cons n t ih => cases k with
    | zero => simp only [skw_zero, Option.some.injEq] at h; subst h; exact ⟨[], rfl, rfl, Nat.zero_le _⟩
    | succ k =>
      rw [skw_cons] at h
      split at h
      · rename_i hc
        obtain ⟨u, rfl, hu, hl⟩ := ih _ h
        exact ⟨n :: u, rfl, by rw [skw_cons, if_pos hc, hu], by simp; omega⟩
      · cases h

theorem skw_len (s : Sg) (k : Nat) (l r : List Int) (h : skw s k l = some r) : r.length + k ≤ l.length := by
  obtain ⟨u, rfl, _, hl⟩ := skw_split s k l r h
  simp; omega

def partW (s : Sg) (l : List Int) : List Int := l.take (l.length - ((skw s 1 l).getD []).length)

def splitW (s : Sg) : Nat → List Int → List (List Int)
  | 0, _ => []
  | k + 1, l => partW s l :: splitW s k ((skw s 1 l).getD [])

def argsW (s : Sg) (t : List Int) : List (List Int) := match t with | [] => [] | n :: r => splitW s (arW s n) r

theorem partW_eq {s : Sg} {l r : List Int} (h : skw s 1 l = some r) : l = partW s l ++ r ∧ skw s 1 (partW s l) = some [] ∧ 1 ≤ (partW s l).length := by
  obtain ⟨u, rfl, hu, hl⟩ := skw_split s 1 l r h
  have : partW s (u ++ r) = u := by
    unfold partW
    rw [h]; simp
  rw [this]; exact ⟨rfl, hu, hl⟩

theorem partW_len {s : Sg} {l r : List Int} (h : skw s 1 l = some r) : (partW s l).length = l.length - r.length := by
  obtain ⟨h1, _, _⟩ := partW_eq h
  have : l.length = (partW s l).length + r.length := by rw [← List.length_append, ← h1]
  omega

theorem skw_one {s : Sg} {k : Nat} {l r : List Int} (h : skw s (k + 1) l = some r) : ∃ m, skw s 1 l = some m ∧ skw s k m = some r := by
  rw [Nat.add_comm, skw_add] at h
  cases hm : skw s 1 l with
  | none => rw [hm] at h; cases h
  | some m => rw [hm] at h; exact ⟨m, rfl, h⟩

theorem splitW_spec (s : Sg) : ∀ (k : Nat) (l r : List Int), skw s k l = some r → (splitW s k l).length = k ∧ (splitW s k l).flatten ++ r = l ∧ ∀ u ∈ splitW s k l, skw s 1 u = some [] ∧ 1 ≤ u.length
  | 0, l, r, h => by
    rw [skw_zero] at h
    simp only [Option.some.injEq] at h
    exact ⟨rfl, by rw [← h]; rfl, fun u hu => by simp [splitW] at hu⟩
  | k + 1, l, r, h => by
    obtain ⟨m, h1, h2⟩ := skw_one h
    obtain ⟨a1, a2, a3⟩ := splitW_spec s k m r h2
    obtain ⟨b1, b2, b3⟩ := partW_eq h1
    unfold splitW
    rw [h1]
    refine ⟨by simp [a1], ?_, ?_⟩
    · rw [List.flatten_cons, List.append_assoc, Option.getD_some, a2]; exact b1.symm
    · intro u hu
      rcases List.mem_cons.1 hu with rfl | hu
      · exact ⟨b2, b3⟩
      · exact a3 u hu

theorem skw_flatten {s : Sg} : ∀ (l : List (List Int)), (∀ u ∈ l, skw s 1 u = some []) → skw s l.length l.flatten = some []
  | [], _ => rfl
  | u :: l, h => by
    rw [List.length_cons, Nat.add_comm, skw_add, List.flatten_cons]
    have := skw_append s 1 u l.flatten [] (h u (by simp))
    rw [this]
    exact skw_flatten l (fun v hv => h v (by simp [hv]))

theorem splitW_flatten {s : Sg} : ∀ (l : List (List Int)) (x : List Int), (∀ u ∈ l, skw s 1 u = some []) → splitW s l.length (l.flatten ++ x) = l
  | [], _, _ => rfl
  | u :: l, x, h => by
    have hu := h u (by simp)
    have h1 := skw_append s 1 u (l.flatten ++ x) [] hu
    rw [List.nil_append] at h1
    rw [List.length_cons, splitW, List.flatten_cons, List.append_assoc, h1, Option.getD_some, splitW_flatten l x (fun v hv => h v (by simp [hv]))]
    congr 1
    unfold partW
    rw [h1]; simp

theorem skw_pos {s : Sg} {k : Nat} {l r : List Int} (h : skw s (k + 1) l = some r) : ∃ n x, l = n :: x ∧ cw s n = true ∧ skw s (k + arW s n) x = some r := by
  cases l with
  | nil => simp [skw_nil] at h
  | cons n x =>
    rw [skw_cons] at h
    split at h
    · exact ⟨n, x, rfl, ‹_›, h⟩
    · cases h

theorem skw_drop {s : Sg} {k p : Nat} {t r : List Int} (h : skw s (k + 1) (t.drop p) = some r) : ∃ hp : p < t.length, cw s t[p] = true ∧ skw s (k + arW s t[p]) (t.drop (p + 1)) = some r := by
  obtain ⟨n, x, hx, hc, hs⟩ := skw_pos h
  have hp : p < t.length := by
    rcases Nat.lt_or_ge p t.length with h | h
    · exact h
    · rw [List.drop_eq_nil_of_le h] at hx; cases hx
  rw [List.drop_eq_getElem_cons hp] at hx
  simp only [List.cons.injEq] at hx
  obtain ⟨rfl, rfl⟩ := hx
  exact ⟨hp, hc, hs⟩

theorem splitW_append {s : Sg} {k : Nat} {l x : List Int} (h : skw s k l = some []) : splitW s k (l ++ x) = splitW s k l := by
  obtain ⟨h1, h2, h3⟩ := splitW_spec s k l [] h
  rw [List.append_nil] at h2
  have := splitW_flatten (s := s) (splitW s k l) x (fun u hu => (h3 u hu).1)
  rw [h1, h2] at this
  exact this

abbrev W1 (s : Sg) (t : List Int) : Prop := skw s 1 t = some []
theorem codeOk_w {s : Sg} {n : Int} (h : codeOk s n = true) : cw s n = true ∧ ar s n = arW s n := by
  simp [codeOk] at h
  unfold cw arW ar arC
  rcases h with h | h
  · refine ⟨by simp; omega, ?_⟩
    rw [if_pos h, if_pos (by omega)]; rfl
  · refine ⟨by simp; omega, ?_⟩
    rw [if_neg (by omega), if_pos h, if_neg (by omega)]
theorem skw_of_skip {s : Sg} : ∀ {k : Nat} {l r : List Int}, skip s k l = some r → skw s k l = some r
  | 0, l, r, h => by rw [skip_zero] at h; rw [skw_zero]; exact h
  | k + 1, [], r, h => by simp [skip_nil] at h
  | k + 1, n :: l, r, h => by
    rw [skip_cons] at h
    split at h
    · rename_i hc
      obtain ⟨h1, h2⟩ := codeOk_w hc
      rw [h2] at h
      rw [skw_cons, if_pos h1]; exact skw_of_skip h
    · cases h
theorem okT_w1 {s : Sg} {t : List Int} (h : okT s t = true) : W1 s t := skw_of_skip (okT_parts h).2.2.2
theorem W1.ne {s : Sg} {t : List Int} (h : W1 s t) : t ≠ [] := by intro e; subst e; simp [W1, skw_nil] at h
theorem W1.len {s : Sg} {t : List Int} (h : W1 s t) : 1 ≤ t.length := by have := skw_len s 1 t [] h; simpa using this
theorem W1.var {s : Sg} {n : Int} (h : n < 0) : W1 s [n] := by
  unfold W1
  rw [skw_cons, if_pos (by unfold cw; simp; omega), Nat.zero_add, arW, if_pos h, skw_zero]
theorem W1.uniq {s : Sg} {x y r r' : List Int} (hx : W1 s x) (hy : W1 s y) (h : x ++ r = y ++ r') : x = y ∧ r = r' := by
  have h1 := skw_append s 1 x r [] hx
  have h2 := skw_append s 1 y r' [] hy
  rw [h, h2, List.nil_append, List.nil_append, Option.some.injEq] at h1
  subst h1
  exact ⟨List.append_cancel_right h, rfl⟩
/-- a head with its arguments -/
theorem W1.args {s : Sg} {n : Int} {x : List Int} (h : W1 s (n :: x)) : (argsW s (n :: x)).length = arW s n ∧ (argsW s (n :: x)).flatten = x ∧ (∀ u ∈ argsW s (n :: x), W1 s u) ∧ n < s.length := by
  unfold W1 at h
  rw [skw_cons] at h
  split at h
  · rename_i hc
    rw [Nat.zero_add] at h
    obtain ⟨a1, a2, a3⟩ := splitW_spec s (arW s n) x [] h
    rw [List.append_nil] at a2
    exact ⟨a1, a2, fun u hu => (a3 u hu).1, by simpa [cw] using hc⟩
  · cases h
theorem W1.leaf {s : Sg} {n : Int} {x : List Int} (h : W1 s (n :: x)) (hn : n < 0) : x = [] := by
  unfold W1 at h
  rw [skw_cons] at h
  split at h
  · rw [Nat.zero_add, arW, if_pos hn, skw_zero] at h; simpa using h
  · cases h

/-! ### putting in -/
def ap (θ : Int → List Int) (t : List Int) : List Int := t.flatMap (fun n => if n < 0 then θ n else [n])
theorem ap_nil (θ : Int → List Int) : ap θ [] = [] := rfl
theorem ap_neg {θ : Int → List Int} {n : Int} {r : List Int} (h : n < 0) : ap θ (n :: r) = θ n ++ ap θ r := by unfold ap; rw [List.flatMap_cons, if_pos h]
theorem ap_pos {θ : Int → List Int} {n : Int} {r : List Int} (h : ¬ n < 0) : ap θ (n :: r) = n :: ap θ r := by unfold ap; rw [List.flatMap_cons, if_neg h]; rfl
theorem ap_one {θ : Int → List Int} {n : Int} (h : n < 0) : ap θ [n] = θ n := by rw [ap_neg h, ap_nil, List.append_nil]
theorem ap_append (θ : Int → List Int) (a b : List Int) : ap θ (a ++ b) = ap θ a ++ ap θ b := by unfold ap; rw [List.flatMap_append]
theorem ap_flatten (θ : Int → List Int) (l : List (List Int)) : ap θ l.flatten = (l.map (ap θ)).flatten := by
  induction l with
  | nil => rfl
  | cons x r ih => rw [List.flatten_cons, ap_append, ih, List.map_cons, List.flatten_cons]
theorem ap_congr {θ η : Int → List Int} : ∀ {t : List Int}, (∀ n ∈ t, n < 0 → θ n = η n) → ap θ t = ap η t
  | [], _ => rfl
  | n :: r, h => by
    have ih := ap_congr (t := r) (fun m hm => h m (by simp [hm]))
    by_cases hn : n < 0
    · rw [ap_neg hn, ap_neg hn, ih, h n (by simp) hn]
    · rw [ap_pos hn, ap_pos hn, ih]
theorem ap_id {θ : Int → List Int} : ∀ {t : List Int}, (∀ n ∈ t, n < 0 → θ n = [n]) → ap θ t = t
  | [], _ => rfl
  | n :: r, h => by
    have ih := ap_id (t := r) (fun m hm => h m (by simp [hm]))
    by_cases hn : n < 0
    · rw [ap_neg hn, ih, h n (by simp) hn]; rfl
    · rw [ap_pos hn, ih]
theorem ap_ap (θ η : Int → List Int) (t : List Int) : ap η (ap θ t) = ap (fun n => ap η (θ n)) t := by
  induction t with
  | nil => rfl
  | cons n r ih =>
    by_cases hn : n < 0
    · rw [ap_neg hn, ap_append, ih, ap_neg hn]
    · rw [ap_pos hn, ap_pos hn, ih, ap_pos hn]
theorem mem_ap {θ : Int → List Int} {m : Int} : ∀ {t : List Int}, m ∈ ap θ t ↔ (m ∈ t ∧ ¬ m < 0) ∨ ∃ n ∈ t, n < 0 ∧ m ∈ θ n
  | [] => by simp [ap_nil]
  | n :: r => by
    by_cases hn : n < 0
    · rw [ap_neg hn, List.mem_append, mem_ap]
      constructor
      · rintro (h | ⟨h1, h2⟩ | ⟨k, h1, h2, h3⟩)
        · exact .inr ⟨n, by simp, hn, h⟩
        · exact .inl ⟨by simp [h1], h2⟩
        · exact .inr ⟨k, by simp [h1], h2, h3⟩
      · rintro (⟨h1, h2⟩ | ⟨k, h1, h2, h3⟩)
        · rcases List.mem_cons.1 h1 with e | e
          · subst e; exact (h2 hn).elim
          · exact .inr (.inl ⟨e, h2⟩)
        · rcases List.mem_cons.1 h1 with e | e
          · subst e; exact .inl h3
          · exact .inr (.inr ⟨k, e, h2, h3⟩)
    · rw [ap_pos hn, List.mem_cons, mem_ap]
      constructor
      · rintro (h | ⟨h1, h2⟩ | ⟨k, h1, h2, h3⟩)
        · subst h; exact .inl ⟨by simp, hn⟩
        · exact .inl ⟨by simp [h1], h2⟩
        · exact .inr ⟨k, by simp [h1], h2, h3⟩
      · rintro (⟨h1, h2⟩ | ⟨k, h1, h2, h3⟩)
        · rcases List.mem_cons.1 h1 with e | e
          · exact .inl e
          · exact .inr (.inl ⟨e, h2⟩)
        · rcases List.mem_cons.1 h1 with e | e
          · subst e; exact (hn h2).elim
          · exact .inr (.inr ⟨k, e, h2, h3⟩)
def Wsub (s : Sg) (θ : Int → List Int) : Prop := ∀ n, n < 0 → W1 s (θ n)
theorem skw_ap {s : Sg} {θ : Int → List Int} (hθ : Wsub s θ) : ∀ {t : List Int} {k : Nat} {r : List Int}, skw s k t = some r → skw s k (ap θ t) = some (ap θ r)
  | t, 0, r, h => by rw [skw_zero, Option.some.injEq] at h ⊢; rw [h]
  | [], k + 1, r, h => by simp [skw_nil] at h
  | n :: t, k + 1, r, h => by
    rw [skw_cons] at h
    split at h
    · rename_i hc
      have ih := skw_ap hθ h
      by_cases hn : n < 0
      · rw [arW, if_pos hn, Nat.add_zero] at ih
        rw [ap_neg hn, Nat.add_comm, skw_add, skw_append s 1 (θ n) (ap θ t) [] (hθ n hn)]
        exact ih
      · rw [ap_pos hn, skw_cons, if_pos hc]; exact ih
    · cases h
theorem W1.ap {s : Sg} {θ : Int → List Int} (hθ : Wsub s θ) {t : List Int} (h : W1 s t) : W1 s (ap θ t) := skw_ap hθ h
theorem ap_len {s : Sg} {θ : Int → List Int} (hθ : Wsub s θ) : ∀ (t : List Int), t.length ≤ (ap θ t).length
  | [] => Nat.le_refl _
  | n :: r => by
    have ih := ap_len hθ r
    by_cases hn : n < 0
    · rw [ap_neg hn, List.length_append, List.length_cons]; have := (hθ n hn).len; omega
    · rw [ap_pos hn, List.length_cons, List.length_cons]; omega
theorem ap_len_mem {s : Sg} {θ : Int → List Int} (hθ : Wsub s θ) : ∀ {t : List Int} {v : Int}, v ∈ t → v < 0 → (θ v).length + t.length ≤ (ap θ t).length + 1
  | [], v, h, _ => by simp at h
  | n :: r, v, h, hv => by
    by_cases hn : n < 0
    · rw [ap_neg hn, List.length_append, List.length_cons]
      rcases List.mem_cons.1 h with e | e
      · subst e; have := ap_len hθ r; omega
      · have := ap_len_mem hθ e hv; have := (hθ n hn).len; omega
    · rw [ap_pos hn, List.length_cons, List.length_cons]
      rcases List.mem_cons.1 h with e | e
      · subst e; exact (hn hv).elim
      · have := ap_len_mem hθ e hv; omega
theorem flatten_uniq {s : Sg} : ∀ {l m : List (List Int)}, l.length = m.length → (∀ u ∈ l, W1 s u) → (∀ u ∈ m, W1 s u) → l.flatten = m.flatten → l = m
  | [], [], _, _, _, _ => rfl
  | x :: l, y :: m, h1, h2, h3, h4 => by
    rw [List.flatten_cons, List.flatten_cons] at h4
    obtain ⟨e1, e2⟩ := W1.uniq (h2 x (by simp)) (h3 y (by simp)) h4
    rw [e1, flatten_uniq (by simpa using h1) (fun u hu => h2 u (by simp [hu])) (fun u hu => h3 u (by simp [hu])) e2]
/-- two terms with one head become equal exactly if their arguments do -/
theorem ap_eq_args {s : Sg} {θ : Int → List Int} (hθ : Wsub s θ) {n : Int} {x y : List Int} (hx : W1 s (n :: x)) (hy : W1 s (n :: y)) (hn : 0 ≤ n) :
    ap θ (n :: x) = ap θ (n :: y) ↔ (argsW s (n :: x)).map (ap θ) = (argsW s (n :: y)).map (ap θ) := by
  obtain ⟨a1, a2, a3, -⟩ := hx.args
  obtain ⟨b1, b2, b3, -⟩ := hy.args
  have hn' : ¬ n < 0 := by omega
  rw [ap_pos hn', ap_pos hn', List.cons.injEq]
  constructor
  · rintro ⟨-, h⟩
    rw [← a2, ← b2, ap_flatten, ap_flatten] at h
    refine flatten_uniq (s := s) (by simp [a1, b1]) (fun u hu => ?_) (fun u hu => ?_) h
    · obtain ⟨v, hv, rfl⟩ := List.mem_map.1 hu; exact (a3 v hv).ap hθ
    · obtain ⟨v, hv, rfl⟩ := List.mem_map.1 hu; exact (b3 v hv).ap hθ
  · intro h
    refine ⟨rfl, ?_⟩
    rw [← a2, ← b2, ap_flatten, ap_flatten, h]

/-! ### what is bound -/
abbrev Bd := Int → Option (List Int)
def Sat (B : Bd) (η : Int → List Int) : Prop := ∀ n u, B n = some u → η n = ap η u
/-- variables are bound without a circle; θ puts in all that is bound, and ρ counts down -/
structure Slv (s : Sg) (B : Bd) (θ : Int → List Int) (ρ : Int → Nat) : Prop where
  wf : ∀ n u, B n = some u → W1 s u ∧ n < 0
  free : ∀ n, n < 0 → B n = none → θ n = [n]
  bnd : Sat B θ
  idem : ∀ n, n < 0 → ∀ m ∈ θ n, m < 0 → B m = none
  rk : ∀ n u, B n = some u → ∀ m ∈ u, m < 0 → ρ m < ρ n
  th : Wsub s θ
theorem Slv.empty (s : Sg) : Slv s (fun _ => none) (fun n => [n]) (fun _ => 0) :=
  ⟨fun _ _ h => (by cases h), fun _ _ _ => rfl, fun _ _ h => (by cases h), fun _ _ _ _ _ => rfl, fun _ _ h => (by cases h), fun _ h => W1.var h⟩
section
variable {s : Sg} {B : Bd} {θ : Int → List Int} {ρ : Int → Nat}
theorem Slv.most_var (h : Slv s B θ ρ) {η : Int → List Int} (hη : Sat B η) : ∀ (k : Nat) (n : Int), n < 0 → ρ n ≤ k → ap η (θ n) = η n
  | k, n, hn, hk => by
    cases hB : B n with
    | none => rw [h.free n hn hB, ap_one hn]
    | some u =>
      rw [h.bnd n u hB, hη n u hB, ap_ap]
      refine ap_congr (fun m hm hm0 => ?_)
      have hr := h.rk n u hB m hm hm0
      cases k with
      | zero => omega
      | succ k => exact h.most_var hη k m hm0 (by omega)
/-- all that fits what is bound fits it through θ -/
theorem Slv.most (h : Slv s B θ ρ) {η : Int → List Int} (hη : Sat B η) (t : List Int) : ap η (ap θ t) = ap η t := by
  rw [ap_ap]
  exact ap_congr (fun n _ hn => h.most_var hη (ρ n) n hn (Nat.le_refl _))
theorem Slv.idem_ap (h : Slv s B θ ρ) (t : List Int) : ∀ m ∈ ap θ t, m < 0 → B m = none := by
  intro m hm hm0
  rcases mem_ap.1 hm with ⟨-, h2⟩ | ⟨n, -, hn, hmn⟩
  · exact (h2 hm0).elim
  · exact h.idem n hn m hmn hm0
def upB (B : Bd) (v : Int) (q : List Int) : Bd := fun n => if n = v then some q else B n
/-- one more variable is bound -/
theorem Slv.bind (h : Slv s B θ ρ) {v : Int} {q : List Int} (hv : v < 0) (hB : B v = none) (hq : W1 s q) (hocc : v ∉ ap θ q) :
    ∃ θ' ρ', Slv s (upB B v q) θ' ρ' := by
  obtain ⟨M, hM⟩ : ∃ M, ∀ m ∈ q, m < 0 → ρ m < M := by
    clear hq hocc
    induction q with
    | nil => exact ⟨0, fun m hm => by simp at hm⟩
    | cons x r ih =>
      obtain ⟨M, hM⟩ := ih
      refine ⟨M + ρ x + 1, fun m hm hm0 => ?_⟩
      rcases List.mem_cons.1 hm with e | e
      · subst e; omega
      · have := hM m e hm0; omega
  have hσ : ∀ x : List Int, v ∉ x → ap (fun n => if n = v then ap θ q else [n]) x = x := fun x hx => ap_id (fun n hn _ => by
    rw [if_neg]
    intro e; subst e; exact hx hn)
  have hvv := h.free v hv hB
  refine ⟨fun n => ap (fun n => if n = v then ap θ q else [n]) (θ n), fun n => if v ∈ θ n then ρ n + M + 1 else ρ n, ?_, ?_, ?_, ?_, ?_, ?_⟩
  · intro n u hn
    unfold upB at hn
    split at hn
    · cases hn; rename_i e; subst e; exact ⟨hq, hv⟩
    · exact h.wf n u hn
  · intro n hn hBn
    unfold upB at hBn
    split at hBn
    · cases hBn
    · rename_i hne
      rw [h.free n hn hBn, ap_one hn, if_neg hne]
  · intro n u hn
    unfold upB at hn
    split at hn
    · rename_i e
      subst e
      cases hn
      show ap _ (θ n) = _
      rw [hvv, ap_one hv, if_pos rfl, ← ap_ap, hσ _ hocc]
    · show ap _ (θ n) = _
      rw [← ap_ap, h.bnd n u hn]
  · intro n hn m hm hm0
    have key : m ≠ v ∧ B m = none := by
      rcases mem_ap.1 hm with ⟨-, h2⟩ | ⟨k, hk, hk0, hmk⟩
      · exact (h2 hm0).elim
      · by_cases hkv : k = v
        · rw [if_pos hkv] at hmk
          exact ⟨fun e => hocc (e ▸ hmk), h.idem_ap q m hmk hm0⟩
        · rw [if_neg hkv, List.mem_singleton] at hmk
          subst hmk
          exact ⟨hkv, h.idem n hn m hk hm0⟩
    unfold upB
    rw [if_neg key.1]; exact key.2
  · intro n u hn m hm hm0
    unfold upB at hn
    split at hn
    · rename_i e
      subst e
      cases hn
      have hmv : n ∉ θ m := fun e => hocc (mem_ap.2 (.inr ⟨m, hm, hm0, e⟩))
      have := hM m hm hm0
      rw [if_neg hmv, if_pos (by rw [hvv]; simp)]; omega
    · have hr := h.rk n u hn m hm hm0
      have himp : v ∈ θ m → v ∈ θ n := fun e => by rw [h.bnd n u hn]; exact mem_ap.2 (.inr ⟨m, hm, hm0, e⟩)
      by_cases h1 : v ∈ θ m
      · rw [if_pos h1, if_pos (himp h1)]; omega
      · rw [if_neg h1]; split <;> omega
  · intro n hn
    refine (h.th n hn).ap (fun k hk => ?_)
    by_cases hkv : k = v
    · simp only [if_pos hkv]; exact hq.ap h.th
    · simp only [if_neg hkv]; exact W1.var hk
theorem sat_upB {v : Int} {q : List Int} (hB : B v = none) {η : Int → List Int} : Sat (upB B v q) η ↔ Sat B η ∧ η v = ap η q := by
  constructor
  · intro h
    refine ⟨fun n u hn => h n u ?_, h v q (by simp [upB])⟩
    unfold upB
    rw [if_neg (fun e => by rw [e, hB] at hn; cases hn)]; exact hn
  · rintro ⟨h1, h2⟩ n u hn
    unfold upB at hn
    split at hn
    · rename_i e; subst e; cases hn; exact h2
    · exact h1 n u hn
/-- a variable never becomes what it comes in -/
theorem Slv.occurs_no (h : Slv s B θ ρ) {v : Int} {q : List Int} (hv : v < 0) (hocc : v ∈ ap θ q) (hne : ap θ q ≠ [v]) {η : Int → List Int} (hw : Wsub s η) (hη : Sat B η) : η v ≠ ap η q := by
  intro e
  have h1 := ap_len_mem hw hocc hv
  rw [h.most hη q, ← e] at h1
  cases hx : ap θ q with
  | nil => rw [hx] at hocc; simp at hocc
  | cons x r =>
    cases r with
    | nil =>
      rw [hx] at hocc hne
      simp at hocc
      subst hocc
      exact hne rfl
    | cons y r =>
      rw [hx] at h1
      simp at h1
end

/-! ### two most general ones differ in names only -/
theorem ap_map_of_len {s : Sg} {θ : Int → List Int} (hθ : Wsub s θ) : ∀ {t : List Int}, (ap θ t).length = t.length → ∀ n ∈ t, n < 0 → (θ n).length = 1
  | [], _, n, hn, _ => by simp at hn
  | x :: r, h, n, hn, hn0 => by
    have h1 := ap_len_mem hθ hn hn0
    have h2 := (hθ n hn0).len
    omega
def varOf (θ : Int → List Int) (n : Int) : Int := if n < 0 then (θ n).headD 0 else n
theorem ap_as_map {s : Sg} {θ : Int → List Int} (hθ : Wsub s θ) : ∀ {t : List Int}, (∀ n ∈ t, n < 0 → (θ n).length = 1) → ap θ t = t.map (varOf θ)
  | [], _ => rfl
  | x :: r, h => by
    have ih := ap_as_map hθ (t := r) (fun n hn => h n (by simp [hn]))
    by_cases hx : x < 0
    · have h1 := h x (by simp) hx
      rw [ap_neg hx, ih, List.map_cons, varOf, if_pos hx]
      match hθx : θ x, h1 with
      | [y], _ => rfl
    · rw [ap_pos hx, ih, List.map_cons, varOf, if_neg hx]
theorem canon_two {s : Sg} {θ1 θ2 : Int → List Int} (h1 : Wsub s θ1) (h2 : Wsub s θ2) {u1 u2 : List Int} (e1 : ap θ2 u1 = u2) (e2 : ap θ1 u2 = u1) : canon u1 = canon u2 ∧ u1.length = u2.length ∧ (varsC u1).length = (varsC u2).length := by
  have l1 := ap_len h2 u1
  have l2 := ap_len h1 u2
  rw [e1] at l1
  rw [e2] at l2
  have hl : u1.length = u2.length := by omega
  have m1 := ap_as_map h2 (ap_map_of_len h2 (t := u1) (by rw [e1]; exact hl.symm))
  have m2 := ap_as_map h1 (ap_map_of_len h1 (t := u2) (by rw [e2]; exact hl))
  rw [e1] at m1
  rw [e2] at m2
  have hid : ∀ n ∈ u1, varOf θ1 (varOf θ2 n) = n := by
    have : u1.map (fun n => varOf θ1 (varOf θ2 n)) = u1.map id := by
      rw [List.map_id, ← Function.comp_def, ← List.map_map, ← m1, ← m2]
    intro n hn
    obtain ⟨i, hi, rfl⟩ := List.getElem_of_mem hn
    have := congrArg (fun l => l[i]?) this
    simpa [hi] using this
  have hneg : ∀ x ∈ u1, x < 0 → varOf θ2 x < 0 := by
    intro x hx hx0
    rcases Int.lt_or_le (varOf θ2 x) 0 with h | h
    · exact h
    · have h3 := hid x hx
      rw [varOf, if_neg (by omega)] at h3
      omega
  have hpos : ∀ x ∈ u1, 0 ≤ x → varOf θ2 x = x := fun x _ h => by rw [varOf, if_neg (by omega)]
  have hinj : ∀ x ∈ u1, ∀ y ∈ u1, varOf θ2 x = varOf θ2 y → x = y := fun x hx y hy e => by rw [← hid x hx, ← hid y hy, e]
  refine ⟨?_, hl, ?_⟩
  · rw [m1]; exact (canon_map (varOf θ2) u1 hpos hneg (fun x hx y hy _ _ e => hinj x hx y hy e)).symm
  · rw [m1, varsC_map (varOf θ2) u1 (fun x hx => ⟨hneg x hx, fun h => by
      rcases Int.lt_or_le x 0 with g | g
      · exact g
      · rw [hpos x hx g] at h; exact h⟩) (fun x hx y hy _ _ e => hinj x hx y hy e), List.length_map]
theorem Slv.two {s : Sg} {B1 B2 : Bd} {θ1 θ2 : Int → List Int} {ρ1 ρ2 : Int → Nat} (h1 : Slv s B1 θ1 ρ1) (h2 : Slv s B2 θ2 ρ2) (h12 : Sat B2 θ1) (h21 : Sat B1 θ2) (t : List Int) :
    canon (ap θ1 t) = canon (ap θ2 t) ∧ (ap θ1 t).length = (ap θ2 t).length ∧ (varsC (ap θ1 t)).length = (varsC (ap θ2 t)).length :=
  canon_two h1.th h2.th (h1.most h21 t) (h2.most h12 t)

/-! ### the unifier -/
/-- θ makes a and b equal, and whatever does so does it through θ -/
def IsMgu (s : Sg) (a b : List Int) (θ : Int → List Int) : Prop := ∃ B ρ, Slv s B θ ρ ∧ ∀ η, Wsub s η → (Sat B η ↔ ap η a = ap η b)
open Classical in
noncomputable def mgu (s : Sg) (a b : List Int) : Option (Int → List Int) := if h : ∃ θ, IsMgu s a b θ then some (Classical.choose h) else none
theorem IsMgu.eq {s : Sg} {a b : List Int} {θ : Int → List Int} (h : IsMgu s a b θ) : ap θ a = ap θ b := by
  obtain ⟨B, ρ, h1, h2⟩ := h; exact (h2 θ h1.th).1 h1.bnd
theorem IsMgu.most {s : Sg} {a b : List Int} {θ : Int → List Int} (h : IsMgu s a b θ) {η : Int → List Int} (hw : Wsub s η) (he : ap η a = ap η b) (t : List Int) : ap η (ap θ t) = ap η t := by
  obtain ⟨B, ρ, h1, h2⟩ := h; exact h1.most ((h2 η hw).2 he) t
theorem IsMgu.th {s : Sg} {a b : List Int} {θ : Int → List Int} (h : IsMgu s a b θ) : Wsub s θ := by obtain ⟨B, ρ, h1, -⟩ := h; exact h1.th
theorem IsMgu.two {s : Sg} {a b : List Int} {θ1 θ2 : Int → List Int} (h1 : IsMgu s a b θ1) (h2 : IsMgu s a b θ2) (t : List Int) :
    canon (ap θ1 t) = canon (ap θ2 t) ∧ (ap θ1 t).length = (ap θ2 t).length ∧ (varsC (ap θ1 t)).length = (varsC (ap θ2 t)).length :=
  canon_two h1.th h2.th (h1.most h2.th h2.eq t) (h2.most h1.th h1.eq t)
theorem mgu_some {s : Sg} {a b : List Int} {θ : Int → List Int} (h : mgu s a b = some θ) : IsMgu s a b θ := by
  unfold mgu at h
  split at h
  · rename_i hx; cases h; exact Classical.choose_spec hx
  · cases h
theorem mgu_none {s : Sg} {a b : List Int} (h : ∀ η, Wsub s η → ap η a ≠ ap η b) : mgu s a b = none := by
  unfold mgu
  rw [dif_neg]
  rintro ⟨θ, hθ⟩
  exact h θ hθ.th hθ.eq
/-- what becomes of t: its canonical form, if it is not too long and has not too many variables -/
def madeE (θ : Int → List Int) (t : List Int) : List Int × Int := if (ap θ t).length ≤ 60 ∧ (varsC (ap θ t)).length ≤ 12 then (canon (ap θ t), 0) else ([], 4)
noncomputable def uniE (s : Sg) (a b t : List Int) : List Int × Int := match mgu s a b with | some θ => madeE θ t | none => ([], 8)
theorem uniE_some {s : Sg} {a b : List Int} {θ : Int → List Int} (h : IsMgu s a b θ) (t : List Int) : uniE s a b t = madeE θ t := by
  unfold uniE
  cases hm : mgu s a b with
  | none => unfold mgu at hm; rw [dif_pos ⟨θ, h⟩] at hm; cases hm
  | some θ' =>
    obtain ⟨e1, e2, e3⟩ := h.two (mgu_some hm) t
    simp only [madeE, e1, e2, e3]
theorem uniE_none {s : Sg} {a b : List Int} (h : ∀ η, Wsub s η → ap η a ≠ ap η b) (t : List Int) : uniE s a b t = ([], 8) := by unfold uniE; rw [mgu_none h]
noncomputable def uniB (s : Sg) (a b : List Int) : Bool := (mgu s a b).isSome
theorem uniB_some {s : Sg} {a b : List Int} {θ : Int → List Int} (h : IsMgu s a b θ) : uniB s a b = true := by
  unfold uniB mgu; rw [dif_pos ⟨θ, h⟩]; rfl
theorem uniB_none {s : Sg} {a b : List Int} (h : ∀ η, Wsub s η → ap η a ≠ ap η b) : uniB s a b = false := by unfold uniB; rw [mgu_none h]; rfl
end Go.Proofs.YtgkddhakhapjlaaGreatDoor

/- How Go values in memory read as plain Lean data: slices of whatever element, and that a reading lasts while its blocks last. No program is named. -/
namespace Go.Proofs.YtgkddhakhapjlaaGreatDoor
open Go Go.RowKit

theorem ret_bool {a b : Bool} (h : a = b) : Ending.returned (.bool a) = .returned (.bool b) := by rw [h]
theorem ret_int {k : IntKind} {a b : Int} (h : a = b) : Ending.returned (.int k a) = .returned (.int k b) := by rw [h]

/-- nothing but draws -/
def Drew (w w' : World) : Prop := ∃ n, w' = w.drewN n
theorem Drew.refl (w : World) : Drew w w := ⟨0, rfl⟩
theorem Drew.mk (w : World) (n : Nat) : Drew w (w.drewN n) := ⟨n, rfl⟩
theorem Drew.mk2 (w : World) (n m : Nat) : Drew w ((w.drewN n).drewN m) := ⟨n + m, by simp⟩
theorem Drew.below {w w' : World} (h : Drew w w') (B : Nat) : Below B w w' := by
  obtain ⟨n, rfl⟩ := h
  exact ⟨rfl, rfl, rfl, Nat.le_refl _, fun _ _ => rfl⟩
theorem below_drewN {B : Nat} {a w : World} (h : Below B a w) (n : Nat) : Below B a (w.drewN n) := h.trans ⟨rfl, rfl, rfl, Nat.le_refl _, fun _ _ => rfl⟩
theorem int_ne {a b : Nat} (h : ¬ a = b) : ((a : Int) != (b : Int)) = true := by simpa using fun e => h (Int.ofNat.inj e)

/-- No block of S has turned. -/
def Agree (S : Nat → Prop) (w w' : World) : Prop := ∀ b, S b → b < w.heap.size → w'.heap[b]? = w.heap[b]?

theorem Agree.of_below {S : Nat → Prop} {B : Nat} {w w' : World} (h : Below B w w') (hS : ∀ b, S b → b < w.heap.size → b < B) : Agree S w w' :=
  fun b hb hl => h.block b (hS b hb hl)
theorem Agree.all {S : Nat → Prop} {w w' : World} (h : Below w.heap.size w w') : Agree S w w' := .of_below h (fun _ _ h => h)
theorem Agree.of_grown {S : Nat → Prop} {row : Option Nat} {w w' : World} (h : w.grownBy w' row) (hS : ∀ b, S b → some b ≠ row) : Agree S w w' :=
  fun b hb hl => h.block b hl (hS b hb)
theorem Agree.refl (S : Nat → Prop) (w : World) : Agree S w w := fun _ _ _ => rfl
theorem Agree.cell {S : Nat → Prop} {w w' : World} (h : Agree S w w') {p : Addr} (hp : S p.block) {v : Value} (hc : w.cell? p = some v) : w'.cell? p = some v :=
  (World.cell?_of_block (w := w) (h p.block hp (World.block_lt_of_cell? w p hc))).trans hc

/-- How one element of a type lies in cells. -/
structure Enc (α : Type) where
  size : Nat
  pos : 0 < size
  R : (Nat → Prop) → World → List Value → α → Prop
  len : ∀ {S w vs x}, R S w vs x → vs.length = size
  one : ∀ {S w vs x}, R S w vs x → ∀ u ∈ vs, u.oneCell' = true
  mono : ∀ {S S' w w' vs x}, R S w vs x → (∀ b, b < w.heap.size → S b → S' b) → Agree S w w' → R S' w' vs x

def big : Nat := 9223372036854775807
def inRange (x : Int) : Prop := -9223372036854775808 ≤ x ∧ x ≤ 9223372036854775807

/-- The slice '.slice a l.length c' reads as l, its elements in blocks of S. -/
structure Sl {α : Type} (E : Enc α) (S : Nat → Prop) (w : World) (a : Option Addr) (c : Nat) (l : List α) : Prop where
  cap : l.length ≤ c
  max : c ≤ big
  nil : a = none → l = [] ∧ c = 0
  dat : l ≠ [] → ∃ b off, a = some ⟨b, off, none⟩ ∧ S b ∧ b < w.heap.size ∧ ∀ i (h : i < l.length), ∃ vs, vs.length = E.size ∧ (∀ j (hj : j < vs.length), w.cell? ⟨b, off + i * E.size + j, none⟩ = some vs[j]) ∧ E.R S w vs l[i]

theorem Sl.mono {α : Type} {E : Enc α} {S S' : Nat → Prop} {w w' : World} {a : Option Addr} {c : Nat} {l : List α} (h : Sl E S w a c l) (hS : ∀ b, b < w.heap.size → S b → S' b) (hA : Agree S w w') : Sl E S' w' a c l := by
  refine ⟨h.cap, h.max, h.nil, fun hne => ?_⟩
  obtain ⟨b, off, ha, hb, hl, hc⟩ := h.dat hne
  have hl' : b < w'.heap.size := by
    have := hA b hb hl
    rw [Array.getElem?_eq_getElem hl] at this
    exact (Array.getElem?_eq_some_iff.1 this).1
  refine ⟨b, off, ha, hS b hl hb, hl', fun i hi => ?_⟩
  obtain ⟨vs, hn, hv, hr⟩ := hc i hi
  exact ⟨vs, hn, fun j hj => hA.cell (p := ⟨b, _, none⟩) hb (hv j hj), E.mono hr hS hA⟩
theorem Sl.same {α : Type} {E : Enc α} {S : Nat → Prop} {w w' : World} {a : Option Addr} {c : Nat} {l : List α} (h : Sl E S w a c l) (hA : Agree S w w') : Sl E S w' a c l := h.mono (fun _ _ h => h) hA
theorem Sl.below {α : Type} {E : Enc α} {S : Nat → Prop} {w w' : World} {a : Option Addr} {c : Nat} {l : List α} (h : Sl E S w a c l) (hB : Below w.heap.size w w') : Sl E S w' a c l := h.same (.all hB)
theorem Sl.lt {α : Type} {E : Enc α} {S : Nat → Prop} {w : World} {a : Option Addr} {c : Nat} {l : List α} (h : Sl E S w a c l) : Sl E (fun b => S b ∧ b < w.heap.size) w a c l := h.mono (fun _ h h' => ⟨h', h⟩) (fun _ _ _ => rfl)
theorem Sl.weak {α : Type} {E : Enc α} {S S' : Nat → Prop} {w : World} {a : Option Addr} {c : Nat} {l : List α} (h : Sl E S w a c l) (hS : ∀ b, S b → S' b) : Sl E S' w a c l := h.mono (fun b _ h => hS b h) (fun _ _ _ => rfl)
theorem Sl.empty {α : Type} {E : Enc α} {S : Nat → Prop} {w : World} : Sl E S w none 0 ([] : List α) := ⟨Nat.zero_le _, Nat.zero_le _, fun _ => ⟨rfl, rfl⟩, fun h => (h rfl).elim⟩
theorem Sl.le {α : Type} {E : Enc α} {S : Nat → Prop} {w : World} {a : Option Addr} {c : Nat} {l : List α} (h : Sl E S w a c l) : l.length ≤ 9223372036854775807 := Nat.le_trans h.cap h.max
theorem Sl.le' {α : Type} {E : Enc α} {S : Nat → Prop} {w : World} {a : Option Addr} {c : Nat} {l : List α} (h : Sl E S w a c l) : (l.length : Int) ≤ 9223372036854775807 := by have := h.le; omega

/-- int -/
def intE : Enc Int where
  size := 1
  pos := by decide
  R _ _ vs x := vs = [.int .i64 x] ∧ inRange x
  len h := by rw [h.1]; rfl
  one h := by rw [h.1]; simp [Value.oneCell']
  mono h _ _ := h
/-- a slice as an element -/
def slE {α : Type} (E : Enc α) : Enc (List α) where
  size := 1
  pos := by decide
  R S w vs l := ∃ a c, vs = [.slice a l.length c] ∧ Sl E S w a c l
  len h := by obtain ⟨a, c, h, _⟩ := h; rw [h]; rfl
  one h := by obtain ⟨a, c, h, _⟩ := h; rw [h]; simp [Value.oneCell']
  mono h hS hA := by obtain ⟨a, c, h, h'⟩ := h; exact ⟨a, c, h, h'.mono hS hA⟩
/-- string -/
def strE : Enc ByteArray where
  size := 1
  pos := by decide
  R _ _ vs s := vs = [.string s] ∧ s.size ≤ big
  len h := by rw [h.1]; rfl
  one h := by rw [h.1]; simp [Value.oneCell']
  mono h _ _ := h
/-- two fields, one behind the other -/
def pairE {α β : Type} (E : Enc α) (F : Enc β) : Enc (α × β) where
  size := E.size + F.size
  pos := Nat.lt_of_lt_of_le E.pos (Nat.le_add_right _ _)
  R S w vs x := ∃ us ts, vs = us ++ ts ∧ E.R S w us x.1 ∧ F.R S w ts x.2
  len h := by obtain ⟨us, ts, rfl, h1, h2⟩ := h; rw [List.length_append, E.len h1, F.len h2]
  one h := by
    obtain ⟨us, ts, rfl, h1, h2⟩ := h
    intro u hu
    rcases List.mem_append.1 hu with h | h
    · exact E.one h1 u h
    · exact F.one h2 u h
  mono h hS hA := by obtain ⟨us, ts, h, h1, h2⟩ := h; exact ⟨us, ts, h, E.mono h1 hS hA, F.mono h2 hS hA⟩
/-- struct { Name string; Arity int } -/
def symE : Enc (ByteArray × Int) := pairE strE intE

abbrev Ints := Sl intE
abbrev Terms := Sl (slE intE)
abbrev Sign := Sl symE

theorem Sl.at1 {α : Type} {E : Enc α} {S : Nat → Prop} {w : World} {a : Option Addr} {c : Nat} {l : List α} (h : Sl E S w a c l) (i : Nat) (hi : i < l.length) :
    ∃ b off, a = some ⟨b, off, none⟩ ∧ S b ∧ b < w.heap.size ∧ ∃ vs, vs.length = E.size ∧ (∀ j (hj : j < vs.length), w.cell? ⟨b, off + i * E.size + j, none⟩ = some vs[j]) ∧ E.R S w vs l[i] := by
  obtain ⟨b, off, ha, hb, hl, hc⟩ := h.dat (by intro e; subst e; simp at hi)
  exact ⟨b, off, ha, hb, hl, hc i hi⟩

theorem Sl.int {S : Nat → Prop} {w : World} {a : Option Addr} {c : Nat} {l : List Int} (h : Ints S w a c l) (i : Nat) (hi : i < l.length) :
    ∃ b off, a = some ⟨b, off, none⟩ ∧ S b ∧ w.cell? ⟨b, off + i, none⟩ = some (.int .i64 l[i]) ∧ inRange l[i] := by
  obtain ⟨b, off, ha, hb, _, vs, _, hv, hr⟩ := h.at1 i hi
  obtain ⟨rfl, hx⟩ := hr
  have := hv 0 (by simp)
  simp [intE] at this
  exact ⟨b, off, ha, hb, this, hx⟩
theorem Sl.rng {S : Nat → Prop} {w : World} {a : Option Addr} {c : Nat} {l : List Int} (h : Ints S w a c l) : ∀ x ∈ l, inRange x := by
  intro x hx
  obtain ⟨i, hi, rfl⟩ := List.getElem_of_mem hx
  obtain ⟨_, _, _, _, _, h⟩ := h.int i hi
  exact h
theorem Sl.sub {α : Type} {E : Enc α} {S : Nat → Prop} {w : World} {a : Option Addr} {c : Nat} {l : List (List α)} (h : Sl (slE E) S w a c l) (i : Nat) (hi : i < l.length) :
    ∃ b off a' c', a = some ⟨b, off, none⟩ ∧ S b ∧ w.cell? ⟨b, off + i, none⟩ = some (.slice a' l[i].length c') ∧ Sl E S w a' c' l[i] := by
  obtain ⟨b, off, ha, hb, _, vs, _, hv, hr⟩ := h.at1 i hi
  obtain ⟨a', c', rfl, hx⟩ := hr
  have := hv 0 (by simp)
  simp [slE] at this
  exact ⟨b, off, a', c', ha, hb, this, hx⟩
theorem Sl.sym {S : Nat → Prop} {w : World} {a : Option Addr} {c : Nat} {l : List (ByteArray × Int)} (h : Sign S w a c l) (i : Nat) (hi : i < l.length) :
    ∃ b off, a = some ⟨b, off, none⟩ ∧ S b ∧ w.cell? ⟨b, off + i * 2, none⟩ = some (.string l[i].1) ∧ w.cell? ⟨b, off + i * 2 + 1, none⟩ = some (.int .i64 l[i].2) ∧ l[i].1.size ≤ big ∧ inRange l[i].2 := by
  obtain ⟨b, off, ha, hb, _, vs, _, hv, hr⟩ := h.at1 i hi
  obtain ⟨us, ts, rfl, ⟨rfl, h1⟩, ⟨rfl, h2⟩⟩ := hr
  have h0 := hv 0 (by simp)
  have h3 := hv 1 (by simp)
  simp [symE, pairE, strE, intE] at h0 h3
  exact ⟨b, off, ha, hb, h0, h3, h1, h2⟩

theorem Sl.drewN {α : Type} {E : Enc α} {S : Nat → Prop} {w : World} {a : Option Addr} {c : Nat} {l : List α} (h : Sl E S w a c l) (n : Nat) : Sl E S (w.drewN n) a c l := h.same (fun _ _ _ => rfl)
theorem Sl.drew {α : Type} {E : Enc α} {S : Nat → Prop} {w w' : World} {a : Option Addr} {c : Nat} {l : List α} (h : Sl E S w a c l) (hd : Drew w w') : Sl E S w' a c l := by obtain ⟨n, rfl⟩ := hd; exact h.drewN n
theorem Sl.any {α : Type} {E : Enc α} {S : Nat → Prop} {w : World} {a : Option Addr} {c : Nat} {l : List α} (h : Sl E S w a c l) : Sl E (fun _ => True) w a c l := h.mono (fun _ _ _ => trivial) (.refl _ _)
theorem below3 (w : World) (o1 o2 o3 : Obj) : Below w.heap.size w (((w.alloc o1).alloc o2).alloc o3) := (((Below.refl _ _).alloc (Nat.le_refl _) _).alloc (by simp) _).alloc (by simp; omega) _
theorem below2 (w : World) (o1 o2 : Obj) : Below w.heap.size w ((w.alloc o1).alloc o2) := ((Below.refl _ _).alloc (Nat.le_refl _) _).alloc (by simp) _
theorem below1 (w : World) (o1 : Obj) : Below w.heap.size w (w.alloc o1) := (Below.refl _ _).alloc (Nat.le_refl _) _
theorem below_step {B : Nat} {w wr w1 : World} {o : Obj} (hB : Below B w wr) (hle : B ≤ wr.heap.size) (h1 : Below (wr.alloc o).heap.size (wr.alloc o) w1) : Below B w w1 :=
  hB.trans (((below1 wr o).mono hle).trans (h1.mono (by simp; omega)))
theorem bytes_ext {x y : ByteArray} (h : x.toList = y.toList) : x = y := by
  rw [ByteArray.toList_eq, ByteArray.toList_eq] at h
  exact ByteArray.ext (Array.toList_inj.1 h)
theorem str_eq {x y : ByteArray} (h : x = y) : (x.toList == y.toList) = true := by simp [h]
theorem str_neq {x y : ByteArray} (h : x ≠ y) : (x.toList == y.toList) = false := by
  simp only [beq_eq_false_iff_ne]; exact fun e => h (bytes_ext e)
theorem quiet_add_left {P : Program} {f : FuncId} {args : Array Value} {w : World} {a n : Nat} {v : Value}
    (h : Calls P f args (w.drewN (a + n)) fun e w' => e = .returned v ∧ w.drewN (a + n) = w') :
    Calls P f args (w.drewN (a + n)) fun e w'' => e = .returned v ∧ ∃ m, w'' = w.drewN (a + m) :=
  h.mono fun _ _ ⟨he, hm⟩ => ⟨he, n, hm.symm⟩
theorem quiet_left {P : Program} {f : FuncId} {args : Array Value} {w : World} {n : Nat} {v : Value}
    (h : Calls P f args (w.drewN n) fun e w' => e = .returned v ∧ w.drewN n = w') : Calls P f args (w.drewN n) fun e w'' => e = .returned v ∧ ∃ m, w'' = w.drewN m :=
  h.mono fun _ _ ⟨he, hm⟩ => ⟨he, n, hm.symm⟩
end Go.Proofs.YtgkddhakhapjlaaGreatDoor

/- Walks: within, arity, and the comparisons of two lists of numbers. -/
namespace Go.Proofs.YtgkddhakhapjlaaGreatDoor
open Go Go.RowKit

theorem take_ne {l1 l2 : List Int} {k : Nat} (h1 : k < l1.length) (h2 : k < l2.length) (h : (l1[k] != l2[k]) = true) : l1 ≠ l2 := by
  intro e; subst e; simp at h
theorem take_succ_eq {l1 l2 : List Int} {k : Nat} (h1 : k < l1.length) (h2 : k < l2.length) (ht : l1.take k = l2.take k) (h : (l1[k] != l2[k]) = false) : l1.take (k + 1) = l2.take (k + 1) := by
  rw [List.take_succ_eq_append_getElem h1, List.take_succ_eq_append_getElem h2, ht]
  simp at h; rw [h]
theorem take_all_eq {l1 l2 : List Int} {k : Nat} (hl : l1.length = l2.length) (hk : ¬ k < l2.length) (ht : l1.take k = l2.take k) : l1 = l2 := by
  rw [List.take_of_length_le (by omega), List.take_of_length_le (by omega)] at ht; exact ht

set_option maxHeartbeats 400000 in
theorem within_any (n lo hi : Int) (w : World) :
    Calls Tryz.prog 107 #[.int .i64 n, .int .i64 lo, .int .i64 hi] w fun e w' => e = .returned (.bool (decide (lo ≤ n) && decide (n ≤ hi))) ∧ w = w' := by
  go_enter Tryz.func107, Tryz.ntmps107
  go_wp2
  all_goals go_ret
  all_goals exact ⟨ret_bool (by simp; omega), rfl⟩

set_option maxHeartbeats 400000 in
theorem rwithin_any (n lo hi : Int) (w : World) :
    Calls Tryz.prog 110 #[.int .i64 n, .int .i64 lo, .int .i64 hi] w fun e w' => e = .returned (.bool (decide (lo ≤ n) && decide (n ≤ hi))) ∧ w = w' := by
  go_enter Tryz.func110, Tryz.ntmps110
  go_wp2
  all_goals go_ret
  all_goals exact ⟨ret_bool (by simp; omega), rfl⟩

set_option maxHeartbeats 400000 in
theorem Same_any {S1 S2 : Nat → Prop} (a1 a2 : Option Addr) (c1 c2 : Nat) (l1 l2 : List Int) (w : World) (h1 : Ints S1 w a1 c1 l1) (h2 : Ints S2 w a2 c2 l2) :
    Calls Tryz.prog 21 #[.slice a1 l1.length c1, .slice a2 l2.length c2] w fun e w' => e = .returned (.bool (decide (l1 = l2))) ∧ Drew w w' := by
  have m1 := h1.le
  have m2 := h2.le
  by_cases hl : l1.length = l2.length
  · have hlH := Lib.hid hl
    go_enter Tryz.func21, Tryz.ntmps21
    go_wp2
    clear hl
    go_loopw [5] (fun i wr => ∃ k : Nat, k ≤ l1.length ∧ i = .int .i64 k ∧ l1.take k = l2.take k ∧ Drew w wr) (fun i _ => l1.length - (intOf i).toNat)
    case atStart => exact ⟨0, by omega, rfl, rfl, .refl _⟩
    case round =>
      obtain ⟨k, hk, rfl, ht, n, rfl⟩ := hrel
      have htH := Lib.hid ht
      clear ht
      have hle := hlH.out
      by_cases hlt : k < l1.length
      · have hlt2 : k < l2.length := by omega
        obtain ⟨b1, o1, rfl, -, q1, -⟩ := h1.int k hlt
        obtain ⟨b2, o2, rfl, -, q2, -⟩ := h2.int k hlt2
        clear h1 h2 hle
        go_wp2
        go_quiet (fail)
        all_goals go_wp2
        · go_ret
          exact ⟨ret_bool (decide_eq_false (take_ne hlt hlt2 (by assumption))).symm, .mk2 _ _ _⟩
        · exact ⟨⟨k + 1, by omega, by go_num, take_succ_eq hlt hlt2 htH.out (by assumption), .mk _ _⟩, by simp [intOf]; omega⟩
      · clear hle
        have hk2 : ¬ k < l2.length := by have := hlH.out; omega
        go_wp2
        go_ret
        exact ⟨ret_bool (decide_eq_true (take_all_eq hlH.out hk2 htH.out)).symm, .mk _ _⟩
  · go_enter Tryz.func21, Tryz.ntmps21
    have hb := int_ne hl
    go_wp2
    go_ret
    exact ⟨ret_bool (decide_eq_false (fun e => hl (by rw [e]))).symm, .refl _⟩
-- SameInts
set_option maxHeartbeats 400000 in
theorem SameInts_any {S1 S2 : Nat → Prop} (a1 a2 : Option Addr) (c1 c2 : Nat) (l1 l2 : List Int) (w : World) (h1 : Ints S1 w a1 c1 l1) (h2 : Ints S2 w a2 c2 l2) :
    Calls Tryz.prog 46 #[.slice a1 l1.length c1, .slice a2 l2.length c2] w fun e w' => e = .returned (.bool (decide (l1 = l2))) ∧ Drew w w' := by
  have m1 := h1.le
  have m2 := h2.le
  by_cases hl : l1.length = l2.length
  · have hlH := Lib.hid hl
    go_enter Tryz.func46, Tryz.ntmps46
    go_wp2
    clear hl
    go_loopw [5] (fun i wr => ∃ k : Nat, k ≤ l1.length ∧ i = .int .i64 k ∧ l1.take k = l2.take k ∧ Drew w wr) (fun i _ => l1.length - (intOf i).toNat)
    case atStart => exact ⟨0, by omega, rfl, rfl, .refl _⟩
    case round =>
      obtain ⟨k, hk, rfl, ht, n, rfl⟩ := hrel
      have htH := Lib.hid ht
      clear ht
      have hle := hlH.out
      by_cases hlt : k < l1.length
      · have hlt2 : k < l2.length := by omega
        obtain ⟨b1, o1, rfl, -, q1, -⟩ := h1.int k hlt
        obtain ⟨b2, o2, rfl, -, q2, -⟩ := h2.int k hlt2
        clear h1 h2 hle
        go_wp2
        go_quiet (fail)
        all_goals go_wp2
        · go_ret
          exact ⟨ret_bool (decide_eq_false (take_ne hlt hlt2 (by assumption))).symm, .mk2 _ _ _⟩
        · exact ⟨⟨k + 1, by omega, by go_num, take_succ_eq hlt hlt2 htH.out (by assumption), .mk _ _⟩, by simp [intOf]; omega⟩
      · clear hle
        have hk2 : ¬ k < l2.length := by have := hlH.out; omega
        go_wp2
        go_ret
        exact ⟨ret_bool (decide_eq_true (take_all_eq hlH.out hk2 htH.out)).symm, .mk _ _⟩
  · go_enter Tryz.func46, Tryz.ntmps46
    have hb := int_ne hl
    go_wp2
    go_ret
    exact ⟨ret_bool (decide_eq_false (fun e => hl (by rw [e]))).symm, .refl _⟩
set_option maxHeartbeats 400000 in
theorem Equal_any {S1 S2 : Nat → Prop} (a1 a2 : Option Addr) (c1 c2 : Nat) (l1 l2 : List Int) (w : World) (h1 : Ints S1 w a1 c1 l1) (h2 : Ints S2 w a2 c2 l2) :
    Calls Tryz.prog 140 #[.slice a1 l1.length c1, .slice a2 l2.length c2] w fun e w' => e = .returned (.bool (decide (l1 = l2))) ∧ Drew w w' := by
  have m1 := h1.le
  have m2 := h2.le
  by_cases hl : l1.length = l2.length
  · have hlH := Lib.hid hl
    go_enter Tryz.func140, Tryz.ntmps140
    go_wp2
    clear hl
    go_loopw [13] (fun i wr => ∃ k : Nat, k ≤ l1.length ∧ i = .int .i64 k ∧ l1.take k = l2.take k ∧ Drew w wr) (fun i _ => l1.length - (intOf i).toNat)
    case atStart => exact ⟨0, by omega, rfl, rfl, .refl _⟩
    case round =>
      obtain ⟨k, hk, rfl, ht, n, rfl⟩ := hrel
      have htH := Lib.hid ht
      clear ht
      have hle := hlH.out
      by_cases hlt : k < l1.length
      · have hlt2 : k < l2.length := by omega
        obtain ⟨b1, o1, rfl, -, q1, -⟩ := h1.int k hlt
        obtain ⟨b2, o2, rfl, -, q2, -⟩ := h2.int k hlt2
        clear h1 h2 hle
        go_wp2
        go_quiet (fail)
        all_goals go_wp2
        · go_ret
          exact ⟨ret_bool (decide_eq_false (take_ne hlt hlt2 (by assumption))).symm, .mk2 _ _ _⟩
        · exact ⟨⟨k + 1, by omega, by go_num, take_succ_eq hlt hlt2 htH.out (by assumption), .mk _ _⟩, by simp [intOf]; omega⟩
      · clear hle
        have hk2 : ¬ k < l2.length := by have := hlH.out; omega
        go_wp2
        go_ret
        exact ⟨ret_bool (decide_eq_true (take_all_eq hlH.out hk2 htH.out)).symm, .mk _ _⟩
  · go_enter Tryz.func140, Tryz.ntmps140
    have hb := int_ne hl
    go_wp2
    go_ret
    exact ⟨ret_bool (decide_eq_false (fun e => hl (by rw [e]))).symm, .refl _⟩

theorem has_step {l : List Int} {x : Int} {k : Nat} (h : k < l.length) (h0 : x ∉ l.take k) (hx : (l[k] == x) = false) : x ∉ l.take (k + 1) := by
  rw [List.take_succ_eq_append_getElem h, List.mem_append, not_or, List.mem_singleton]
  exact ⟨h0, fun e => by simp [e] at hx⟩
set_option maxHeartbeats 400000 in
theorem Has_any {S : Nat → Prop} (a : Option Addr) (c : Nat) (l : List Int) (x : Int) (w : World) (h : Ints S w a c l) :
    Calls Tryz.prog 185 #[.slice a l.length c, .int .i64 x] w fun e w' => e = .returned (.bool (decide (x ∈ l))) ∧ w = w' := by
  have m := h.le
  go_enter Tryz.func185, Tryz.ntmps185
  go_wp2
  go_loop [5] (fun i => ∃ k : Nat, k ≤ l.length ∧ i = .int .i64 k ∧ x ∉ l.take k) (fun i => l.length - (intOf i).toNat)
  case atStart => exact ⟨0, by omega, rfl, by simp⟩
  case round =>
    obtain ⟨k, hk, rfl, hn⟩ := hrel
    have hnH := Lib.hid hn
    clear hn
    by_cases hlt : k < l.length
    · obtain ⟨b, o, rfl, -, q, -⟩ := h.int k hlt
      clear h
      go_wp2
      · go_ret
        have he : (l[k] == x) = true := by assumption
        exact ⟨ret_bool (decide_eq_true (by simp at he; rw [← he]; exact List.getElem_mem hlt)).symm, rfl⟩
      · exact ⟨⟨k + 1, by omega, by go_num, has_step hlt hnH.out (by assumption)⟩, by simp [intOf]; omega⟩
    · go_wp2
      go_ret
      exact ⟨ret_bool (decide_eq_false (by have := hnH.out; rwa [List.take_of_length_le (by omega)] at this)).symm, rfl⟩

set_option maxHeartbeats 400000 in
theorem arity_any {S : Nat → Prop} (a : Option Addr) (c : Nat) (s : Sg) (n : Int) (w : World) (h : Sign S w a c s) :
    Calls Tryz.prog 149 #[.slice a s.length c, .int .i64 n] w fun e w' => e = .returned (.int .i64 (arC s n)) ∧ w = w' := by
  have m := h.le
  by_cases h1 : -12 ≤ n ∧ n ≤ -1
  · have hf : arC s n = 0 := by rw [arC, if_pos h1]
    have hb : (decide (-12 ≤ n) && decide (n ≤ -1)) = true := by simp [h1]
    have hf' := Lib.hid hf
    clear hf h1 h
    go_enter Tryz.func149, Tryz.ntmps149
    go_wp2_with (go_at_call 107; refine (within_any _ _ _ _).mono ?_; rintro e w' ⟨rfl, rfl⟩)
    go_ret
    exact ⟨ret_int hf'.out.symm, rfl⟩
  · have hb : (decide (-12 ≤ n) && decide (n ≤ -1)) = false := by simp; omega
    by_cases h2 : 0 ≤ n ∧ n < s.length
    · have hf : arC s n = (s[n.toNat]'(by omega)).2 := by
        rw [arC, if_neg h1, if_pos h2, List.getD_eq_getElem?_getD, List.getElem?_eq_getElem (by omega)]; rfl
      have hf' := Lib.hid hf
      have hb2 : (decide (0 ≤ n) && decide (n ≤ (s.length : Int) - 1)) = true := by simp; omega
      obtain ⟨k, rfl⟩ := Int.eq_ofNat_of_zero_le h2.1
      have hk : k < s.length := by omega
      obtain ⟨b, o, rfl, -, -, q, -, -⟩ := h.sym k hk
      clear hf h h1
      go_enter Tryz.func149, Tryz.ntmps149
      go_wp2_with (go_at_call 107; refine (within_any _ _ _ _).mono ?_; rintro e w' ⟨rfl, rfl⟩)
      go_ret
      exact ⟨ret_int (hf'.out.symm), rfl⟩
    · have hf : arC s n = -1 := by rw [arC, if_neg h1, if_neg h2]
      have hf' := Lib.hid hf
      have hb2 : (decide (0 ≤ n) && decide (n ≤ (s.length : Int) - 1)) = false := by simp; omega
      clear hf h h1 h2
      go_enter Tryz.func149, Tryz.ntmps149
      go_wp2_with (go_at_call 107; refine (within_any _ _ _ _).mono ?_; rintro e w' ⟨rfl, rfl⟩)
      go_ret
      exact ⟨ret_int hf'.out.symm, rfl⟩

set_option maxHeartbeats 400000 in
theorem rArity_any {S : Nat → Prop} (a : Option Addr) (c : Nat) (s : Sg) (n : Int) (w : World) (h : Sign S w a c s) (hc : codeOk s n = true) :
    Calls Tryz.prog 116 #[.slice a s.length c, .int .i64 n] w fun e w' => e = .returned (.int .i64 (arC s n)) ∧ w = w' := by
  have m := h.le
  by_cases h1 : n < 0
  · have hf : arC s n = 0 := by simp [codeOk] at hc; rw [arC, if_pos (by omega)]
    have hf' := Lib.hid hf
    clear hf h hc
    go_enter Tryz.func116, Tryz.ntmps116
    go_wp2
    go_ret
    exact ⟨ret_int hf'.out.symm, rfl⟩
  · have h2 : 0 ≤ n ∧ n < s.length := by simp [codeOk] at hc; omega
    have hf : arC s n = (s[n.toNat]'(by omega)).2 := by
      rw [arC, if_neg (by omega), if_pos h2, List.getD_eq_getElem?_getD, List.getElem?_eq_getElem (by omega)]; rfl
    have hf' := Lib.hid hf
    obtain ⟨k, rfl⟩ := Int.eq_ofNat_of_zero_le h2.1
    have hk : k < s.length := by omega
    obtain ⟨b, o, rfl, -, -, q, -, -⟩ := h.sym k hk
    clear hf h hc
    go_enter Tryz.func116, Tryz.ntmps116
    go_wp2
    go_ret
    exact ⟨ret_int hf'.out.symm, rfl⟩
end Go.Proofs.YtgkddhakhapjlaaGreatDoor

/- Walks: where a term ends. -/
namespace Go.Proofs.YtgkddhakhapjlaaGreatDoor
open Go Go.RowKit

def endPost (s : Sg) (t : List Int) (k : Int) (w : World) (e : Ending) (w' : World) : Prop :=
  ∃ d : Nat, e = .returned (.tuple #[.int .i64 (endOf s t k), .int .i64 d]) ∧ d ≤ t.length - k.toNat ∧ (k < 0 → d = 0) ∧ (endOf s t k ≠ -1 → ∀ G, t.length - k.toNat ≤ G → d = dep s G (t.drop k.toNat)) ∧ Drew w w'

def endRel (s : Sg) (t : List Int) (p m : Nat) (w : World) (deep next i : Value) (wr : World) : Prop :=
  ∃ (dn j : Nat) (nx : Int), j ≤ m ∧ i = .int .i64 j ∧ deep = .int .i64 dn ∧ next = .int .i64 nx ∧ EndInv s t (t.length - (p + 1)) m p nx dn j ∧ Drew w wr

set_option maxHeartbeats 400000 in
theorem end1_any {S : Nat → Prop} {a1 a2 : Option Addr} {c1 c2 : Nat} {s : Sg} {t : List Int} (hs : okSign s = true) (pt ps pw : Addr) (M : Nat) :
    ∀ (k : Int) (w : World), (k = -1 ∨ (0 ≤ k ∧ k ≤ t.length ∧ t.length ≤ M + k.toNat)) → Sign S w a1 c1 s → Ints S w a2 c2 t →
      w.cell? pt = some (.slice a2 t.length c2) → w.cell? ps = some (.slice a1 s.length c1) →
      w.cell? pw = some (.func (.func 148) #[] #[.pointer (some pt), .pointer (some ps), .pointer (some pw)]) →
      Calls Tryz.prog 148 #[.int .i64 k, .pointer (some pt), .pointer (some ps), .pointer (some pw)] w (endPost s t k w) := by
  induction M with
  | zero =>
    intro k w hk h1 h2 q1 q2 q3
    have m2 := h2.le
    have hbad : ¬ (0 ≤ k ∧ k < t.length) := by omega
    have he := endOf_out s t k hbad
    have heH := Lib.hid he
    clear he
    by_cases h0 : k < 0
    · go_enter Tryz.func148, Tryz.ntmps148
      go_wp2_with fail
      go_ret2
      exact ⟨0, by rw [heH.out]; rfl, Nat.zero_le _, fun _ => rfl, fun h => (h heH.out).elim, .refl _⟩
    · have h3 : (t.length : Int) ≤ k := by omega
      go_enter Tryz.func148, Tryz.ntmps148
      go_wp2_with fail
      go_ret2
      exact ⟨0, by rw [heH.out]; rfl, Nat.zero_le _, fun _ => rfl, fun h => (h heH.out).elim, .refl _⟩
  | succ M ih =>
    intro k w hk h1 h2 q1 q2 q3
    by_cases hin : 0 ≤ k ∧ k < t.length
    · obtain ⟨p, rfl⟩ := Int.eq_ofNat_of_zero_le hin.1
      have hp : p < t.length := by omega
      have m2 := h2.le
      have hk' := hk
      clear hk hin
      obtain ⟨b2, o2, rfl, -, q4, -⟩ := h2.int p hp
      by_cases hc : codeOk s t[p] = true
      · obtain ⟨hA, hA3⟩ := arC_ok hs hc
        obtain ⟨m, hm⟩ : ∃ m, ar s t[p] = m := ⟨_, rfl⟩
        rw [hm] at hA hA3
        have ca : ∀ n, Calls Tryz.prog 149 #[.slice a1 s.length c1, .int .i64 t[p]] (w.drewN n) fun e w' => e = .returned (.int .i64 (m : Int)) ∧ w.drewN n = w' := fun n => by
          have := arity_any a1 c1 s t[p] (w.drewN n) (h1.drewN n)
          rw [hA] at this; exact this
        have hcH := Lib.hid hc
        have hmH := Lib.hid hm
        have IH := Lib.hid ih
        have caH := Lib.hid ca
        clear hc hm ih ca hA
        have hp' : (p : Int) < t.length := by omega
        go_enter Tryz.func148, Tryz.ntmps148
        go_wp2_with fail
        go_quiet ((go_at_call 149; exact quiet_left (caH.out _)))
        all_goals go_wp2_with fail
        go_loopw [8, 9, 31] (fun deep next i wr => endRel s t p m w deep next i wr) (fun _ _ i _ => m - (intOf i).toNat)
        case atStart => exact ⟨0, 0, _, Nat.zero_le _, rfl, rfl, rfl, EndInv.start _ _ _ _ _ hp, .mk _ _⟩
        case round =>
          obtain ⟨dn, j, nx, hj, rfl, rfl, rfl, hI, n', rfl⟩ := hrel
          by_cases hjm : j < m
          · have hnx := hI.next
            have hdn := hI.1
            have q1' : (w.drewN n').cell? pt = _ := q1
            have q2' : (w.drewN n').cell? ps = _ := q2
            have q3' : (w.drewN n').cell? pw = _ := q3
            have ci := IH.out nx (w.drewN n') (by omega) (h1.drewN _) (h2.drewN _) q1' q2' q3'
            have ciH := Lib.hid ci
            have hIH := Lib.hid hI
            clear ci hI
            go_wp2_with (go_at_call 148; refine ciH.out.mono ?_; rintro e w' ⟨d, rfl, hd1, hd0, hd2, n2, rfl⟩)
            all_goals
              have hst := EndInv.step hIH.out hjm (Nat.le_refl _) (d := d) (by rcases hnx with h | h; · omega
                                                                               · rw [hd0 (by omega)]; omega) hd2
              go_roundw
              case rel => exact ⟨_, _, _, _, _, ⟨max dn d, j + 1, _, by omega, by go_num, by congr 1; omega, rfl, hst, .mk _ _⟩, rfl, rfl, rfl, rfl, rfl⟩
              case measure => simp [intOf]; omega
          · have hjm' : j = m := by omega
            subst hjm'
            have hdn := hI.1
            have hpost := hI
            rw [← hmH.out] at hpost
            have hfin := EndInv.done hp rfl hcH.out hpost (Nat.le_refl _)
            have hfH := Lib.hid hfin
            clear hpost hfin hI
            go_wp2_with fail
            go_ret2
            exact ⟨dn + 1, by rw [hfH.out.1]; rfl, by simp; omega, fun h => by omega, by rw [hfH.out.1]; exact fun h G hG => hfH.out.2 h G hG, .mk _ _⟩
      · have hc' : codeOk s t[p] = false := by simpa using hc
        have hA := arC_bad hc'
        have he := Lib.hid (endOf_bad s t p hp hc')
        have ca : ∀ n, Calls Tryz.prog 149 #[.slice a1 s.length c1, .int .i64 t[p]] (w.drewN n) fun e w' => e = .returned (.int .i64 (-1)) ∧ w.drewN n = w' := fun n => by
          have := arity_any a1 c1 s t[p] (w.drewN n) (h1.drewN n)
          rw [hA] at this; exact this
        have caH := Lib.hid ca
        clear ca hA hc hc' ih
        have hp' : (p : Int) < t.length := by omega
        go_enter Tryz.func148, Tryz.ntmps148
        go_wp2_with fail
        go_quiet ((go_at_call 149; exact quiet_left (caH.out _)))
        all_goals go_wp2_with fail
        go_ret2
        exact ⟨0, by rw [he.out]; rfl, Nat.zero_le _, fun _ => rfl, fun h => (h he.out).elim, .mk _ _⟩
    · have m2 := h2.le
      have he := endOf_out s t k hin
      have heH := Lib.hid he
      clear he
      by_cases h0 : k < 0
      · go_enter Tryz.func148, Tryz.ntmps148
        go_wp2_with fail
        go_ret2
        exact ⟨0, by rw [heH.out]; rfl, Nat.zero_le _, fun _ => rfl, fun h => (h heH.out).elim, .refl _⟩
      · have h3 : (t.length : Int) ≤ k := by omega
        go_enter Tryz.func148, Tryz.ntmps148
        go_wp2_with fail
        go_ret2
        exact ⟨0, by rw [heH.out]; rfl, Nat.zero_le _, fun _ => rfl, fun h => (h heH.out).elim, .refl _⟩

def endPostB (s : Sg) (t : List Int) (k : Int) (w : World) (e : Ending) (w' : World) : Prop :=
  ∃ d : Nat, e = .returned (.tuple #[.int .i64 (endOf s t k), .int .i64 d]) ∧ (endOf s t k ≠ -1 → ∀ G, t.length - k.toNat ≤ G → d = dep s G (t.drop k.toNat)) ∧ Below w.heap.size w w'

set_option maxHeartbeats 400000 in
theorem end_any {S1 S2 : Nat → Prop} {a1 a2 : Option Addr} {c1 c2 : Nat} {s : Sg} {t : List Int} (hs : okSign s = true) (k : Int) (w : World) (hk : k = -1 ∨ (0 ≤ k ∧ k ≤ t.length)) (h1 : Sign S1 w a1 c1 s) (h2 : Ints S2 w a2 c2 t) :
    Calls Tryz.prog 109 #[.slice a1 s.length c1, .slice a2 t.length c2, .int .i64 k] w (endPostB s t k w) := by
  have m2 := h2.le
  go_enter Tryz.func109, Tryz.ntmps109
  go_wp2_with fail
  refine (end1_any hs _ _ _ t.length k _ (by omega) (h1.any.below (below3 _ _ _ _)) (h2.any.below (below3 _ _ _ _)) (by go_simp) (by go_simp) (by go_simp)).mono ?_
  rintro e w' ⟨d, rfl, hd1, hd0, hd2, n2, rfl⟩
  go_wp2_with fail
  go_ret2
  exact ⟨d, rfl, hd2, (below3 _ _ _ _).trans (.trans (.refl _ _) ((Drew.mk _ n2).below _))⟩
end Go.Proofs.YtgkddhakhapjlaaGreatDoor

/- Walks: names of symbols. -/
namespace Go.Proofs.YtgkddhakhapjlaaGreatDoor
open Go Go.RowKit

def isLetR (r : Int) : Bool := (decide (97 ≤ r) && decide (r ≤ 122)) || (decide (65 ≤ r) && decide (r ≤ 90))

set_option maxHeartbeats 400000 in
theorem letters1_any (r : Int) (w : World) (h0 : 0 ≤ r) (h1 : r ≤ 2147483647) :
    Calls Tryz.prog 147 #[.int .i32 r] w fun e w' => e = .returned (.bool (!isLetR r)) ∧ w = w' := by
  by_cases ha : (decide (97 ≤ r) && decide (r ≤ 122)) = true
  · have hf : (!isLetR r) = false := by unfold isLetR; rw [ha]; rfl
    have hfH := Lib.hid hf
    clear hf
    go_enter Tryz.func147, Tryz.ntmps147
    go_wp2_with (go_at_call 107; refine (within_any _ _ _ _).mono ?_; rintro e w' ⟨rfl, rfl⟩)
    go_ret
    exact ⟨ret_bool hfH.out.symm, rfl⟩
  · have ha' : (decide (97 ≤ r) && decide (r ≤ 122)) = false := by simpa using ha
    have hf : (!isLetR r) = !(decide (65 ≤ r) && decide (r ≤ 90)) := by unfold isLetR; rw [ha']; rfl
    have hfH := Lib.hid hf
    clear hf ha
    go_enter Tryz.func147, Tryz.ntmps147
    go_wp2_with (go_at_call 107; refine (within_any _ _ _ _).mono ?_; rintro e w' ⟨rfl, rfl⟩)
    go_ret
    exact ⟨ret_bool (by rw [hfH.out]; simp), rfl⟩

theorem isLetR_byte (b : UInt8) : isLetR (b.toNat : Int) = isLet b := by
  rw [Bool.eq_iff_iff]; simp [isLetR, isLet]; omega
theorem isLetR_high (n : Nat) (h : 128 ≤ n) : isLetR n = false := by
  simp [isLetR]; omega
theorem let_step {s : ByteArray} {p : Nat} (h : p < s.size) (ht : (s.data.toList.take p).all isLet = true) (hb : isLet s[p] = true) : (s.data.toList.take (p + 1)).all isLet = true := by
  rw [List.take_succ_eq_append_getElem (by simpa using h), List.all_append, ht]
  simp only [List.all_cons, List.all_nil, Bool.and_true, Bool.true_and]
  exact hb
theorem let_no {s : ByteArray} {p : Nat} (h : p < s.size) (hb : isLet s[p] = false) : s.data.toList.all isLet = false := by
  rw [List.all_eq_false]
  exact ⟨s[p], by show s.data[p] ∈ _; simp, by simp [hb]⟩

def idxPost (s : ByteArray) (w : World) (e : Ending) (w' : World) : Prop := ∃ n : Int, e = .returned (.int .i64 n) ∧ -1 ≤ n ∧ decide (0 ≤ n) = !s.data.toList.all isLet ∧ Below w.heap.size w w'

set_option maxHeartbeats 400000 in
theorem indexFunc_any (s : ByteArray) (w : World) (_hs : s.size ≤ big) :
    Calls Tryz.prog 219 #[.string s, .func (.func 147) #[] #[], .bool true] w (idxPost s w) := by
  unfold big at _hs
  go_enter Tryz.func219, Tryz.ntmps219
  go_wp2
  go_loopw [7] (fun _ w' => ∃ pos : Nat, w' = w.iter s pos ∧ (s.data.toList.take pos).all isLet = true) (fun _ w' => s.size - w'.iterPos w.heap.size)
  case atStart => exact ⟨0, rfl, rfl⟩
  case round =>
    obtain ⟨pos, rfl, ht⟩ := hrel
    have htH := Lib.hid ht
    clear ht
    by_cases hp : pos < s.size
    · by_cases hl : isLet s[pos] = true
      · have h128 : (s[pos]'hp).toNat < 128 := by simp [isLet] at hl; omega
        have hnx : ∀ ty, (Instr.next (.pointer (some ⟨w.heap.size, 0, none⟩)) true ty).run Tryz.prog (w.iter s pos) = _ := fun ty => run_next_ascii w s pos ty hp h128
        have hb : (!isLetR ((s[pos]'hp).toNat : Int)) = false := by rw [isLetR_byte, hl]; rfl
        have hlH := Lib.hid hl
        clear hl
        go_wp2_with (go_at_call 147; refine (letters1_any _ _ (by omega) (by omega)).mono ?_; rintro e w' ⟨rfl, rfl⟩)
        go_roundw
        case rel => exact ⟨pos + 1, rfl, let_step hp htH.out hlH.out⟩
        case measure => simp; omega
      · have hl' : isLet s[pos] = false := by simpa using hl
        have hnx : ∀ ty, (Instr.next (.pointer (some ⟨w.heap.size, 0, none⟩)) true ty).run Tryz.prog (w.iter s pos) = _ := fun ty => run_next_any w s pos ty hp
        have hb : (!isLetR ((Utf8.decode s pos).1 : Int)) = true := by
          by_cases h128 : (s[pos]'hp).toNat < 128
          · rw [decode_ascii s pos hp h128, isLetR_byte, hl']; rfl
          · rw [isLetR_high _ (decode_high s pos hp (by omega)).1]; rfl
        have hle := decode_le s pos
        have hfin := Lib.hid (let_no hp hl')
        clear hl hl'
        go_wp2_with (go_at_call 147; refine (letters1_any _ _ (by omega) (by omega)).mono ?_; rintro e w' ⟨rfl, rfl⟩)
        go_ret
        exact ⟨pos, rfl, by omega, by rw [hfin.out]; simp, below1 _ _⟩
    · have hnx : ∀ ty, (Instr.next (.pointer (some ⟨w.heap.size, 0, none⟩)) true ty).run Tryz.prog (w.iter s pos) = _ := fun ty => run_next_end w s pos ty hp
      go_wp2
      go_ret
      refine ⟨-1, rfl, by omega, ?_, below1 _ _⟩
      have := htH.out
      rw [List.take_of_length_le (by simp; omega)] at this
      rw [this]; rfl

set_option maxHeartbeats 400000 in
theorem containsLetters_any (s : ByteArray) (w : World) (hs : s.size ≤ big) :
    Calls Tryz.prog 146 #[.string s, .func (.func 147) #[] #[]] w fun e w' => e = .returned (.bool (!s.data.toList.all isLet)) ∧ Below w.heap.size w w' := by
  go_enter Tryz.func146, Tryz.ntmps146
  go_wp2_with fail
  go_enter Tryz.func186, Tryz.ntmps186
  go_wp2_with (go_at_call 219; refine (indexFunc_any s _ hs).mono ?_; rintro e w' ⟨n, rfl, hn, hn2, hb⟩; have hn2H := Lib.hid hn2; clear hn2)
  go_ret
  exact ⟨ret_bool hn2H.out, hb⟩

set_option maxHeartbeats 400000 in
theorem letters_any (s : ByteArray) (w : World) (hs : s.size ≤ big) :
    Calls Tryz.prog 106 #[.string s] w fun e w' => e = .returned (.bool (nameOk s)) ∧ Below w.heap.size w w' := by
  have hs' := hs
  unfold big at hs'
  by_cases ha : (decide (1 ≤ s.size) && decide (s.size ≤ 8)) = true
  · have hf : nameOk s = s.data.toList.all isLet := by unfold nameOk; rw [ha]; rfl
    have hfH := Lib.hid hf
    clear hf
    have ha' : (decide (1 ≤ (s.size : Int)) && decide ((s.size : Int) ≤ 8)) = true := by simp at ha ⊢; omega
    clear ha
    go_enter Tryz.func106, Tryz.ntmps106
    go_wp2_with (first | (go_at_call 107; refine (within_any _ _ _ _).mono ?_; rintro e w' ⟨rfl, rfl⟩) | (go_at_call 146; refine (containsLetters_any s _ hs).mono ?_; rintro e w' ⟨rfl, hb⟩))
    go_ret
    exact ⟨ret_bool (by rw [hfH.out]; simp), hb⟩
  · have ha2 : (decide (1 ≤ s.size) && decide (s.size ≤ 8)) = false := by simpa using ha
    have hf : nameOk s = false := by unfold nameOk; rw [ha2]; rfl
    have hfH := Lib.hid hf
    clear hf ha
    have ha' : (decide (1 ≤ (s.size : Int)) && decide ((s.size : Int) ≤ 8)) = false := by simp at ha2 ⊢; omega
    clear ha2
    go_enter Tryz.func106, Tryz.ntmps106
    go_wp2_with (first | (go_at_call 107; refine (within_any _ _ _ _).mono ?_; rintro e w' ⟨rfl, rfl⟩) | (go_at_call 146; refine (containsLetters_any s _ hs).mono ?_; rintro e w' ⟨rfl, hb⟩))
    go_ret
    exact ⟨ret_bool hfH.out.symm, .refl _ _⟩

set_option maxHeartbeats 400000 in
theorem isName_any (s : ByteArray) (w : World) (hs : s.size ≤ big) :
    Calls Tryz.prog 111 #[.string s] w fun e w' => e = .returned (.bool (nameOk s)) ∧ w = w' := by
  unfold big at hs
  go_enter Tryz.func111, Tryz.ntmps111
  go_wp2
  go_loop [3] (fun i => ∃ pos : Nat, i = .int .i64 pos ∧ pos ≤ s.size ∧ (s.data.toList.take pos).all isLet = true) (fun i => s.size - (intOf i).toNat)
  case atStart => exact ⟨0, rfl, Nat.zero_le _, rfl⟩
  case round =>
    obtain ⟨pos, rfl, hpl, ht⟩ := hrel
    have htH := Lib.hid ht
    clear ht
    by_cases hp : pos < s.size
    · have h256 := (s[pos]'hp).toNat_lt
      by_cases hl : isLet s[pos] = true
      · have hlH := Lib.hid hl
        by_cases hlo : (decide (97 ≤ ((s[pos]'hp).toNat : Int)) && decide (((s[pos]'hp).toNat : Int) ≤ 122)) = true
        · clear hl
          go_wp2_with (go_at_call 110; refine (rwithin_any _ _ _ _).mono ?_; rintro e w' ⟨rfl, rfl⟩)
          go_round
          case rel => exact ⟨pos + 1, by go_num, by omega, let_step hp htH.out hlH.out⟩
          case measure => simp [intOf]; omega
        · have hlo2 : (decide (97 ≤ ((s[pos]'hp).toNat : Int)) && decide (((s[pos]'hp).toNat : Int) ≤ 122)) = false := by simpa using hlo
          have hup : (decide (65 ≤ ((s[pos]'hp).toNat : Int)) && decide (((s[pos]'hp).toNat : Int) ≤ 90)) = true := by simp [isLet] at hl hlo ⊢; omega
          clear hl hlo
          go_wp2_with (go_at_call 110; refine (rwithin_any _ _ _ _).mono ?_; rintro e w' ⟨rfl, rfl⟩)
          go_round
          case rel => exact ⟨pos + 1, by go_num, by omega, let_step hp htH.out hlH.out⟩
          case measure => simp [intOf]; omega
      · have hl' : isLet s[pos] = false := by simpa using hl
        have hlo2 : (decide (97 ≤ ((s[pos]'hp).toNat : Int)) && decide (((s[pos]'hp).toNat : Int) ≤ 122)) = false := by simp [isLet] at hl' ⊢; omega
        have hup : (decide (65 ≤ ((s[pos]'hp).toNat : Int)) && decide (((s[pos]'hp).toNat : Int) ≤ 90)) = false := by simp [isLet] at hl' ⊢; omega
        have hfin : nameOk s = false := by unfold nameOk; rw [let_no hp hl']; simp
        have hfH := Lib.hid hfin
        clear hl hl' hfin
        go_wp2_with (go_at_call 110; refine (rwithin_any _ _ _ _).mono ?_; rintro e w' ⟨rfl, rfl⟩)
        go_ret
        exact ⟨ret_bool hfH.out.symm, rfl⟩
    · go_wp2_with (go_at_call 110; refine (rwithin_any _ _ _ _).mono ?_; rintro e w' ⟨rfl, rfl⟩)
      go_ret
      refine ⟨ret_bool ?_, rfl⟩
      have := htH.out
      rw [List.take_of_length_le (by simp; omega)] at this
      rw [Bool.eq_iff_iff]; simp [nameOk, this]; omega
end Go.Proofs.YtgkddhakhapjlaaGreatDoor

/- Maps that a call makes, read as plain functions: from strings to bools, from ints to ints. No program is named. -/
namespace Go.Proofs.YtgkddhakhapjlaaGreatDoor
open Go Go.RowKit Go.Maps Go.WideMaps

theorem wf_of_inRange {x : Int} (h : inRange x) : (Lit.int .i64 x).wf = true := WalkArith.wf_i64 h
theorem isKey_string (l : List UInt8) : WideAt.IsKeyLit (.string l) := by first | exact trivial | simp [WideAt.IsKeyLit]
theorem isKey_int (x : Int) : WideAt.IsKeyLit (.int .i64 x) := by first | exact trivial | simp [WideAt.IsKeyLit]
theorem str_ne {x y : ByteArray} (h : x ≠ y) : Lit.string x.data.toList ≠ Lit.string y.data.toList := by
  intro e
  cases x; cases y
  simp only [Lit.string.injEq, Array.toList_inj] at e
  exact h (by rw [e])
theorem litint_ne {x y : Int} (h : x ≠ y) : Lit.int .i64 x ≠ Lit.int .i64 y := by
  intro e; simp at e; exact h e

def BMap (P : Program) (tk te : TypeId) (w : World) (b n : Nat) (f : ByteArray → Bool) : Prop :=
  ∃ D : DataW Unit, w.ownsMap P tk (plainElem P te) b n D ∧ Tidy D ∧ ∀ x : ByteArray, D.atKey (.string x.data.toList) (.lit (.bool false)) = .lit (.bool (f x))

section
variable {P : Program} {tm tk te : TypeId} {w : World} {b n : Nat} {f : ByteArray → Bool}
theorem BMap.made (w : World) : BMap P tk te (w.alloc (.map #[] 0)) w.heap.size 0 (fun _ => false) :=
  ⟨.map [], World.ownsMap_made _ _ _ _, tidy_empty, fun _ => rfl⟩
theorem BMap.look (h : BMap P tk te w b n f) (ht : P.underlying tm = some (.map tk te)) (hk : P.underlying tk = some .string) (he : P.underlying te = some .bool)
    (hz : (zeroValue te).run P w = .ok (.bool false) w) (x : ByteArray) (hx : x.size ≤ maxLen) : (Instr.lookup tm (.map (some b)) (.string x) false).run P w = .ok (.bool (f x)) w := by
  obtain ⟨D, ho, _, hf⟩ := h
  obtain ⟨v, ps, hrun, hv⟩ := ho.lookup (string_keyed hk) ht hz (plainElem_bool he false) (keyOf_string_mk hk hx)
  rw [hf x] at hv
  rw [hrun]
  unfold plainElem at hv
  rw [he] at hv
  cases v <;> simp at hv
  rw [hv.1]
theorem BMap.store (h : BMap P tk te w b n f) (ht : P.underlying tm = some (.map tk te)) (hk : P.underlying tk = some .string) (he : P.underlying te = some .bool) (hn : n < maxLen)
    (x : ByteArray) (hx : x.size ≤ maxLen) (y : Bool) : ∃ w', (Instr.mapUpdate tm (.map (some b)) (.string x) (.bool y)).run P w = .ok () w' ∧ BMap P tk te w' b (n + 1) (fun z => if z = x then y else f z) ∧ w.grownBy w' (some b) := by
  obtain ⟨D, ho, ht', hf⟩ := h
  obtain ⟨w', hrun, ho', hg⟩ := ho.update (string_keyed hk) ht hn (keyOf_string_mk hk hx) (plainElem_bool he y)
  refine ⟨w', hrun, ⟨_, ho', ht'.put (isKey_string _) _, fun z => ?_⟩, hg⟩
  by_cases hz : z = x
  · subst hz; rw [atKey_put_same ht'.isMap (isKey_string _)]; simp
  · rw [atKey_put_other (str_ne hz), hf z]; simp only [if_neg hz]
theorem BMap.lt (h : BMap P tk te w b n f) : b < w.heap.size := by obtain ⟨D, ho, _⟩ := h; exact ho.lt
theorem BMap.same {w' : World} (h : BMap P tk te w b n f) (hb : w'.heap[b]? = w.heap[b]?) : BMap P tk te w' b n f := by
  obtain ⟨D, ⟨es, clock, hc, r⟩, ht, hf⟩ := h
  exact ⟨D, ⟨es, clock, hb.trans hc, r⟩, ht, hf⟩
theorem BMap.below {w' : World} {B : Nat} (h : BMap P tk te w b n f) (hB : Below B w w') (hb : b < B) : BMap P tk te w' b n f := h.same (hB.block b hb)
end

/-- a map from ints to ints of exactly n keys -/
def IMap (P : Program) (tk te : TypeId) (w : World) (b n : Nat) (f : Int → Option Int) : Prop :=
  ∃ D : DataW Unit, w.ownsMap P tk (plainElem P te) b n D ∧ Tidy D ∧ size D = n ∧ ∀ x : Int, has D (.int .i64 x) = (f x).isSome ∧ D.atKey (.int .i64 x) (.lit (.int .i64 0)) = .lit (.int .i64 ((f x).getD 0))

section
variable {P : Program} {tm tk te : TypeId} {w : World} {b n : Nat} {f : Int → Option Int}
theorem IMap.made (w : World) : IMap P tk te (w.alloc (.map #[] 0)) w.heap.size 0 (fun _ => none) :=
  ⟨.map [], World.ownsMap_made _ _ _ _, tidy_empty, rfl, fun _ => ⟨rfl, rfl⟩⟩
theorem IMap.look (h : IMap P tk te w b n f) (ht : P.underlying tm = some (.map tk te)) (hk : P.underlying tk = some (.int .i64)) (he : P.underlying te = some (.int .i64))
    (hz : (zeroValue te).run P w = .ok (.int .i64 0) w) (x : Int) (hx : inRange x) : (Instr.lookup tm (.map (some b)) (.int .i64 x) false).run P w = .ok (.int .i64 ((f x).getD 0)) w := by
  obtain ⟨D, ho, _, _, hf⟩ := h
  obtain ⟨c, hrun, hc, _⟩ := ho.lookup_int (int_keyed hk) ht he hz (keyOf_int_mk hk (wf_of_inRange hx))
  rw [(hf x).2] at hc
  simp at hc
  rw [hrun, hc]
theorem IMap.look_ok (h : IMap P tk te w b n f) (ht : P.underlying tm = some (.map tk te)) (hk : P.underlying tk = some (.int .i64)) (he : P.underlying te = some (.int .i64))
    (hz : (zeroValue te).run P w = .ok (.int .i64 0) w) (x : Int) (hx : inRange x) : (Instr.lookup tm (.map (some b)) (.int .i64 x) true).run P w = .ok (.tuple #[.int .i64 ((f x).getD 0), .bool (f x).isSome]) w := by
  obtain ⟨D, ho, _, _, hf⟩ := h
  obtain ⟨v, ps, hrun, hv⟩ := ho.look_ok (int_keyed hk) ht hz (plainElem_int he (by decide)) (keyOf_int_mk hk (wf_of_inRange hx))
  obtain ⟨c, rfl, hc, _⟩ := plainElem_int_inv he hv
  rw [(hf x).2] at hc
  simp at hc
  rw [hrun, (hf x).1, hc.1]
theorem IMap.len (h : IMap P tk te w b n f) (ht : P.underlying tm = some (.map tk te)) (ty : TypeId) : (Builtin.len_ #[tm] ty #[.map (some b)]).run P w = .ok (.int .i64 n) w := by
  obtain ⟨D, ho, _, hs, _⟩ := h
  rw [ho.len ht ty, hs]
theorem IMap.store (h : IMap P tk te w b n f) (ht : P.underlying tm = some (.map tk te)) (hk : P.underlying tk = some (.int .i64)) (he : P.underlying te = some (.int .i64)) (hn : n < maxLen)
    (x : Int) (hx : inRange x) (y : Int) (hy : inRange y) (hnew : f x = none) : ∃ w', (Instr.mapUpdate tm (.map (some b)) (.int .i64 x) (.int .i64 y)).run P w = .ok () w' ∧ IMap P tk te w' b (n + 1) (fun z => if z = x then some y else f z) ∧ w.grownBy w' (some b) := by
  obtain ⟨D, ho, ht', hs, hf⟩ := h
  obtain ⟨w', hrun, ho', hg⟩ := ho.update (int_keyed hk) ht hn (keyOf_int_mk hk (wf_of_inRange hx)) (plainElem_int he (wf_of_inRange hy))
  refine ⟨w', hrun, ⟨_, ho', ht'.put (isKey_int _) _, ?_, fun z => ?_⟩, hg⟩
  · rw [size_put ht', (hf x).1, hnew]; simp [hs]
  · by_cases hz : z = x
    · subst hz; rw [atKey_put_same ht'.isMap (isKey_int _), has_put_same ht'.isMap (isKey_int _)]; simp
    · rw [atKey_put_other (litint_ne hz), has_put_other (litint_ne hz)]; simp only [if_neg hz]; exact hf z
theorem IMap.lt (h : IMap P tk te w b n f) : b < w.heap.size := by obtain ⟨D, ho, _⟩ := h; exact ho.lt
theorem IMap.same {w' : World} (h : IMap P tk te w b n f) (hb : w'.heap[b]? = w.heap[b]?) : IMap P tk te w' b n f := by
  obtain ⟨D, ⟨es, clock, hc, r⟩, ht, hf⟩ := h
  exact ⟨D, ⟨es, clock, hb.trans hc, r⟩, ht, hf⟩
theorem IMap.below {w' : World} {B : Nat} (h : IMap P tk te w b n f) (hB : Below B w w') (hb : b < B) : IMap P tk te w' b n f := h.same (hB.block b hb)
end
end Go.Proofs.YtgkddhakhapjlaaGreatDoor

/- Walks: ValidSign, of the program and of the reference. -/
namespace Go.Proofs.YtgkddhakhapjlaaGreatDoor
open Go Go.RowKit Go.Maps

theorem zBool (w : World) : (zeroValue 4).run Tryz.prog w = .ok (.bool false) w := by kernel_rfl
theorem zInt (w : World) : (zeroValue 3).run Tryz.prog w = .ok (.int .i64 0) w := by kernel_rfl
theorem big_max {n : Nat} (h : n ≤ big) : n ≤ maxLen := by unfold big at h; unfold maxLen; omega

def nm (s : Sg) (k : Nat) : List ByteArray := (s.take k).map (fun e => e.1)
/-- the first k entries are well formed and of different names -/
def goodTo (s : Sg) (k : Nat) : Prop := (s.take k).all entOk = true ∧ (nm s k).Nodup
theorem goodTo_zero (s : Sg) : goodTo s 0 := by simp [goodTo, nm]
theorem goodTo_succ {s : Sg} {k : Nat} (h : goodTo s k) (hk : k < s.length) (he : entOk s[k] = true) (hn : s[k].1 ∉ nm s k) : goodTo s (k + 1) := by
  obtain ⟨h1, h2⟩ := h
  unfold goodTo nm at *
  rw [List.take_succ_eq_append_getElem hk]
  refine ⟨by rw [List.all_append, h1]; simp [he], ?_⟩
  rw [List.map_append, List.nodup_append]
  refine ⟨h2, by simp, ?_⟩
  intro a ha b hb hab
  simp at hb
  subst hb; subst hab
  exact hn ha
theorem bad_ent {s : Sg} {k : Nat} (hk : k < s.length) (he : entOk s[k] = false) : okSign s = false := by
  have : s.all entOk = false := by rw [List.all_eq_false]; exact ⟨s[k], List.getElem_mem hk, by simp [he]⟩
  simp [okSign, this]
theorem bad_dup {s : Sg} {k : Nat} (hk : k < s.length) (hn : s[k].1 ∈ nm s k) : okSign s = false := by
  unfold nm at hn
  have : ¬ (s.map (·.1)).Nodup := by
    intro h
    rw [← List.take_append_drop k s, List.map_append, List.nodup_append] at h
    refine h.2.2 _ hn s[k].1 ?_ rfl
    rw [List.drop_eq_getElem_cons hk, List.map_cons]; exact List.mem_cons_self ..
  simp [okSign, this]
theorem good_all {s : Sg} {k : Nat} (hk : s.length ≤ k) (h : goodTo s k) : okSign s = (decide (1 ≤ s.length) && decide (s.length ≤ 12) && decide ((s.getD 0 default).2 = 2)) := by
  obtain ⟨h1, h2⟩ := h
  unfold nm at h2
  rw [List.take_of_length_le hk] at h1 h2
  simp [okSign, h1, h2]
theorem entOk_eq (x : ByteArray × Int) : entOk x = (nameOk x.1 && (decide (0 ≤ x.2) && decide (x.2 ≤ 3))) := rfl

def metF (s : Sg) (k : Nat) (x : ByteArray) : Bool := (nm s k).any (fun y => decide (y = x))
theorem metF_true {s : Sg} {k : Nat} {x : ByteArray} (h : metF s k x = true) : x ∈ nm s k := by
  simp only [metF, List.any_eq_true, decide_eq_true_eq] at h
  obtain ⟨y, hy, rfl⟩ := h; exact hy
theorem metF_false {s : Sg} {k : Nat} {x : ByteArray} (h : metF s k x = false) : x ∉ nm s k := by
  simp only [metF, List.any_eq_false, decide_eq_true_eq] at h
  exact fun hx => h x hx rfl
theorem metF_succ {s : Sg} {k : Nat} (hk : k < s.length) : (fun z => if z = s[k].1 then true else metF s k z) = metF s (k + 1) := by
  funext z
  unfold metF nm
  rw [List.take_succ_eq_append_getElem hk, List.map_append, List.any_append]
  by_cases h : z = s[k].1
  · simp [h]
  · rw [if_neg h]; simp; exact fun e => (h e.symm).elim

def vsRel (s : Sg) (w0 : World) (i : Value) (wr : World) : Prop :=
  ∃ k : Nat, i = .int .i64 k ∧ k ≤ s.length ∧ goodTo s k ∧ BMap Tryz.prog 9 4 wr w0.heap.size k (metF s k) ∧ Below w0.heap.size w0 wr

set_option maxHeartbeats 1000000 in
theorem ValidSign_any {S : Nat → Prop} (a : Option Addr) (c : Nat) (s : Sg) (w : World) (h : Sign S w a c s) :
    Calls Tryz.prog 57 #[.slice a s.length c] w fun e w' => e = .returned (.bool (okSign s)) ∧ Below w.heap.size w w' := by
  have m := h.le
  have hmm := @run_makeMap Tryz.prog
  go_enter Tryz.func57, Tryz.ntmps57
  go_wp2_with fail
  go_loopw [9] (fun i wr => vsRel s w i wr) (fun i _ => s.length - (intOf i).toNat)
  case atStart => exact ⟨0, rfl, Nat.zero_le _, goodTo_zero s, (funext (fun x => by simp [metF, nm]) : metF s 0 = fun _ => false) ▸ BMap.made w, below1 _ _⟩
  case round =>
    obtain ⟨k, rfl, hk, hg, hm, hB⟩ := hrel
    by_cases hlt : k < s.length
    · obtain ⟨b, o, rfl, -, q1, q2, hsz, hrg⟩ := h.sym k hlt
      have hb : b < w.heap.size := World.block_lt_of_cell? w _ q1
      have p1 := (hB.cell (p := ⟨b, o + k * 2, none⟩) hb).trans q1
      have p2 := (hB.cell (p := ⟨b, o + k * 2 + 1, none⟩) hb).trans q2
      clear q1 q2
      obtain ⟨x, hx⟩ : ∃ x, s[k].1 = x := ⟨_, rfl⟩
      obtain ⟨n, hn⟩ : ∃ n, s[k].2 = n := ⟨_, rfl⟩
      rw [hx] at p1 hsz
      rw [hn] at p2 hrg
      have hxH := Lib.hid hx
      have hnH := Lib.hid hn
      have hgH := Lib.hid hg
      have hw0 := hm.lt
      clear hx hn hg h
      obtain ⟨ok, hok⟩ : ∃ ok, nameOk x = ok := ⟨_, rfl⟩
      cases ok with
      | false =>
        have hfin := Lib.hid (bad_ent hlt (by rw [entOk_eq, hxH.out, hok]; rfl))
        have hokH := Lib.hid hok
        clear hok
        go_wp2_with (go_at_call 106; refine (letters_any _ _ hsz).mono ?_; rw [hokH.out]; rintro e w1 ⟨rfl, hb1⟩)
        go_ret
        exact ⟨ret_bool hfin.out.symm, below_step hB (Nat.le_of_lt hw0) hb1⟩
      | true =>
        have hokH := Lib.hid hok
        clear hok
        have hlk : ∀ w1, Below (wr.alloc (.cells #[.string x, .int .i64 n] 71)).heap.size (wr.alloc (.cells #[.string x, .int .i64 n] 71)) w1 → BMap Tryz.prog 9 4 w1 w.heap.size k (metF s k) :=
          fun w1 hb1 => (hm.below (B := wr.heap.size) (below1 _ _) hw0).below hb1 (by simp; omega)
        have hlkH := Lib.hid hlk
        clear hlk
        obtain ⟨mt, hmt⟩ : ∃ mt, metF s k x = mt := ⟨_, rfl⟩
        cases mt with
        | true =>
          have hfin := Lib.hid (bad_dup hlt (by rw [hxH.out]; exact metF_true hmt))
          have hmtH := Lib.hid hmt
          clear hmt
          go_wp2_with (go_at_call 106; refine (letters_any _ _ hsz).mono ?_; rw [hokH.out]; rintro e w1 ⟨rfl, hb1⟩; have hl1 := (hlkH.out w1 hb1).look (tm := 125) Tryz.underlying125 Tryz.underlying9 Tryz.underlying4 (zBool w1) x (big_max hsz); rw [hmtH.out] at hl1; have x0 : w1.cell? ⟨wr.heap.size, 0, none⟩ = some (.string x) := (hb1.cell (by simp)).trans (by go_simp))
          go_ret
          exact ⟨ret_bool hfin.out.symm, below_step hB (Nat.le_of_lt hw0) hb1⟩
        | false =>
          have hni : s[k].1 ∉ nm s k := by rw [hxH.out]; exact metF_false hmt
          have hniH := Lib.hid hni
          have hmtH := Lib.hid hmt
          clear hmt hni
          obtain ⟨ra, hra⟩ : ∃ ra, (decide (0 ≤ n) && decide (n ≤ 3)) = ra := ⟨_, rfl⟩
          cases ra with
          | false =>
            have hfin := Lib.hid (bad_ent hlt (by rw [entOk_eq, hnH.out, hra]; simp))
            have hraH := Lib.hid hra
            clear hra
            go_wp2_with (first | (go_at_call 106; refine (letters_any _ _ hsz).mono ?_; rw [hokH.out]; rintro e w1 ⟨rfl, hb1⟩; have hl1 := (hlkH.out w1 hb1).look (tm := 125) Tryz.underlying125 Tryz.underlying9 Tryz.underlying4 (zBool w1) x (big_max hsz); rw [hmtH.out] at hl1; have x0 : w1.cell? ⟨wr.heap.size, 0, none⟩ = some (.string x) := (hb1.cell (by simp)).trans (by go_simp); have x1 : w1.cell? ⟨wr.heap.size, 1, none⟩ = some (.int .i64 n) := (hb1.cell (by simp)).trans (by go_simp)) | (go_at_call 107; refine (within_any _ _ _ _).mono ?_; rw [hraH.out]; rintro e w' ⟨rfl, rfl⟩))
            go_ret
            exact ⟨ret_bool hfin.out.symm, below_step hB (Nat.le_of_lt hw0) hb1⟩
          | true =>
            have hent : entOk s[k] = true := by rw [entOk_eq, hxH.out, hnH.out, hra, hokH.out]; rfl
            have hgs := Lib.hid (goodTo_succ hgH.out hlt hent hniH.out)
            have hraH := Lib.hid hra
            clear hra hent
            go_wp2_with (first | (go_at_call 106; refine (letters_any _ _ hsz).mono ?_; rw [hokH.out]; rintro e w1 ⟨rfl, hb1⟩; have hl1 := (hlkH.out w1 hb1).look (tm := 125) Tryz.underlying125 Tryz.underlying9 Tryz.underlying4 (zBool w1) x (big_max hsz); rw [hmtH.out] at hl1; have x0 : w1.cell? ⟨wr.heap.size, 0, none⟩ = some (.string x) := (hb1.cell (by simp)).trans (by go_simp); have x1 : w1.cell? ⟨wr.heap.size, 1, none⟩ = some (.int .i64 n) := (hb1.cell (by simp)).trans (by go_simp); obtain ⟨w2, hu1, hu2, hu3⟩ := (hlkH.out w1 hb1).store (tm := 125) Tryz.underlying125 Tryz.underlying9 Tryz.underlying4 (by unfold maxLen; omega) x (big_max hsz) true) | (go_at_call 107; refine (within_any _ _ _ _).mono ?_; rw [hraH.out]; rintro e w' ⟨rfl, rfl⟩))
            go_roundw
            case rel => 
              have hb2 := below_step hB (Nat.le_of_lt hw0) hb1
              exact ⟨k + 1, by go_num, by omega, hgs.out, by rw [← metF_succ hlt, hxH.out]; exact hu2, hb2.grown hu3 (Nat.le_trans (by simp) hb1.size |> Nat.le_trans hB.size) (fun j e => by cases e; exact Nat.le_refl _)⟩
            case measure => simp [intOf]; omega
    · have hfin := Lib.hid (good_all (by omega) hg)
      by_cases h12 : 1 ≤ s.length ∧ s.length ≤ 12
      · have hr : (decide (1 ≤ (s.length : Int)) && decide ((s.length : Int) ≤ 12)) = true := by simp; omega
        have hl0 : 0 < s.length := by omega
        obtain ⟨b, o, rfl, -, q1, q2, -, -⟩ := h.sym 0 hl0
        have hb : b < w.heap.size := World.block_lt_of_cell? w _ q1
        have p2 := (hB.cell (p := ⟨b, o + 0 * 2 + 1, none⟩) hb).trans q2
        rw [Nat.zero_mul, Nat.add_zero] at p2
        have hgd : (s.getD 0 default).2 = s[0].2 := by rw [List.getD_eq_getElem?_getD, List.getElem?_eq_getElem hl0]; rfl
        have hgdH := Lib.hid hgd
        have h12H := Lib.hid h12
        clear q1 q2 hg hgd h12 h
        go_wp2_with (go_at_call 107; refine (within_any _ _ _ _).mono ?_; rw [hr]; rintro e w' ⟨rfl, rfl⟩)
        go_ret
        refine ⟨ret_bool ?_, hB⟩
        rw [hfin.out, hgdH.out, decide_eq_true h12H.out.1, decide_eq_true h12H.out.2]
        rfl
      · have hr : (decide (1 ≤ (s.length : Int)) && decide ((s.length : Int) ≤ 12)) = false := by simp; omega
        have hfin2 : okSign s = false := by rw [hfin.out]; simp; omega
        have hfin2H := Lib.hid hfin2
        clear hg h12 h hfin2
        go_wp2_with (go_at_call 107; refine (within_any _ _ _ _).mono ?_; rw [hr]; rintro e w' ⟨rfl, rfl⟩)
        go_ret
        exact ⟨ret_bool hfin2H.out.symm, hB⟩
end Go.Proofs.YtgkddhakhapjlaaGreatDoor

/- Walks: ValidSign of the reference; Valid, of both. -/
namespace Go.Proofs.YtgkddhakhapjlaaGreatDoor
open Go Go.RowKit

theorem sym0 {S : Nat → Prop} {w : World} {a : Option Addr} {c : Nat} {s : Sg} (h : Sign S w a c s) (h0 : 0 < s.length) :
    ∃ b off, a = some ⟨b, off, none⟩ ∧ S b ∧ w.cell? ⟨b, off, none⟩ = some (.string s[0].1) ∧ w.cell? ⟨b, off + 1, none⟩ = some (.int .i64 s[0].2) := by
  obtain ⟨b, o, ha, hb, h1, h2, _⟩ := h.sym 0 h0
  simp at h1 h2
  exact ⟨b, o, ha, hb, h1, h2⟩
def vsR1 (s : Sg) (w0 : World) (i : Value) (wr : World) : Prop := ∃ k : Nat, i = .int .i64 k ∧ k ≤ s.length ∧ goodTo s k ∧ Drew w0 wr
def vsR2 (s : Sg) (w0 : World) (x : ByteArray) (k : Nat) (i : Value) (wr : World) : Prop := ∃ j : Nat, i = .int .i64 j ∧ j ≤ k ∧ x ∉ nm s j ∧ Drew w0 wr
theorem nm_succ {s : Sg} {j : Nat} {x : ByteArray} (hj : j < s.length) (h : x ∉ nm s j) (hx : s[j].1 ≠ x) : x ∉ nm s (j + 1) := by
  unfold nm at *
  rw [List.take_succ_eq_append_getElem hj, List.map_append, List.mem_append, not_or]
  exact ⟨h, by simpa using fun e => hx e.symm⟩
theorem nm_mem {s : Sg} {j k : Nat} (hj : j < k) (hk : k ≤ s.length) : (s[j]'(by omega)).1 ∈ nm s k := by
  unfold nm
  exact List.mem_map.2 ⟨s[j], List.mem_take_iff_getElem.2 ⟨j, by omega, rfl⟩, rfl⟩

set_option maxHeartbeats 1000000 in
theorem rValidSign_any {S : Nat → Prop} (a : Option Addr) (c : Nat) (s : Sg) (w : World) (h : Sign S w a c s) :
    Calls Tryz.prog 61 #[.slice a s.length c] w fun e w' => e = .returned (.bool (okSign s)) ∧ Drew w w' := by
  have m := h.le
  by_cases h12 : 1 ≤ s.length ∧ s.length ≤ 12
  · have hr : (decide (1 ≤ (s.length : Int)) && decide ((s.length : Int) ≤ 12)) = true := by simp; omega
    have hl0 : 0 < s.length := by omega
    obtain ⟨b, o, rfl, hSb, -, q0⟩ := sym0 h hl0
    have hgd : (s.getD 0 default).2 = s[0].2 := by rw [List.getD_eq_getElem?_getD, List.getElem?_eq_getElem hl0]; rfl
    have hgdH := Lib.hid hgd
    have h12H := Lib.hid h12
    obtain ⟨n0, hn0⟩ : ∃ n, s[0].2 = n := ⟨_, rfl⟩
    rw [hn0] at q0 hgd
    have hgdH := Lib.hid hgd
    clear hgd hn0 h12
    by_cases h2 : n0 = 2
    · subst h2
      go_enter Tryz.func61, Tryz.ntmps61
      go_wp2_with (go_at_call 110; refine (rwithin_any _ _ _ _).mono ?_; rw [hr]; rintro e w' ⟨rfl, rfl⟩)
      go_loopw [3, 4] (fun i _ wr => vsR1 s w i wr) (fun i _ _ => s.length - (intOf i).toNat)
      case atStart => exact ⟨0, rfl, Nat.zero_le _, goodTo_zero s, .refl _⟩
      case round =>
        obtain ⟨k, rfl, hk, hg, n1, rfl⟩ := hrel
        by_cases hlt : k < s.length
        · obtain ⟨b', o', he, -, p1, p2, hsz, hrg⟩ := h.sym k hlt
          simp only [Option.some.injEq, Addr.mk.injEq, and_true] at he
          obtain ⟨rfl, rfl⟩ := he
          obtain ⟨x, hx⟩ : ∃ x, s[k].1 = x := ⟨_, rfl⟩
          obtain ⟨n, hn⟩ : ∃ n, s[k].2 = n := ⟨_, rfl⟩
          rw [hx] at p1 hsz
          rw [hn] at p2 hrg
          obtain ⟨ok, hok⟩ : ∃ ok, nameOk x = ok := ⟨_, rfl⟩
          obtain ⟨ra, hra⟩ : ∃ ra, (decide (0 ≤ n) && decide (n ≤ 3)) = ra := ⟨_, rfl⟩
          have hent : entOk s[k] = (ok && ra) := by rw [entOk_eq, hx, hn, hok, hra]
          have hxH := Lib.hid hx
          have hgH := Lib.hid hg
          have hentH := Lib.hid hent
          have hokH := Lib.hid hok
          have hraH := Lib.hid hra
          have hH := Lib.hid h
          clear hx hn hg hent hok hra h
          cases ok with
          | false =>
            have hfin := Lib.hid (bad_ent hlt hentH.out)
            go_wp2_with (first | (go_at_call 110; refine (rwithin_any _ _ _ _).mono ?_; rw [hraH.out]; rintro e w' ⟨rfl, rfl⟩) | (go_at_call 111; refine (isName_any _ _ hsz).mono ?_; rw [hokH.out]; rintro e w' ⟨rfl, rfl⟩))
            go_ret
            exact ⟨ret_bool hfin.out.symm, .mk _ _⟩
          | true =>
            cases ra with
            | false =>
              have hfin := Lib.hid (bad_ent hlt hentH.out)
              go_wp2_with (first | (go_at_call 110; refine (rwithin_any _ _ _ _).mono ?_; rw [hraH.out]; rintro e w' ⟨rfl, rfl⟩) | (go_at_call 111; refine (isName_any _ _ hsz).mono ?_; rw [hokH.out]; rintro e w' ⟨rfl, rfl⟩))
              go_ret
              exact ⟨ret_bool hfin.out.symm, .mk _ _⟩
            | true =>
              go_wp2_with (first | (go_at_call 110; refine (rwithin_any _ _ _ _).mono ?_; rw [hraH.out]; rintro e w' ⟨rfl, rfl⟩) | (go_at_call 111; refine (isName_any _ _ hsz).mono ?_; rw [hokH.out]; rintro e w' ⟨rfl, rfl⟩))
              go_loopw [4] (fun i wr => vsR2 s w x k i wr) (fun i _ => k - (intOf i).toNat)
              case atStart => exact ⟨0, rfl, Nat.zero_le _, by simp [nm], .mk _ _⟩
              case round =>
                obtain ⟨j, rfl, hj, hni, n2, rfl⟩ := hrel
                by_cases hjk : j < k
                · have hjs : j < s.length := by omega
                  obtain ⟨b', o', he, -, r1, -, -, -⟩ := hH.out.sym j hjs
                  simp only [Option.some.injEq, Addr.mk.injEq, and_true] at he
                  obtain ⟨rfl, rfl⟩ := he
                  have hniH := Lib.hid hni
                  obtain ⟨y, hy⟩ : ∃ y, s[j].1 = y := ⟨_, rfl⟩
                  rw [hy] at r1
                  have hyH := Lib.hid hy
                  clear hni hy
                  by_cases hxy : y = x
                  · have hfin := Lib.hid (bad_dup hlt (by rw [hxH.out, ← hxy, ← hyH.out]; exact nm_mem hjk (Nat.le_of_lt hlt)))
                    have hb := str_eq hxy
                    clear hxy
                    go_wp2_with fail
                    go_quiet (fail)
                    all_goals go_wp2_with fail
                    go_ret
                    exact ⟨ret_bool hfin.out.symm, .mk2 _ _ _⟩
                  · have hb := str_neq hxy
                    have hxyH := Lib.hid hxy
                    clear hxy
                    go_wp2_with fail
                    go_quiet (fail)
                    all_goals go_wp2_with fail
                    exact ⟨⟨j + 1, by go_num, by omega, nm_succ hjs hniH.out (by rw [hyH.out]; exact hxyH.out), .mk _ _⟩, by simp [intOf]; omega⟩
                · have hjk' : j = k := by omega
                  subst hjk'
                  have hgs := Lib.hid (goodTo_succ hgH.out hlt hentH.out (by rw [hxH.out]; exact hni))
                  go_wp2_with fail
                  go_roundw
                  case rel => exact ⟨j + 1, by go_num, by omega, hgs.out, .mk _ _⟩
                  case measure => simp [intOf]; omega
        · have hfin := Lib.hid (good_all (by omega) hg)
          clear hg
          go_wp2_with fail
          go_ret
          refine ⟨ret_bool ?_, .mk _ _⟩
          rw [hfin.out, hgdH.out, decide_eq_true h12H.out.1, decide_eq_true h12H.out.2]
          rfl
    · have hfin : okSign s = false := by unfold okSign; rw [hgdH.out, decide_eq_false h2, Bool.and_false]
      have hne : (n0 != 2) = true := by simp [h2]
      have hfinH := Lib.hid hfin
      clear hfin h2
      go_enter Tryz.func61, Tryz.ntmps61
      go_wp2_with (go_at_call 110; refine (rwithin_any _ _ _ _).mono ?_; rw [hr]; rintro e w' ⟨rfl, rfl⟩)
      go_ret
      exact ⟨ret_bool hfinH.out.symm, .refl _⟩
  · have hr : (decide (1 ≤ (s.length : Int)) && decide ((s.length : Int) ≤ 12)) = false := by simp; omega
    have hfin : okSign s = false := by simp [okSign]; omega
    have hfinH := Lib.hid hfin
    clear hfin h12
    go_enter Tryz.func61, Tryz.ntmps61
    go_wp2_with (go_at_call 110; refine (rwithin_any _ _ _ _).mono ?_; rw [hr]; rintro e w' ⟨rfl, rfl⟩)
    go_ret
    exact ⟨ret_bool hfinH.out.symm, .refl _⟩

theorem endOf_zero {s : Sg} {t : List Int} (ht : 1 ≤ t.length) : decide (endOf s t 0 = t.length) = decide (skip s 1 t = some []) := by
  rw [Bool.eq_iff_iff, decide_eq_true_eq, decide_eq_true_eq]
  cases h : skip s 1 t with
  | none => have := endOf_none s t 0 (by simpa using h); simp at this; rw [this]; simp <;> omega
  | some r =>
    obtain ⟨h1, h2, h3, h4⟩ := endOf_some s t 0 r (by simpa using h)
    simp at h1
    rw [h1]
    constructor
    · intro e; have : r.length = 0 := by omega
      rw [List.length_eq_zero_iff] at this; rw [this]
    · intro e; cases e; simp
theorem codeOk_within {s : Sg} {n : Int} : (decide (-12 ≤ n) && decide (n ≤ (s.length : Int) - 1)) = codeOk s n := by
  rw [Bool.eq_iff_iff]; simp [codeOk] <;> omega

set_option maxHeartbeats 1000000 in
theorem Valid_any {S1 S2 : Nat → Prop} (a1 a2 : Option Addr) (c1 c2 : Nat) (s : Sg) (t : List Int) (w : World) (h1 : Sign S1 w a1 c1 s) (h2 : Ints S2 w a2 c2 t) :
    Calls Tryz.prog 60 #[.slice a1 s.length c1, .slice a2 t.length c2] w fun e w' => e = .returned (.bool (okT s t)) ∧ Below w.heap.size w w' := by
  have m2 := h2.le
  obtain ⟨ok, hok⟩ : ∃ ok, okSign s = ok := ⟨_, rfl⟩
  have hv := ValidSign_any a1 c1 s w h1
  rw [hok] at hv
  have hvH := Lib.hid hv
  clear hv
  cases ok with
  | false =>
    have hfin : okT s t = false := by simp [okT, hok]
    have hfinH := Lib.hid hfin
    clear hfin hok
    go_enter Tryz.func60, Tryz.ntmps60
    go_wp2_with (go_at_call 57; refine hvH.out.mono ?_; rintro e w1 ⟨rfl, hb1⟩)
    go_ret
    exact ⟨ret_bool hfinH.out.symm, hb1⟩
  | true =>
    by_cases hl : 1 ≤ t.length ∧ t.length ≤ 60
    · have hr : (decide (1 ≤ (t.length : Int)) && decide ((t.length : Int) ≤ 60)) = true := by simp; omega
      have hfin : okT s t = decide (endOf s t 0 = t.length) := by rw [endOf_zero hl.1]; simp [okT, hok, hl]
      have hfinH := Lib.hid hfin
      have hokH := Lib.hid hok
      clear hfin hok
      go_enter Tryz.func60, Tryz.ntmps60
      go_wp2_with (first | (go_at_call 57; refine hvH.out.mono ?_; rintro e w1 ⟨rfl, hb1⟩) | (go_at_call 107; refine (within_any _ _ _ _).mono ?_; rw [hr]; rintro e w' ⟨rfl, rfl⟩) | (go_at_call 109; refine (end_any hokH.out 0 _ (.inr ⟨Int.le_refl _, Int.natCast_nonneg _⟩) (h1.below hb1) (h2.below hb1)).mono ?_; rintro e w2 ⟨d, rfl, hd, hb2⟩))
      go_ret
      refine ⟨ret_bool ?_, hb1.trans (hb2.mono hb1.size)⟩
      rw [hfinH.out, Bool.eq_iff_iff]; simp
    · have hr : (decide (1 ≤ (t.length : Int)) && decide ((t.length : Int) ≤ 60)) = false := by simp; omega
      have hfin : okT s t = false := by simp [okT, hok]; omega
      have hfinH := Lib.hid hfin
      clear hfin hok
      go_enter Tryz.func60, Tryz.ntmps60
      go_wp2_with (first | (go_at_call 57; refine hvH.out.mono ?_; rintro e w1 ⟨rfl, hb1⟩) | (go_at_call 107; refine (within_any _ _ _ _).mono ?_; rw [hr]; rintro e w' ⟨rfl, rfl⟩))
      go_ret
      exact ⟨ret_bool hfinH.out.symm, hb1⟩

def rvRel (s : Sg) (t : List Int) (w : World) (need i : Value) (wr : World) : Prop :=
  ∃ k n : Nat, i = .int .i64 k ∧ need = .int .i64 n ∧ k ≤ t.length ∧ n ≤ 1 + 3 * k ∧ (skip s n (t.drop k) = some [] ↔ skip s 1 t = some []) ∧ Drew w wr

set_option maxHeartbeats 1000000 in
theorem rValid_any {S1 S2 : Nat → Prop} (a1 a2 : Option Addr) (c1 c2 : Nat) (s : Sg) (t : List Int) (w : World) (h1 : Sign S1 w a1 c1 s) (h2 : Ints S2 w a2 c2 t) :
    Calls Tryz.prog 66 #[.slice a1 s.length c1, .slice a2 t.length c2] w fun e w' => e = .returned (.bool (okT s t)) ∧ Drew w w' := by
  have m1 := h1.le
  have m2 := h2.le
  obtain ⟨ok, hok⟩ : ∃ ok, okSign s = ok := ⟨_, rfl⟩
  have hv := rValidSign_any a1 c1 s w h1
  rw [hok] at hv
  have hvH := Lib.hid hv
  clear hv
  cases ok with
  | false =>
    have hfin : okT s t = false := by simp [okT, hok]
    have hfinH := Lib.hid hfin
    clear hfin hok
    go_enter Tryz.func66, Tryz.ntmps66
    go_wp2_with (go_at_call 61; refine hvH.out.mono ?_; rintro e w1 ⟨rfl, hb1⟩)
    go_ret
    exact ⟨ret_bool hfinH.out.symm, hb1⟩
  | true =>
    by_cases hl : 1 ≤ t.length ∧ t.length ≤ 60
    · have hr : (decide (1 ≤ (t.length : Int)) && decide ((t.length : Int) ≤ 60)) = true := by simp; omega
      have hfin : okT s t = decide (skip s 1 t = some []) := by simp [okT, hok, hl]
      have hfinH := Lib.hid hfin
      have hokH := Lib.hid hok
      clear hfin hok
      go_enter Tryz.func66, Tryz.ntmps66
      go_wp2_with (first | (go_at_call 61; refine hvH.out.mono ?_; rintro e w1 ⟨rfl, nn, rfl⟩) | (go_at_call 110; refine (rwithin_any _ _ _ _).mono ?_; rw [hr]; rintro e w' ⟨rfl, rfl⟩))
      go_loopw [5, 6] (fun need i wr => rvRel s t w need i wr) (fun _ i _ => t.length - (intOf i).toNat)
      case atStart => exact ⟨0, 1, rfl, rfl, Nat.zero_le _, Nat.le_refl _, by simp, .mk _ _⟩
      case round =>
        obtain ⟨k, n, rfl, rfl, hk, hn, hs, n2, rfl⟩ := hrel
        by_cases hlt : k < t.length
        · have hdc := List.drop_eq_getElem_cons hlt
          rw [hdc] at hs
          obtain ⟨b, o, rfl, -, q, -⟩ := h2.int k hlt
          by_cases hn0 : n = 0
          · subst hn0
            have hfin : okT s t = false := by rw [hfinH.out, decide_eq_false]; rw [← hs, skip_zero]; exact fun e => by cases e
            have hfin2 := Lib.hid hfin
            clear hs hdc hfin h2 h1
            go_wp2_with fail
            go_ret
            exact ⟨ret_bool hfin2.out.symm, .mk _ _⟩
          · obtain ⟨n', rfl⟩ : ∃ n', n = n' + 1 := ⟨n - 1, by omega⟩
            have hnz : (((n' + 1 : Nat) : Int) == 0) = false := by simp; omega
            rw [skip_cons] at hs
            obtain ⟨cd, hcd⟩ : ∃ cd, codeOk s t[k] = cd := ⟨_, rfl⟩
            have hw := codeOk_within (s := s) (n := t[k])
            rw [hcd] at hw
            rw [hcd] at hs
            have hwH := Lib.hid hw
            clear hw
            cases cd with
            | false =>
              have hfin : okT s t = false := by rw [hfinH.out, decide_eq_false]; rw [← hs]; simp
              have hfin2 := Lib.hid hfin
              clear hs hdc hfin h2 h1 hcd
              go_wp2_with (go_at_call 110; refine (rwithin_any _ _ _ _).mono ?_; rw [hwH.out]; rintro e w' ⟨rfl, rfl⟩)
              go_ret
              exact ⟨ret_bool hfin2.out.symm, .mk _ _⟩
            | true =>
              rw [if_pos rfl] at hs
              obtain ⟨hA, hA3⟩ := arC_ok hokH.out hcd
              have ca := rArity_any a1 c1 s t[k] (w.drewN n2) (h1.drewN _) hcd
              rw [hA] at ca
              have caH := Lib.hid ca
              have hsH := Lib.hid hs
              obtain ⟨m, hm⟩ : ∃ m, ar s t[k] = m := ⟨_, rfl⟩
              rw [hm] at caH hsH hA3
              clear hs hdc hcd ca hA hm
              go_wp2_with (first | (go_at_call 110; refine (rwithin_any _ _ _ _).mono ?_; rw [hwH.out]; rintro e w' ⟨rfl, rfl⟩) | (go_at_call 116; refine caH.out.mono ?_; rintro e w' ⟨rfl, rfl⟩))
              go_roundw
              case rel => exact ⟨k + 1, n' + m, by go_num, by congr 1 <;> omega, by omega, by omega, hsH.out, .mk _ _⟩
              case measure => simp [intOf]; omega
        · have hd : t.drop k = [] := List.drop_eq_nil_of_le (by omega)
          rw [hd] at hs
          have hsH := Lib.hid hs
          clear hs hd h1 h2
          go_wp2_with fail
          go_ret
          refine ⟨ret_bool ?_, .mk _ _⟩
          rw [hfinH.out, Bool.eq_iff_iff, decide_eq_true_eq, ← hsH.out]
          cases n with
          | zero => simp [skip_zero]
          | succ n => simp [skip_nil] <;> omega
    · have hr : (decide (1 ≤ (t.length : Int)) && decide ((t.length : Int) ≤ 60)) = false := by simp; omega
      have hfin : okT s t = false := by simp [okT, hok]; omega
      have hfinH := Lib.hid hfin
      clear hfin hok
      go_enter Tryz.func66, Tryz.ntmps66
      go_wp2_with (first | (go_at_call 61; refine hvH.out.mono ?_; rintro e w1 ⟨rfl, hb1⟩) | (go_at_call 110; refine (rwithin_any _ _ _ _).mono ?_; rw [hr]; rintro e w' ⟨rfl, rfl⟩))
      go_ret
      exact ⟨ret_bool hfinH.out.symm, hb1⟩
end Go.Proofs.YtgkddhakhapjlaaGreatDoor

/- Slices that a call makes itself and appends to, read as plain lists. No program is named. -/
namespace Go.Proofs.YtgkddhakhapjlaaGreatDoor
open Go Go.RowKit

/-- the blocks of an element of an own list: those of S, never the list's own row -/
def Off (S : Nat → Prop) (v : Value) : Nat → Prop := fun b => S b ∧ some b ≠ v.ownBlock

/-- The value v is a slice of the call's own, in a block from base on, that reads as l. -/
def OwnL {α : Type} (E : Enc α) (S : Nat → Prop) (w : World) (base : Nat) (e : TypeId) (v : Value) (l : List α) : Prop :=
  ∃ xs : List (List Value), w.ownsRow base e E.size v l.length xs.flatten ∧ xs.length = l.length ∧ ∀ i (h1 : i < xs.length) (h2 : i < l.length), E.R (Off S v) w xs[i] l[i]

theorem flatten_len {xs : List (List Value)} {s : Nat} (h : ∀ x ∈ xs, x.length = s) : xs.flatten.length = xs.length * s := by
  induction xs with
  | nil => simp
  | cons x r ih =>
    rw [List.flatten_cons, List.length_append, ih (fun y hy => h y (by simp [hy])), h x (by simp), List.length_cons, Nat.succ_mul]; omega
theorem flatten_get {xs : List (List Value)} {s : Nat} (h : ∀ x ∈ xs, x.length = s) (i : Nat) (hi : i < xs.length) (j : Nat) (hj : j < xs[i].length) : xs.flatten[i * s + j]? = some xs[i][j] := by
  induction xs generalizing i with
  | nil => simp at hi
  | cons x r ih =>
    have hx := h x (by simp)
    cases i with
    | zero =>
      simp at hj
      rw [List.flatten_cons, Nat.zero_mul, Nat.zero_add, List.getElem?_append_left hj]
      simp
    | succ i =>
      rw [List.flatten_cons, List.getElem?_append_right (by rw [hx, Nat.succ_mul]; omega), hx, show (i + 1) * s + j - s = i * s + j by rw [Nat.succ_mul]; omega]
      simp at hi
      exact ih (fun y hy => h y (by simp [hy])) i hi hj

section
variable {α : Type} {E : Enc α} {S : Nat → Prop} {w : World} {base : Nat} {e : TypeId} {v : Value} {l : List α}

theorem OwnL.nil (E : Enc α) (S : Nat → Prop) (w : World) (base : Nat) (e : TypeId) : OwnL E S w base e (.slice none 0 0) [] :=
  ⟨[], World.ownsRow_nil _ _ _ _, rfl, fun i h => by simp at h⟩
theorem OwnL.made (E : Enc α) (S : Nat → Prop) (w : World) (base : Nat) (e : TypeId) (hb : base ≤ w.heap.size) : OwnL E S (w.alloc (.cells #[] e)) base e (.slice (some ⟨w.heap.size, 0, none⟩) 0 0) [] :=
  ⟨[], World.ownsRow_made w #[] 0 hb (Nat.zero_le _) (by simp), rfl, fun i h => by simp at h⟩
theorem OwnL.lt (h : OwnL E S w base e v l) : ∀ k, v.ownBlock = some k → base ≤ k ∧ k < w.heap.size := by
  obtain ⟨xs, ho, _⟩ := h; exact ho.lt
/-- what changes neither the row nor the elements' blocks -/
theorem OwnL.kept {w' : World} (h : OwnL E S w base e v l) (hr : ∀ k, v.ownBlock = some k → w'.heap[k]? = w.heap[k]?) (hA : Agree (Off S v) w w') : OwnL E S w' base e v l := by
  obtain ⟨xs, ho, hl, hx⟩ := h
  refine ⟨xs, ⟨ho.1, ?_⟩, hl, fun i h1 h2 => E.mono (hx i h1 h2) (fun _ _ h => h) hA⟩
  rcases ho.2 with hn | ⟨g, cap, cur, rfl, hb, hgg, rest⟩
  · exact .inl hn
  · exact .inr ⟨g, cap, cur, rfl, hb, (hr g rfl).trans hgg, rest⟩
theorem OwnL.call {w' : World} (h : OwnL E S w base e v l) (hb : Below w.heap.size w w') : OwnL E S w' base e v l :=
  h.kept (fun k hk => hb.block k (h.lt k hk).2) (.all hb)
theorem OwnL.grown {w' : World} {row : Option Nat} (h : OwnL E S w base e v l) (hg : w.grownBy w' row) (h1 : ∀ k, v.ownBlock = some k → row ≠ some k) (h2 : ∀ b, S b → b < w.heap.size → row ≠ some b) : OwnL E S w' base e v l :=
  h.kept (fun k hk => hg.block k (h.lt k hk).2 (fun e => h1 k hk e.symm)) (fun b hb hl => hg.block b hl (fun e => h2 b hb.1 hl e.symm))
theorem OwnL.baseMono {base' : Nat} (h : OwnL E S w base e v l) (hb : base' ≤ base) : OwnL E S w base' e v l := by
  obtain ⟨xs, ho, hx⟩ := h; exact ⟨xs, ho.mono hb, hx⟩
theorem OwnL.weak {S' : Nat → Prop} (h : OwnL E S w base e v l) (hS : ∀ b, b < w.heap.size → S b → S' b) : OwnL E S' w base e v l := by
  obtain ⟨xs, ho, hl, hx⟩ := h
  exact ⟨xs, ho, hl, fun i h1 h2 => E.mono (hx i h1 h2) (fun b hb h => ⟨hS b hb h.1, h.2⟩) (.refl _ _)⟩

/-- read as a slice -/
theorem OwnL.sl (h : OwnL E S w base e v l) : ∃ a c, v = .slice a l.length c ∧ Sl E (fun b => base ≤ b ∨ S b) w a c l := by
  obtain ⟨xs, ho, hl, hx⟩ := h
  have hln : ∀ x ∈ xs, x.length = E.size := by
    intro x hx'
    obtain ⟨i, hi, rfl⟩ := List.getElem_of_mem hx'
    exact E.len (hx i hi (by omega))
  rcases ho.2 with ⟨rfl, h0⟩ | ⟨g, cap, cur, rfl, hb, hg, h1, h2, h3, h4⟩
  · have : l = [] := List.length_eq_zero_iff.1 h0
    subst this
    exact ⟨none, 0, rfl, .empty⟩
  · refine ⟨_, _, rfl, h1, h2, fun h => by simp at h, fun _ => ⟨g, 0, rfl, .inl hb, (Array.getElem?_eq_some_iff.1 hg).1, fun i hi => ?_⟩⟩
    have hi' : i < xs.length := by omega
    refine ⟨xs[i], hln _ (List.getElem_mem hi'), fun j hj => ?_, E.mono (hx i hi' hi) (fun b _ h => .inr h.1) (.refl _ _)⟩
    have hj' : j < E.size := by rw [hln _ (List.getElem_mem hi')] at hj; exact hj
    rw [Nat.zero_add, World.ownsRow.cellAt (g := g) (cap := cap) ho (i * E.size + j)]
    · exact flatten_get hln i hi' j hj
    · calc i * E.size + j < i * E.size + E.size := by omega
        _ = (i + 1) * E.size := by rw [Nat.succ_mul]
        _ ≤ l.length * E.size := Nat.mul_le_mul_right _ (by omega)
theorem OwnL.slB (h : OwnL E S w base e v l) (hS : ∀ b, S b → base ≤ b) : ∃ a c, v = .slice a l.length c ∧ Sl E (fun b => base ≤ b) w a c l := by
  obtain ⟨a, c, rfl, h'⟩ := h.sl
  exact ⟨a, c, rfl, h'.weak (fun b hb => hb.elim id (hS b))⟩

/-- append of elements that lie in cells one behind the other -/
theorem OwnL.append_raw {P : Program} (h : OwnL E S w base e v l) {t ty : TypeId} {z : Value} {bytes : Nat} (ht : P.underlying t = some (.slice e))
    (hinfo : (P.info? e).map (fun i => (i.zero, i.size, i.bytes)) = some (some z, E.size, bytes)) (hzs : z.cells.size = E.size)
    {a : Option Addr} {c : Nat} {l2 : List α} (hnone : a = none → l2 = [] ∧ c = 0) (ys : List (List Value)) (hys : ys.length = l2.length) (hyl : ∀ i (h1 : i < ys.length) (h2 : i < l2.length), E.R (Off S v) w ys[i] l2[i])
    (hya : ∀ j u, ys.flatten[j]? = some u → ∃ b off, a = some ⟨b, off, none⟩ ∧ w.cell? ⟨b, off + j, none⟩ = some u)
    (hlen : (l.length + l2.length) * bytes ≤ 140737488355328) (hmax : l.length + l2.length ≤ big) (hbase : base ≤ w.heap.size) :
    ∃ v' w', (Builtin.append_ #[t, t] ty #[v, .slice a l2.length c]).run P w = .ok v' w' ∧ OwnL E S w' base e v' (l ++ l2) ∧ w.grownBy w' v.ownBlock ∧ (v'.ownBlock = v.ownBlock ∨ v'.ownBlock = some w.heap.size) ∧ (l ++ l2 = [] → v = .slice none 0 0 → v' = .slice none 0 0) := by
  obtain ⟨i0, hi, hz0, hz1, hz2⟩ := info_parts hinfo
  obtain ⟨xs, ho, hl, hx⟩ := h
  have hylen : ∀ y ∈ ys, y.length = E.size := by
    intro x hx'
    obtain ⟨i, hi, rfl⟩ := List.getElem_of_mem hx'
    exact E.len (hyl i hi (by omega))
  have hyone : ∀ u ∈ ys.flatten, u.oneCell' = true := by
    intro u hu
    obtain ⟨y, hy, hu'⟩ := List.mem_flatten.1 hu
    obtain ⟨i, hi, rfl⟩ := List.getElem_of_mem hy
    exact E.one (hyl i hi (by omega)) u hu'
  have key : ∃ v' w', (Builtin.append_ #[t, t] ty #[v, .slice a l2.length c]).run P w = .ok v' w' ∧ w'.ownsRow base e E.size v' (l.length + l2.length) (xs.flatten ++ ys.flatten) ∧ w.grownBy w' v.ownBlock ∧
      (v' = .slice none 0 0 ↔ v = .slice none 0 0 ∧ l2.length = 0) ∧ (v'.ownBlock = v.ownBlock ∨ v'.ownBlock = some w.heap.size) := by
    cases a with
    | none =>
      obtain ⟨rfl, rfl⟩ := hnone rfl
      have hys0 : ys = [] := List.length_eq_zero_iff.1 (by simpa using hys)
      subst hys0
      have hr := run_append_owned_none (P := P) w base t ty e i0 E.size ht hi v l.length xs.flatten ho
      exact ⟨v, w, by simpa using hr, by simpa using ho, ⟨rfl, rfl, rfl, Nat.le_refl _, fun _ _ _ => rfl⟩, by simp, .inl rfl⟩
    | some ad =>
      have := run_append_own_at (P := P) w base t ty e i0 z E.size bytes ht hi hz0 hz1 hz2 hzs E.pos v l.length xs.flatten ho ad l2.length c ys.flatten (by rw [flatten_len hylen, hys])
        (fun j u hu => by
          obtain ⟨b, off, ha, hc⟩ := hya j u hu
          cases ha
          have hadd : (⟨b, off, none⟩ : Addr).add j = ⟨b, off + j, none⟩ := by unfold Addr.add; split <;> simp_all
          rw [hadd]; exact hc) hyone hmax hlen hbase
      exact this
  obtain ⟨v', w', hrun, hown, hgrow, hnil, hat⟩ := key
  refine ⟨v', w', hrun, ⟨xs ++ ys, ?_, by simp [hl, hys], ?_⟩, hgrow, hat, fun hnl hv => hnil.2 ⟨hv, by simp at hnl; simp [hnl.2]⟩⟩
  · rw [List.length_append, List.flatten_append]; exact hown
  · intro i h1 h2
    have hA : Agree (Off S v) w w' := fun b hb hlb => hgrow.block b hlb hb.2
    have hS' : ∀ b, b < w.heap.size → Off S v b → Off S v' b := fun b hlb hb => ⟨hb.1, by
      rcases hat with h | h
      · rw [h]; exact hb.2
      · rw [h]; intro e; simp at e; omega⟩
    by_cases hi1 : i < xs.length
    · rw [List.getElem_append_left hi1, List.getElem_append_left (by omega)]
      exact E.mono (hx i hi1 (by omega)) hS' hA
    · rw [List.getElem_append_right (by omega), List.getElem_append_right (by omega)]
      simp only [hl]
      simp at h2
      exact E.mono (hyl (i - l.length) (by omega) (by omega)) hS' hA

theorem OwnL.append_run {P : Program} (h : OwnL E S w base e v l) {t ty : TypeId} {z : Value} {bytes : Nat} (ht : P.underlying t = some (.slice e))
    (hinfo : (P.info? e).map (fun i => (i.zero, i.size, i.bytes)) = some (some z, E.size, bytes)) (hzs : z.cells.size = E.size)
    {S2 : Nat → Prop} {a : Option Addr} {c : Nat} {l2 : List α} (h2 : Sl E S2 w a c l2) (hel : ∀ i (hi : i < l2.length) vs, E.R S2 w vs l2[i] → E.R (Off S v) w vs l2[i])
    (hlen : (l.length + l2.length) * bytes ≤ 140737488355328) (hmax : l.length + l2.length ≤ big) (hbase : base ≤ w.heap.size) :
    ∃ v' w', (Builtin.append_ #[t, t] ty #[v, .slice a l2.length c]).run P w = .ok v' w' ∧ OwnL E S w' base e v' (l ++ l2) ∧ w.grownBy w' v.ownBlock ∧ (v'.ownBlock = v.ownBlock ∨ v'.ownBlock = some w.heap.size) ∧ (l ++ l2 = [] → v = .slice none 0 0 → v' = .slice none 0 0) := by
  obtain ⟨ys, hys, hyl, hya⟩ : ∃ ys : List (List Value), ys.length = l2.length ∧ (∀ i (h1 : i < ys.length) (h2 : i < l2.length), E.R S2 w ys[i] l2[i]) ∧ ∀ j u, ys.flatten[j]? = some u → ∃ b off, a = some ⟨b, off, none⟩ ∧ w.cell? ⟨b, off + j, none⟩ = some u := by
    by_cases hne : l2 = []
    · subst hne; exact ⟨[], rfl, fun i h => by simp at h, fun j u h => by simp at h⟩
    · obtain ⟨b, off, ha, _, _, hc⟩ := h2.dat hne
      have hch : ∀ i : Fin l2.length, ∃ vs, vs.length = E.size ∧ (∀ j (hj : j < vs.length), w.cell? ⟨b, off + i.1 * E.size + j, none⟩ = some vs[j]) ∧ E.R S2 w vs l2[i.1] := fun i => hc i.1 i.2
      refine ⟨List.ofFn (fun i => Classical.choose (hch i)), by simp, fun i h1 h2 => ?_, fun j u hu => ⟨b, off, ha, ?_⟩⟩
      · rw [List.getElem_ofFn]; exact (Classical.choose_spec (hch ⟨i, h2⟩)).2.2
      · have hln : ∀ x ∈ List.ofFn (fun i => Classical.choose (hch i)), x.length = E.size := by
          intro x hx'
          obtain ⟨i, hi, rfl⟩ := List.getElem_of_mem hx'
          rw [List.getElem_ofFn]; exact (Classical.choose_spec (hch _)).1
        have hjl : j < (List.ofFn (fun i => Classical.choose (hch i))).flatten.length := (List.getElem?_eq_some_iff.1 hu).1
        rw [flatten_len hln, List.length_ofFn] at hjl
        have hdiv : j / E.size < l2.length := Nat.div_lt_of_lt_mul (by rw [Nat.mul_comm]; exact hjl)
        have hmod : j % E.size < E.size := Nat.mod_lt _ E.pos
        have hsp := Classical.choose_spec (hch ⟨j / E.size, hdiv⟩)
        have hg := flatten_get hln (j / E.size) (by simpa using hdiv) (j % E.size) (by rw [List.getElem_ofFn, hsp.1]; exact hmod)
        have ej : j / E.size * E.size + j % E.size = j := by rw [Nat.mul_comm]; exact Nat.div_add_mod j E.size
        rw [ej, hu] at hg
        have := hsp.2.1 (j % E.size) (by rw [hsp.1]; exact hmod)
        rw [Nat.add_assoc, ej] at this
        rw [this]
        simp only [List.getElem_ofFn] at hg
        exact hg.symm
  exact h.append_raw ht hinfo hzs h2.nil ys hys (fun i h1 h2 => hel i h2 _ (hyl i h1 h2)) hya hlen hmax hbase

theorem cell_new {w : World} (vs : List Value) (e : TypeId) (j : Nat) (hj : j < vs.length) : (w.alloc (.cells vs.toArray e)).cell? ⟨w.heap.size, j, none⟩ = some vs[j] := by
  rw [World.cell?_alloc_at _ _ _ _ rfl]; simp [hj]
/-- append of one element -/
theorem OwnL.push {P : Program} (h : OwnL E S w base e v l) {t ty : TypeId} {z : Value} {bytes : Nat} (ht : P.underlying t = some (.slice e))
    (hinfo : (P.info? e).map (fun i => (i.zero, i.size, i.bytes)) = some (some z, E.size, bytes)) (hzs : z.cells.size = E.size)
    {vs : List Value} {x : α} (hR : E.R (Off S v) w vs x) (hlen : (l.length + 1) * bytes ≤ 140737488355328) (hmax : l.length + 1 ≤ big) (hbase : base ≤ w.heap.size) :
    ∃ v' w', (Builtin.append_ #[t, t] ty #[v, .slice (some ⟨w.heap.size, 0, none⟩) 1 1]).run P (w.alloc (.cells vs.toArray e)) = .ok v' w' ∧ OwnL E S w' base e v' (l ++ [x]) ∧ w.grownBy w' v.ownBlock ∧ (v'.ownBlock = v.ownBlock ∨ ∃ k, v'.ownBlock = some k ∧ w.heap.size ≤ k) := by
  have h1 := h.call (below1 w (.cells vs.toArray e))
  obtain ⟨v', w', hrun, ho, hg, hat, _⟩ := h1.append_raw (P := P) (t := t) (ty := ty) ht hinfo hzs (a := some ⟨w.heap.size, 0, none⟩) (c := 1) (l2 := [x]) (fun h => by simp at h) [vs] rfl
    (fun i h1 h2 => by simp at h2; subst h2; exact E.mono hR (fun _ _ h => h) (.all (below1 _ _)))
    (fun j u hu => ⟨_, 0, rfl, by
      simp only [List.flatten_cons, List.flatten_nil, List.append_nil] at hu
      obtain ⟨hj, rfl⟩ := List.getElem?_eq_some_iff.1 hu
      rw [Nat.zero_add]; exact cell_new vs e j hj⟩) hlen hmax (by simp; omega)
  refine ⟨v', w', hrun, ho, ⟨hg.os, hg.tape, hg.output, by have := hg.size; simp at this; omega, fun k hk hr => ?_⟩, ?_⟩
  · rw [hg.block k (by simp; omega) hr, Below.heap_alloc _ _ _ hk]
  · rcases hat with h | h
    · exact .inl h
    · exact .inr ⟨_, h, by simp⟩

theorem OwnL.form (h : OwnL E S w base e v l) (hne : l ≠ []) : ∃ g cap, v = .slice (some ⟨g, 0, none⟩) l.length cap ∧ base ≤ g ∧ g < w.heap.size := by
  obtain ⟨xs, ho, _⟩ := h
  rcases ho.2 with ⟨rfl, h0⟩ | ⟨g, cap, cur, rfl, hb, hg, _⟩
  · exact (hne (List.length_eq_zero_iff.1 h0)).elim
  · exact ⟨g, cap, rfl, hb, (Array.getElem?_eq_some_iff.1 hg).1⟩
end

section
variable {S : Nat → Prop} {w : World} {base : Nat} {e : TypeId} {v : Value} {l : List Int}
theorem ints_rows {xs : List (List Value)} {T : Nat → Prop} (hl : xs.length = l.length) (hx : ∀ i (h1 : i < xs.length) (h2 : i < l.length), intE.R T w xs[i] l[i]) : xs = l.map (fun x => [.int .i64 x]) ∧ ∀ x ∈ l, inRange x := by
  constructor
  · apply List.ext_getElem (by simpa using hl)
    intro i h1 h2
    rw [List.getElem_map]
    exact (hx i h1 (by omega)).1
  · intro x hxl
    obtain ⟨i, hi, rfl⟩ := List.getElem_of_mem hxl
    exact (hx i (by omega) hi).2
theorem flatten_single (l : List Int) : (l.map (fun x => [Value.int .i64 x])).flatten = l.map (Value.int .i64) := by
  induction l with
  | nil => rfl
  | cons x r ih => simp [ih]
theorem OwnL.row (h : OwnL intE S w base e v l) : w.ownsRow base e 1 v l.length (l.map (.int .i64)) ∧ ∀ x ∈ l, inRange x := by
  obtain ⟨xs, ho, hl, hx⟩ := h
  obtain ⟨rfl, hr⟩ := ints_rows hl hx
  rw [flatten_single] at ho
  exact ⟨ho, hr⟩
theorem OwnL.of_row (h : w.ownsRow base e 1 v l.length (l.map (.int .i64))) (hr : ∀ x ∈ l, inRange x) : OwnL intE S w base e v l :=
  ⟨l.map (fun x => [.int .i64 x]), by rw [flatten_single]; exact h, by simp, fun i h1 h2 => ⟨by simp, hr _ (List.getElem_mem h2)⟩⟩
theorem OwnL.cellInt {g cap n : Nat} (h : OwnL intE S w base e (.slice (some ⟨g, 0, none⟩) n cap) l) (hn : n = l.length) (i : Nat) (hi : i < l.length) : w.cell? ⟨g, i, none⟩ = some (.int .i64 l[i]) ∧ w.frozen? ⟨g, i, none⟩ = false := by
  subst hn
  obtain ⟨ho, _⟩ := h.row
  exact ⟨by rw [ho.cellAt i (by omega)]; simp [hi], ho.frozenAt i⟩
theorem OwnL.setInt {g cap n : Nat} (h : OwnL intE S w base e (.slice (some ⟨g, 0, none⟩) n cap) l) (hn : n = l.length) (i : Nat) (x : Int) (hx : inRange x) :
    OwnL intE S (w.setCell ⟨g, i, none⟩ (.int .i64 x)) base e (.slice (some ⟨g, 0, none⟩) n cap) (l.set i x) ∧ w.grownBy (w.setCell ⟨g, i, none⟩ (.int .i64 x)) (some g) := by
  subst hn
  obtain ⟨ho, hr⟩ := h.row
  obtain ⟨h1, h2⟩ := ho.stored i (.int .i64 x)
  refine ⟨.of_row (by rw [List.length_set, List.map_set]; exact h1) (fun y hy => ?_), h2⟩
  rcases List.mem_or_eq_of_mem_set hy with h | h
  · exact hr y h
  · rw [h]; exact hx
theorem OwnL.lit (w : World) (l : List Int) (e : TypeId) (hr : ∀ x ∈ l, inRange x) (hl : l.length ≤ maxLen) : OwnL intE S (w.alloc (.cells (l.map (Value.int .i64)).toArray e)) w.heap.size e (.slice (some ⟨w.heap.size, 0, none⟩) l.length l.length) l :=
  .of_row (by have := World.ownsRow_lit (e := e) (size := 1) w (l.map (Value.int .i64)).toArray l.length (Nat.le_refl _) hl (by simp); simpa using this) hr
end

/-- append, at the operation, by an equation on its run -/
theorem wpList_append_run {P : Program} {w : World} {ops : Array Oper} {rest : List Oper} {o : Oper} {a : Act} {Q : Exit → Act → World → Prop} (hgd : o.guard = none) (s x : Operand) (t : TypeId)
    (ho : o.op = .call { callee := .builtin .append, args := #[s, x], argTypes := #[t, t] }) {vs vx : Value} (hs : a.eval s = vs) (hx : a.eval x = vx) {v' : Value} {w' : World}
    (hr : (Builtin.append_ #[t, t] o.type #[vs, vx]).run P w = .ok v' w') (h : wpList P ops Q rest (a.put o.dst v') w') : wpList P ops Q (o :: rest) a w := by
  refine wpList_plain hgd fun K hK => ?_
  unfold Oper.wp execOp
  simp only [ho, resolve, invoke, builtin, Sem.run_bind, Sem.run_pure, Result.andThen_ok, List.map_toArray, List.map_cons, List.map_nil, hs, hx, hr]
  exact hK _ _ h
end Go.Proofs.YtgkddhakhapjlaaGreatDoor

/- Walks: copies, canonical forms, variables. -/
namespace Go.Proofs.YtgkddhakhapjlaaGreatDoor
open Go Go.RowKit Go.Maps

abbrev OwnI (w : World) (base : Nat) (v : Value) (l : List Int) : Prop := OwnL intE (fun _ => False) w base 3 v l
def lim : Nat := 1000000
def retOwn (w : World) (l : List Int) (e : Ending) (w' : World) : Prop := ∃ v, e = .returned v ∧ OwnI w' w.heap.size v l ∧ Below w.heap.size w w'
theorem infoInt : (Tryz.prog.info? 3).map (fun i => (i.zero, i.size, i.bytes)) = some (some (.int .i64 0), 1, 8) := by kernel_rfl
theorem OwnI.ints {w : World} {base : Nat} {v : Value} {l : List Int} (h : OwnI w base v l) : ∃ a c, v = .slice a l.length c ∧ Ints (fun b => base ≤ b) w a c l := h.slB (fun _ h => h.elim)

set_option maxHeartbeats 400000 in
theorem Clone_any {S : Nat → Prop} (a : Option Addr) (c : Nat) (l : List Int) (w : World) (h : Ints S w a c l) (hl : l.length ≤ lim) :
    Calls Tryz.prog 122 #[.slice a l.length c] w (retOwn w l) := by
  cases a with
  | none =>
    obtain ⟨rfl, rfl⟩ := h.nil rfl
    have hnl := fun W => Lib.run_eql_slice_nil (P := Tryz.prog) W 34 3 none 0 0 0 0 Tryz.underlying34
    go_enter Tryz.func122, Tryz.ntmps122
    go_wp2_with fail
    go_ret
    exact ⟨_, rfl, .nil _ _ _ _ _, .refl _ _⟩
  | some a =>
    have hnl := fun W => Lib.run_eql_slice_nil (P := Tryz.prog) W 34 3 (some a) l.length c 0 0 Tryz.underlying34
    obtain ⟨v', w', hrun, ho, hg, -, -⟩ := (OwnL.made intE (fun _ => False) w w.heap.size 3 (Nat.le_refl _)).append_run (P := Tryz.prog) (t := 34) (ty := 34) Tryz.underlying34 infoInt rfl (h.below (below1 w (.cells #[] 3))) (fun _ _ _ h => h) (by unfold lim at hl; simp; omega) (by unfold lim at hl; unfold big; simp; omega) (by simp)
    have hB : Below w.heap.size w w' := (below1 w (.cells #[] 3)).grown hg (by simp) (fun k e => by simp [Value.ownBlock] at e; omega)
    rw [List.nil_append] at ho
    clear hg
    have hrunH := Lib.hid hrun
    clear hrun
    go_enter Tryz.func122, Tryz.ntmps122
    go_wp2_with (at_builtin; refine wpList_append_run rfl _ _ _ rfl rfl rfl hrunH.out ?_)
    go_ret
    exact ⟨_, rfl, ho, hB⟩

theorem canonW_range {t : List Int} {x : Int} (hx : inRange x) (hl : t.length ≤ lim) : inRange (canonW (varsC t) x) := by
  have := varsC_length t
  unfold lim at hl
  unfold inRange at *
  rcases canonW_bound (v := varsC t) (n := x) with h | h <;> omega

def canRel (t : List Int) (w : World) (g cap : Nat) (i : Value) (wr : World) : Prop :=
  ∃ k : Nat, i = .int .i64 k ∧ k ≤ t.length ∧ IMap Tryz.prog 3 3 wr w.heap.size (varsC (t.take k)).length (nameF t k) ∧
    OwnI wr (w.heap.size + 1) (.slice (some ⟨g, 0, none⟩) t.length cap) (doneTo (canonW (varsC t)) t k) ∧ Below w.heap.size w wr

set_option maxHeartbeats 1000000 in
theorem canonical_any {S : Nat → Prop} (a : Option Addr) (c : Nat) (t : List Int) (w : World) (h : Ints S w a c t) (hl : t.length ≤ lim) (hne : t ≠ []) :
    Calls Tryz.prog 69 #[.slice a t.length c] w (retOwn w (canon t)) := by
  have m := h.le
  have hmm := @run_makeMap Tryz.prog
  go_enter Tryz.func69, Tryz.ntmps69
  go_wp2_with fail
  refine (Clone_any a c t _ (h.below (below1 w _)) hl).mono ?_
  rintro e w1 ⟨v, rfl, ho, hB⟩
  obtain ⟨g, cap, rfl, hg1, hg2⟩ := ho.form hne
  have hm1 : IMap Tryz.prog 3 3 w1 w.heap.size 0 (fun _ => none) := (IMap.made w).below hB (by simp)
  have hB1 : Below w.heap.size w w1 := (below1 w _).trans (hB.mono (by simp))
  rw [World.size_alloc] at ho hg1
  clear hB
  go_wp2_with fail
  go_loopw [14] (fun i wr => canRel t w g cap i wr) (fun i _ => t.length - (intOf i).toNat)
  case atStart => exact ⟨0, rfl, Nat.zero_le _, by rw [nameF_zero]; exact hm1, by rw [doneTo_zero]; exact ho, hB1⟩
  case round =>
    obtain ⟨k, rfl, hk, hm, ho, hB⟩ := hrel
    by_cases hlt : k < t.length
    · obtain ⟨b, o, rfl, -, q, hrg⟩ := h.int k hlt
      have hb : b < w.heap.size := World.block_lt_of_cell? w _ q
      have p1 := (hB.cell (p := ⟨b, o + k, none⟩) hb).trans q
      clear q
      obtain ⟨x, hx⟩ : ∃ x, t[k] = x := ⟨_, rfl⟩
      rw [hx] at p1 hrg
      have hxH := Lib.hid hx
      clear hx
      have hgb : w.heap.size ≠ g := by omega
      by_cases h0 : 0 ≤ x
      · obtain ⟨hf1, hf2⟩ := nameF_old hlt (.inl (by rw [hxH.out]; exact h0))
        have hd := doneTo_same hlt (f := canonW (varsC t)) (by rw [hxH.out]; exact canonW_pos h0)
        have hmH := Lib.hid hm
        have hoH := Lib.hid ho
        have hfH := Lib.hid hf1
        have hf2H := Lib.hid hf2
        have hdH := Lib.hid hd
        clear hm ho hf1 hf2 hd h
        go_wp2_with fail
        go_roundw
        case rel => exact ⟨k + 1, by go_num, by omega, by rw [hfH.out, hf2H.out]; exact hmH.out, by rw [← hdH.out]; exact hoH.out, hB⟩
        case measure => simp [intOf]; omega
      · have hneg : x < 0 := by omega
        obtain ⟨hc1, hfr1⟩ := ho.cellInt (by rw [doneTo_length]) k (by rw [doneTo_length]; exact hlt)
        have hlook := hm.look_ok (tm := 141) Tryz.underlying141 Tryz.underlying3 Tryz.underlying3 (zInt wr) x hrg
        have hcr := canonW_range (t := t) hrg hl
        by_cases hv : x ∈ varsC (t.take k)
        · have hval := nameF_canonW hv
          have hlook2 := hm.look (tm := 141) Tryz.underlying141 Tryz.underlying3 Tryz.underlying3 (zInt wr) x hrg
          rw [hval] at hlook hlook2
          simp only [Option.getD_some, Option.isSome_some] at hlook hlook2
          obtain ⟨hf1, hf2⟩ := nameF_old hlt (.inr (by rw [hxH.out]; exact hv))
          obtain ⟨y, hy⟩ : ∃ y, canonW (varsC t) x = y := ⟨_, rfl⟩
          rw [hy] at hlook hlook2 hcr
          obtain ⟨ho2, hg3⟩ := ho.setInt (by rw [doneTo_length]) k y hcr
          have hdd := doneTo_set hlt (f := canonW (varsC t))
          rw [hxH.out, hy] at hdd
          rw [hdd] at ho2
          have hmH := Lib.hid (hm.same (hg3.block _ hm.lt (by simpa using hgb)))
          have hoH := Lib.hid ho2
          have hfH := Lib.hid hf1
          have hf2H := Lib.hid hf2
          have hBH := Lib.hid (hB.grown hg3 hB.size (fun j e => by cases e; omega))
          clear hm ho hf1 hf2 h ho2 hdd hy hval hv hg3
          go_wp2_with fail
          go_roundw
          case rel => exact ⟨k + 1, by go_num, by omega, by rw [hfH.out, hf2H.out]; exact hmH.out, hoH.out, hBH.out⟩
          case measure => simp [intOf]; omega
        · obtain ⟨hf1, hf2⟩ := nameF_new hlt (by rw [hxH.out]; exact hneg) (by rw [hxH.out]; exact hv)
          rw [hxH.out] at hf1
          have hnone : nameF t k x = none := by unfold nameF; rw [if_neg hv]
          have hxin : x ∈ varsC (t.take (k + 1)) := by rw [varsC_take_succ hlt, hxH.out, addV, if_pos ⟨hneg, hv⟩]; simp
          have hval := nameF_canonW hxin
          obtain ⟨y, hy⟩ : ∃ y, canonW (varsC t) x = y := ⟨_, rfl⟩
          obtain ⟨n, hn⟩ : ∃ n, (varsC (t.take k)).length = n := ⟨_, rfl⟩
          have hn1 : n ≤ t.length := by have := varsC_length (t.take k); simp at this; omega
          rw [hy] at hval hcr
          rw [hn] at hf1 hf2 hm
          have hyn : y = -(n : Int) - 1 := by
            have h1 := hval
            rw [hf1] at h1
            simp at h1; omega
          rw [hnone] at hlook
          simp only [Option.getD_none, Option.isSome_none] at hlook
          have hlen := hm.len (tm := 141) Tryz.underlying141 3
          obtain ⟨w2, hst, hm2, hg2⟩ := hm.store (tm := 141) Tryz.underlying141 Tryz.underlying3 Tryz.underlying3 (by unfold lim at hl; unfold maxLen; omega) x hrg y hcr hnone
          rw [hyn] at hst
          have hfe : (fun z => if z = x then some y else nameF t k z) = nameF t (k + 1) := by rw [hf1, hyn]
          rw [hfe] at hm2
          have hlook2 := hm2.look (tm := 141) Tryz.underlying141 Tryz.underlying3 Tryz.underlying3 (zInt w2) x hrg
          rw [hval] at hlook2
          simp only [Option.getD_some] at hlook2
          rw [hyn] at hlook2
          have hgb2 : ∀ q, (Value.slice (some ⟨g, 0, none⟩) t.length cap).ownBlock = some q → (some w.heap.size : Option Nat) ≠ some q := by
            intro q hq e
            simp [Value.ownBlock] at hq e; omega
          have ho2 := OwnL.grown ho hg2 hgb2 (fun b hb _ => hb.elim)
          have hB2 := hB.grown hg2 hB.size (fun j e => by cases e; exact Nat.le_refl _)
          obtain ⟨hc2, hfr2⟩ := ho2.cellInt (by rw [doneTo_length]) k (by rw [doneTo_length]; exact hlt)
          obtain ⟨ho3, hg3⟩ := ho2.setInt (by rw [doneTo_length]) k y hcr
          have hdd := doneTo_set hlt (f := canonW (varsC t))
          rw [hxH.out, hy] at hdd
          rw [hdd, hyn] at ho3
          rw [hyn] at hg3
          have hmH := Lib.hid (hm2.same (hg3.block _ hm2.lt (by simpa using hgb)))
          have hoH := Lib.hid ho3
          have hf2H := Lib.hid hf2
          have hBH := Lib.hid (hB2.grown hg3 hB2.size (fun j e => by cases e; omega))
          clear hm ho hf1 hf2 h ho3 hdd hy hval hv hg3 hm2 ho2 hB2 hfe hnone hxin hyn hgb2 hg2 hn
          go_wp2_with fail
          go_roundw
          case rel => exact ⟨k + 1, by go_num, by omega, by rw [hf2H.out]; exact hmH.out, hoH.out, hBH.out⟩
          case measure => simp [intOf]; omega
    · go_wp2_with fail
      go_ret
      refine ⟨_, rfl, ?_, hB⟩
      rw [doneTo_all _ _ _ (by omega)] at ho
      unfold canon
      have := ho.baseMono (base' := w.heap.size) (by omega)
      exact this
end Go.Proofs.YtgkddhakhapjlaaGreatDoor

/- Walks: the reference's variables and renaming. -/
namespace Go.Proofs.YtgkddhakhapjlaaGreatDoor
open Go Go.RowKit Go.Maps

def varRel (t : List Int) (w : World) (out i : Value) (wr : World) : Prop :=
  ∃ k : Nat, i = .int .i64 k ∧ k ≤ t.length ∧ OwnI wr w.heap.size out ((varsC (t.take k)).map vnum) ∧ Below w.heap.size w wr

set_option maxHeartbeats 1000000 in
theorem Variables_any {S : Nat → Prop} (a : Option Addr) (c : Nat) (t : List Int) (w : World) (h : Ints S w a c t) (hl : t.length ≤ lim) (ht : tame t) :
    Calls Tryz.prog 142 #[.slice a t.length c] w (retOwn w (varsV t)) := by
  have m := h.le
  go_enter Tryz.func142, Tryz.ntmps142
  go_wp2_with fail
  go_loopw [3, 4] (fun out i wr => varRel t w out i wr) (fun _ i _ => t.length - (intOf i).toNat)
  case atStart => exact ⟨0, rfl, Nat.zero_le _, .nil _ _ _ _ _, .refl _ _⟩
  case round =>
    obtain ⟨k, rfl, hk, ho, hB⟩ := hrel
    obtain ⟨L, hL⟩ : ∃ L, (varsC (t.take k)).map vnum = L := ⟨_, rfl⟩
    rw [hL] at ho
    obtain ⟨a2, c2, rfl, hI⟩ := ho.ints
    by_cases hlt : k < t.length
    · obtain ⟨b, o, rfl, -, q, hrg⟩ := h.int k hlt
      have hb : b < w.heap.size := World.block_lt_of_cell? w _ q
      have p1 := (hB.cell (p := ⟨b, o + k, none⟩) hb).trans q
      have htk := ht t[k] (List.getElem_mem hlt)
      have hsucc := varsC_take_succ hlt
      have hmm := mem_map_vnum (l := varsC (t.take k)) (x := t[k])
      clear q ht h
      obtain ⟨x, hx⟩ : ∃ x, t[k] = x := ⟨_, rfl⟩
      rw [hx] at p1 hrg hsucc htk hmm
      clear hx
      have hLn : L.length ≤ t.length := by rw [← hL, List.length_map]; have := varsC_length (t.take k); simp at this; omega
      rw [hL] at hmm
      by_cases h0 : 0 ≤ x
      · have hs : (varsC (t.take (k + 1))).map vnum = L := by rw [hsucc, addV, if_neg (by omega), hL]
        have hsH := Lib.hid hs
        have hoH := Lib.hid ho
        clear hs ho hsucc hmm hL hI
        go_wp2_with fail
        go_roundw
        case rel => exact ⟨k + 1, by go_num, by omega, by rw [hsH.out]; exact hoH.out, hB⟩
        case measure => simp [intOf]; omega
      · have hneg : x < 0 := by omega
        have hcH := fun W (hI' : Ints (fun b => w.heap.size ≤ b) W a2 c2 L) => Has_any a2 c2 L (vnum x) W hI'
        by_cases hv : x ∈ varsC (t.take k)
        · have hs : (varsC (t.take (k + 1))).map vnum = L := by rw [hsucc, addV, if_neg (fun e => e.2 hv), hL]
          have hcall := hcH wr hI
          rw [decide_eq_true (hmm.2 hv)] at hcall
          unfold vnum at hcall
          have hsH := Lib.hid hs
          have hoH := Lib.hid ho
          have hcallH := Lib.hid hcall
          clear hs ho hsucc hmm hL hI hcH hv hcall
          go_wp2_with (go_at_call 185; refine hcallH.out.mono ?_; rintro e w1 ⟨rfl, rfl⟩)
          go_roundw
          case rel => exact ⟨k + 1, by go_num, by omega, by rw [hsH.out]; exact hoH.out, hB⟩
          case measure => simp [intOf]; omega
        · have hs : (varsC (t.take (k + 1))).map vnum = L ++ [vnum x] := by rw [hsucc, addV, if_pos ⟨hneg, hv⟩, List.map_append, hL]; rfl
          have hcall := hcH wr hI
          rw [decide_eq_false (fun e => hv (hmm.1 e))] at hcall
          obtain ⟨v', w', hrun, ho', hg, hat⟩ := ho.push (P := Tryz.prog) (t := 33) (ty := 33) Tryz.underlying33 infoInt rfl (vs := [.int .i64 (vnum x)]) (x := vnum x) ⟨rfl, by unfold vnum inRange; omega⟩ (by unfold lim at hl; omega) (by unfold lim at hl; unfold big; omega) hB.size
          have hB' := hB.grown hg hB.size (fun j e => (ho.lt j e).1)
          unfold vnum at hcall hrun
          have hsH := Lib.hid hs
          have hoH := Lib.hid ho'
          have hcallH := Lib.hid hcall
          have hrunH := Lib.hid hrun
          have hBH := Lib.hid hB'
          clear hs ho hsucc hmm hL hI hcH hv hcall hrun ho' hB' hg hat
          go_wp2_with (first | (go_at_call 185; refine hcallH.out.mono ?_; rintro e w1 ⟨rfl, rfl⟩) | (at_builtin; refine wpList_append_run rfl _ _ _ rfl rfl rfl hrunH.out ?_))
          go_roundw
          case rel => exact ⟨k + 1, by go_num, by omega, by rw [hsH.out]; exact hoH.out, hBH.out⟩
          case measure => simp [intOf]; omega
    · have hLe : L = varsV t := by rw [← hL, varsV, List.take_of_length_le (by omega)]
      have hLH := Lib.hid hLe
      clear hLe hL h ht
      go_wp2_with fail
      go_ret
      exact ⟨_, rfl, by rw [← hLH.out]; exact ho, hB⟩

theorem OwnL.drewN {α : Type} {E : Enc α} {S : Nat → Prop} {w : World} {base : Nat} {e : TypeId} {v : Value} {l : List α} (h : OwnL E S w base e v l) (n : Nat) : OwnL E S (w.drewN n) base e v l := h.kept (fun _ _ => rfl) (fun _ _ _ => rfl)
theorem drewN_setCell (w : World) (n : Nat) (a : Addr) (u : Value) : (w.drewN n).setCell a u = (w.setCell a u).drewN n := rfl
def renRel (t : List Int) (w : World) (B g cap : Nat) (i : Value) (wr : World) : Prop :=
  ∃ k : Nat, i = .int .i64 k ∧ k ≤ t.length ∧ OwnI wr B (.slice (some ⟨g, 0, none⟩) t.length cap) (doneTo (canonW (varsC t)) t k) ∧ Below B w wr
def renRel2 (t : List Int) (w : World) (B g cap k : Nat) (x : Int) (j : Value) (wr : World) : Prop :=
  ∃ i : Nat, j = .int .i64 i ∧ i ≤ (varsC t).length ∧ OwnI wr B (.slice (some ⟨g, 0, none⟩) t.length cap) ((doneTo (canonW (varsC t)) t k).set k (midW t i x)) ∧ Below B w wr

set_option maxHeartbeats 1000000 in
theorem Renamed_any {S : Nat → Prop} (a : Option Addr) (c : Nat) (t : List Int) (w : World) (h : Ints S w a c t) (hl : t.length ≤ lim) (ht : tame t) (hne : t ≠ []) :
    Calls Tryz.prog 104 #[.slice a t.length c] w (retOwn w (canon t)) := by
  have m := h.le
  have hvn := varsC_length t
  obtain ⟨V, hVe, hvl, hVc⟩ : ∃ V, varsV t = V ∧ V.length = (varsC t).length ∧ ∀ j (hj : j < V.length), ∃ y, V[j] = vnum y ∧ (varsC t)[j]? = some y ∧ -1000000 ≤ y ∧ y < 0 :=
    ⟨_, rfl, by simp [varsV], fun j hj => by
      have hj' : j < (varsC t).length := by simpa [varsV] using hj
      have := mem_varsC.1 (List.getElem_mem hj')
      exact ⟨_, varsV_get hj, by simp [hj'], (ht _ this.1).1, this.2⟩⟩
  have cv := Variables_any a c t _ h hl ht
  rw [hVe] at cv
  have cvH := Lib.hid cv
  clear cv hVe
  go_enter Tryz.func104, Tryz.ntmps104
  go_wp2_with fail
  refine cvH.out.mono ?_
  rintro e w1 ⟨v, rfl, hov, hB1⟩
  obtain ⟨a2, c2, rfl, hV⟩ := hov.ints
  obtain ⟨v', w2, hrun, ho, hg, -, -⟩ := (OwnL.made intE (fun _ => False) w1 w1.heap.size 3 (Nat.le_refl _)).append_run (P := Tryz.prog) (t := 34) (ty := 34) Tryz.underlying34 infoInt rfl ((h.below hB1).below (below1 w1 (.cells #[] 3))) (fun _ _ _ h => h) (by unfold lim at hl; simp; omega) (by unfold lim at hl; unfold big; simp; omega) (by simp)
  have hB : Below w1.heap.size w1 w2 := (below1 w1 (.cells #[] 3)).grown hg (by simp) (fun k e => by simp [Value.ownBlock] at e; omega)
  rw [List.nil_append] at ho
  obtain ⟨g, cap, rfl, hg1, hg2⟩ := ho.form hne
  have hrunH := Lib.hid hrun
  have hvlH := Lib.hid hvl
  have hvm : V.length ≤ t.length := by omega
  clear hrun hg hvl
  go_wp2_with (at_builtin; refine wpList_append_run rfl _ _ _ rfl rfl rfl hrunH.out ?_)
  go_loopw [5, 6] (fun i _ wr => renRel t w1 w1.heap.size g cap i wr) (fun i _ _ => t.length - (intOf i).toNat)
  case atStart => exact ⟨0, rfl, Nat.zero_le _, by rw [doneTo_zero]; exact ho, hB⟩
  case round =>
    obtain ⟨k, rfl, hk, ho, hB⟩ := hrel
    by_cases hlt : k < t.length
    · obtain ⟨b, o, rfl, -, q, hrg⟩ := h.int k hlt
      have hb : b < w.heap.size := World.block_lt_of_cell? w _ q
      have hb1 : b < w1.heap.size := Nat.lt_of_lt_of_le hb hB1.size
      have q1 := (hB1.cell (p := ⟨b, o + k, none⟩) hb).trans q
      have hdone := doneTo_set hlt (f := canonW (varsC t))
      have hdsame := doneTo_set_same hlt (f := canonW (varsC t))
      have hxm := List.getElem_mem hlt
      obtain ⟨x, hx⟩ : ∃ x, t[k] = x := ⟨_, rfl⟩
      rw [hx] at q1 hrg hdone hdsame hxm
      have hrx := canonW_range (t := t) hrg hl
      have hdoneH := Lib.hid hdone
      have hdsameH := Lib.hid hdsame
      clear hx q hdone hdsame
      go_wp2_with fail
      go_loopw [6] (fun j wr => renRel2 t w1 w1.heap.size g cap k x j wr) (fun j _ => V.length - (intOf j).toNat)
      case atStart => exact ⟨0, rfl, Nat.zero_le _, by rw [midW_zero, hdsameH.out]; exact ho, hB⟩
      case round =>
        obtain ⟨j, rfl, hj, ho, hB⟩ := hrel
        rw [← hvlH.out] at hj
        by_cases hjV : j < V.length
        · obtain ⟨y, hy1, hy2, hy3, hy4⟩ := hVc j hjV
          obtain ⟨b2, o2, rfl, -, r, -⟩ := hV.int j hjV
          have hb2 : b2 < w1.heap.size := World.block_lt_of_cell? w1 _ r
          have r1 := (hB.cell (p := ⟨b2, o2 + j, none⟩) hb2).trans r
          have p1 := (hB.cell (p := ⟨b, o + k, none⟩) hb1).trans q1
          rw [hy1] at r1
          have hjc : j < (varsC t).length := by rw [← hvlH.out]; exact hjV
          have hyc : (varsC t)[j] = y := by rw [List.getElem?_eq_getElem hjc] at hy2; exact Option.some.inj hy2
          obtain ⟨z, hz⟩ : ∃ z, vnum y = z := ⟨_, rfl⟩
          have hzy : y = -z - 1 := by unfold vnum at hz; omega
          have hz0 : 0 ≤ z ∧ z ≤ 1000000 := by unfold vnum at hz; omega
          rw [hz] at r1
          clear r hy1 hy2 hz
          have hw1 : IntKind.i64.wrap (-z) = -z := IntWalk.i64_in _ (by omega)
          have hw2 : IntKind.i64.wrap (-z - 1) = -z - 1 := IntWalk.i64_in _ (by omega)
          by_cases hxy : x = y
          · have hmid := midW_hit hjc
            rw [hyc, ← hxy] at hmid
            have hb : (x == -z - 1) = true := by simp; omega
            have hcell := ho.cellInt (by simp [doneTo_length]) k (by simp [doneTo_length]; exact hlt)
            obtain ⟨ho2, hg3⟩ := ho.setInt (by simp [doneTo_length]) k (-(j : Int) - 1) (by unfold lim at hl; unfold inRange; omega)
            have ho2' : OwnI (wr.setCell ⟨g, k, none⟩ (.int .i64 (-(j : Int) - 1))) w1.heap.size (.slice (some ⟨g, 0, none⟩) t.length cap) ((doneTo (canonW (varsC t)) t k).set k (midW t (j + 1) x)) := by
              rw [hmid]; rw [List.set_set] at ho2; exact ho2
            have hBg := hB.grown hg3 hB.size (fun q e => by cases e; omega)
            obtain ⟨old, hold⟩ : ∃ old, ((doneTo (canonW (varsC t)) t k).set k (midW t j x))[k]'(by simp [doneTo_length]; exact hlt) = old := ⟨_, rfl⟩
            rw [hold] at hcell
            obtain ⟨hc1, hf1⟩ := hcell
            have ho2H := Lib.hid ho2'
            clear ho hxy hzy hmid hold ho2 ho2' hg3 h hV hyc
            go_wp2_with fail
            go_quiet (fail)
            all_goals go_wp2_with fail
            exact ⟨⟨j + 1, by go_num, by rw [← hvlH.out]; omega, by rw [drewN_setCell]; exact ho2H.out.drewN _, by rw [drewN_setCell]; exact below_drewN hBg _⟩, by simp [intOf]; omega⟩
          · have hmid := midW_miss (x := x) hjc (by rw [hyc]; exact hxy)
            have hb : (x == -z - 1) = false := by simp; omega
            rw [← hmid] at ho
            have hoH := Lib.hid ho
            clear ho hxy hzy hmid h hV hyc
            go_wp2_with fail
            go_quiet (fail)
            all_goals go_wp2_with fail
            exact ⟨⟨j + 1, by go_num, by rw [← hvlH.out]; omega, hoH.out.drewN _, below_drewN hB _⟩, by simp [intOf]; omega⟩
        · rw [midW_all (by rw [← hvlH.out]; omega) hxm, hdoneH.out] at ho
          have hoH := Lib.hid ho
          clear ho h hV
          go_wp2_with fail
          go_roundw
          case rel => exact ⟨k + 1, by go_num, by omega, hoH.out, hB⟩
          case measure => simp [intOf]; omega
    · rw [doneTo_all _ _ _ (by omega)] at ho
      have := ho.baseMono (base' := w.heap.size) hB1.size
      have hoH := Lib.hid this
      clear ho h hV this
      go_wp2_with fail
      go_ret
      exact ⟨_, rfl, hoH.out, hB1.trans (hB.mono hB1.size)⟩
end Go.Proofs.YtgkddhakhapjlaaGreatDoor

/- Slices that were just built out of literals. No program is named. -/
namespace Go.Proofs.YtgkddhakhapjlaaGreatDoor
open Go Go.RowKit
theorem Sl.new {α : Type} {E : Enc α} {S : Nat → Prop} (w : World) (vss : List (List Value)) (l : List α) (e : TypeId) (hlen : vss.length = l.length) (hmax : l.length ≤ big) (hR : ∀ i (h1 : i < vss.length) (h2 : i < l.length), E.R S w vss[i] l[i]) :
    Sl E (fun b => S b ∨ b = w.heap.size) (w.alloc (.cells vss.flatten.toArray e)) (some ⟨w.heap.size, 0, none⟩) l.length l := by
  have hln : ∀ x ∈ vss, x.length = E.size := by
    intro x hx'
    obtain ⟨i, hi, rfl⟩ := List.getElem_of_mem hx'
    exact E.len (hR i hi (by omega))
  refine ⟨Nat.le_refl _, hmax, fun h => by simp at h, fun _ => ⟨w.heap.size, 0, rfl, .inr rfl, by simp, fun i hi => ?_⟩⟩
  have hi' : i < vss.length := by omega
  refine ⟨vss[i], hln _ (List.getElem_mem hi'), fun j hj => ?_, E.mono (hR i hi' hi) (fun _ _ h => .inl h) (.all (below1 _ _))⟩
  have hg := flatten_get hln i hi' j hj
  obtain ⟨hlt, hg⟩ := List.getElem?_eq_some_iff.1 hg
  rw [Nat.zero_add]
  rw [cell_new vss.flatten e _ hlt, hg]
theorem Ints.new (w : World) (l : List Int) (e : TypeId) (hmax : l.length ≤ big) (hr : ∀ x ∈ l, inRange x) :
    Ints (fun b => b = w.heap.size) (w.alloc (.cells (l.map (Value.int .i64)).toArray e)) (some ⟨w.heap.size, 0, none⟩) l.length l := by
  have := Sl.new (E := intE) (S := fun _ => False) w (l.map (fun x => [.int .i64 x])) l e (by simp) hmax (fun i h1 h2 => ⟨by simp, hr _ (List.getElem_mem h2)⟩)
  rw [flatten_single] at this
  exact this.weak (fun b h => h.resolve_left (fun h => h))
end Go.Proofs.YtgkddhakhapjlaaGreatDoor

/- Walks: Alike, Canonical, Depth; what the laws begin with. -/
namespace Go.Proofs.YtgkddhakhapjlaaGreatDoor
open Go Go.RowKit Go.Maps

def alikeT (s : Sg) (a b : List Int) : Bool := okT s a && okT s b && decide (canon a = canon b)
theorem canon_length (t : List Int) : (canon t).length = t.length := by simp [canon]
theorem okT_lim {s : Sg} {t : List Int} (h : okT s t = true) : t.length ≤ lim := by
  obtain ⟨_, _, h, _⟩ := okT_parts h; unfold lim; omega

set_option maxHeartbeats 1000000 in
theorem Canonical_any {S1 S2 : Nat → Prop} (a1 a2 : Option Addr) (c1 c2 : Nat) (s : Sg) (t : List Int) (w : World) (h1 : Sign S1 w a1 c1 s) (h2 : Ints S2 w a2 c2 t) :
    Calls Tryz.prog 27 #[.slice a1 s.length c1, .slice a2 t.length c2] w fun e w' =>
      ∃ v n, e = .returned (.tuple #[v, .int .i64 n]) ∧ Below w.heap.size w w' ∧ (okT s t = false → v = .slice none 0 0 ∧ n = 1) ∧ (okT s t = true → n = 0 ∧ OwnI w' w.heap.size v (canon t)) := by
  have m2 := h2.le
  have v1 := Valid_any a1 a2 c1 c2 s t w h1 h2
  obtain ⟨x, hx⟩ : ∃ x, okT s t = x := ⟨_, rfl⟩
  rw [hx] at v1
  have v1H := Lib.hid v1
  clear v1
  cases x with
  | false =>
    have hxH := Lib.hid hx
    clear hx
    go_enter Tryz.func27, Tryz.ntmps27
    go_wp2_with (go_at_call 60; refine v1H.out.mono ?_; rintro e w1 ⟨rfl, hb1⟩)
    go_ret2
    exact ⟨_, _, rfl, hb1, fun _ => ⟨rfl, rfl⟩, fun h => by rw [hxH.out] at h; cases h⟩
  | true =>
    have hl1 := okT_lim hx
    have hn1 := okT_ne hx
    have c1 := fun W (hb : Below w.heap.size w W) => canonical_any a2 c2 t W (h2.below hb) hl1 hn1
    have c1H := Lib.hid c1
    have hxH := Lib.hid hx
    clear hx c1
    go_enter Tryz.func27, Tryz.ntmps27
    go_wp2_with (first | (go_at_call 60; refine v1H.out.mono ?_; rintro e w1 ⟨rfl, hb1⟩) | (go_at_call 69; refine (c1H.out w1 hb1).mono ?_; rintro e w2 ⟨v, rfl, ho, hb2⟩))
    go_ret2
    exact ⟨_, _, rfl, hb1.trans (hb2.mono hb1.size), (fun h => by rw [hxH.out] at h; cases h), fun _ => ⟨rfl, ho.baseMono hb1.size⟩⟩

def smallT (s : Sg) (l : List (List Int)) : Bool := l.all (fun t => decide (t.length ≤ 200)) && decide (s.length ≤ 40)
set_option maxHeartbeats 1000000 in
theorem Small_any {S1 S2 : Nat → Prop} (a1 a2 : Option Addr) (c1 c2 : Nat) (s : Sg) (l : List (List Int)) (w : World) (h1 : Sign S1 w a1 c1 s) (h2 : Terms S2 w a2 c2 l) :
    Calls Tryz.prog 22 #[.slice a1 s.length c1, .slice a2 l.length c2] w fun e w' => e = .returned (.bool (smallT s l)) ∧ w = w' := by
  have m1 := h1.le
  have m2 := h2.le
  clear h1
  go_enter Tryz.func22, Tryz.ntmps22
  go_wp2_with fail
  go_loop [5] (fun i => ∃ k : Nat, k ≤ l.length ∧ i = .int .i64 k ∧ (l.take k).all (fun t => decide (t.length ≤ 200)) = true) (fun i => l.length - (intOf i).toNat)
  case atStart => exact ⟨0, by omega, rfl, by simp⟩
  case round =>
    obtain ⟨k, hk, rfl, hn⟩ := hrel
    have hnH := Lib.hid hn
    clear hn
    by_cases hlt : k < l.length
    · obtain ⟨b, o, a', c', rfl, -, q, hsub⟩ := h2.sub k hlt
      have msub := hsub.le
      clear h2 hsub
      by_cases h200 : l[k].length ≤ 200
      · go_wp2_with fail
        go_round
        case rel => exact ⟨k + 1, by omega, by go_num, by rw [List.take_succ_eq_append_getElem hlt, List.all_append, hnH.out]; simp; omega⟩
        case measure => simp [intOf]; omega
      · have hf : smallT s l = false := by
          have : l.all (fun t => decide (t.length ≤ 200)) = false := by rw [List.all_eq_false]; exact ⟨l[k], List.getElem_mem hlt, by simpa using h200⟩
          unfold smallT; rw [this]; rfl
        have hfH := Lib.hid hf
        clear hf
        go_wp2_with fail
        go_ret
        exact ⟨ret_bool hfH.out.symm, rfl⟩
    · go_wp2_with fail
      go_ret
      refine ⟨ret_bool ?_, rfl⟩
      have := hnH.out
      rw [List.take_of_length_le (by omega)] at this
      unfold smallT
      rw [this, Bool.true_and, Bool.eq_iff_iff]; simp; omega

def awS : Sg := [(⟨#[67]⟩, 2), (⟨#[78]⟩, 1)]
def awT : List Int := [0, -1, 0, -2, -1]
def awU : List Int := [0, -3, -3]
theorem aw1 : okT awS awT = true := by decide +kernel
theorem aw2 : okT awS awU = true := by decide +kernel
theorem aw3 : depth awS awT = 3 := by decide +kernel
theorem aw4 : canon awU = [0, -1, -1] := by decide +kernel
theorem awSign (w : World) : Sign (fun b => b = w.heap.size) (w.alloc (.cells #[.string ⟨#[67]⟩, .int .i64 2, .string ⟨#[78]⟩, .int .i64 1] 71)) (some ⟨w.heap.size, 0, none⟩) 2 awS := by
  have := Sl.new (E := symE) (S := fun _ => False) w [[.string ⟨#[67]⟩, .int .i64 2], [.string ⟨#[78]⟩, .int .i64 1]] awS 71 rfl (by decide) (fun i h1 h2 => by
    match i, h1 with
    | 0, _ => exact ⟨[_], [_], rfl, ⟨rfl, (by decide : 1 ≤ big)⟩, ⟨rfl, (by unfold inRange; decide : inRange 2)⟩⟩
    | 1, _ => exact ⟨[_], [_], rfl, ⟨rfl, (by decide : 1 ≤ big)⟩, ⟨rfl, (by unfold inRange; decide : inRange 1)⟩⟩)
  exact this.weak (fun b h => h.resolve_left (fun h => h))
end Go.Proofs.YtgkddhakhapjlaaGreatDoor

/- Walks: Canonical of the reference, IsCanonical, Shape, of both. -/
namespace Go.Proofs.YtgkddhakhapjlaaGreatDoor
open Go Go.RowKit Go.Maps

def retE (r : List Int × Int) (w : World) (e : Ending) (w' : World) : Prop := ∃ v, e = .returned (.tuple #[v, .int .i64 r.2]) ∧ OwnI w' w.heap.size v r.1 ∧ Below w.heap.size w w'
theorem bcall {w w1 w2 : World} (h : Below w.heap.size w w1) (hb : Below w1.heap.size w1 w2) : Below w.heap.size w w2 := h.trans (hb.mono h.size)
def canonE (s : Sg) (t : List Int) : List Int × Int := errE s t (canon t)
def flatE (s : Sg) (t : List Int) : List Int × Int := errE s t (flat t)
def isCanonT (s : Sg) (t : List Int) : Bool := okT s t && decide (canon t = t)

theorem CanonicalE {S1 S2 : Nat → Prop} (a1 a2 : Option Addr) (c1 c2 : Nat) (s : Sg) (t : List Int) (w : World) (h1 : Sign S1 w a1 c1 s) (h2 : Ints S2 w a2 c2 t) :
    Calls Tryz.prog 27 #[.slice a1 s.length c1, .slice a2 t.length c2] w (retE (canonE s t) w) := by
  refine (Canonical_any a1 a2 c1 c2 s t w h1 h2).mono ?_
  rintro e w' ⟨v, n, rfl, hb, hn, hy⟩
  cases hx : okT s t with
  | false =>
    obtain ⟨rfl, rfl⟩ := hn hx
    rw [canonE, errE_no hx]
    exact ⟨_, rfl, .nil _ _ _ _ _, hb⟩
  | true =>
    obtain ⟨rfl, ho⟩ := hy hx
    rw [canonE, errE_ok hx]
    exact ⟨_, rfl, ho, hb⟩

def shRel (t : List Int) (w : World) (B g cap : Nat) (i : Value) (wr : World) : Prop :=
  ∃ k : Nat, i = .int .i64 k ∧ k ≤ t.length ∧ OwnI wr B (.slice (some ⟨g, 0, none⟩) t.length cap) (doneTo (fun n => if n < 0 then -1 else n) t k) ∧ Below B w wr
theorem flat_range {x : Int} (h : inRange x) : inRange (if x < 0 then -1 else x) := by unfold inRange at *; split <;> omega

end Go.Proofs.YtgkddhakhapjlaaGreatDoor

/- Walks of package unify: where parts end; terms with variables of any number. -/
namespace Go.Proofs.YtgkddhakhapjlaaGreatDoor
open Go Go.RowKit Go.Maps

theorem okSign_ars {s : Sg} (h : okSign s = true) (n : Nat) (hn : n < s.length) : 0 ≤ s[n].2 ∧ s[n].2 ≤ 3 := by
  simp only [okSign, Bool.and_eq_true] at h
  have := List.all_eq_true.1 h.1.1.2 s[n] (List.getElem_mem hn)
  simp only [entOk, Bool.and_eq_true, decide_eq_true_eq] at this
  omega
theorem arW_sym {s : Sg} {n : Nat} (hn : n < s.length) (h0 : 0 ≤ s[n].2) : (s[n].2 : Int) = (arW s (n : Int) : Nat) := by
  unfold arW
  rw [if_neg (by omega), Int.toNat_natCast, List.getD_eq_getElem?_getD, List.getElem?_eq_getElem hn]
  simp only [Option.getD_some]
  omega
theorem arW_neg {s : Sg} {n : Int} (h : n < 0) : arW s n = 0 := by unfold arW; rw [if_pos h]

def aftRel (s : Sg) (t r : List Int) (w : World) (at_ op : Value) (wr : World) : Prop :=
  ∃ p k : Nat, at_ = .int .i64 p ∧ op = .int .i64 k ∧ p ≤ t.length ∧ skw s k (t.drop p) = some r ∧ wr = w
set_option maxHeartbeats 1000000 in
theorem after_any {S1 S2 : Nat → Prop} (a1 a2 : Option Addr) (c1 c2 : Nat) (s : Sg) (t : List Int) (p : Nat) (r : List Int) (w : World) (h1 : Sign S1 w a1 c1 s) (h2 : Ints S2 w a2 c2 t) (hok : okSign s = true) (hp : skw s 1 (t.drop p) = some r) :
    Calls Tryz.prog 158 #[.slice a1 s.length c1, .slice a2 t.length c2, .int .i64 p] w fun e w' => e = .returned (.int .i64 (t.length - r.length : Nat)) ∧ w = w' := by
  have m2 := h2.le
  have hpl : p ≤ t.length := by obtain ⟨h, _⟩ := skw_drop hp; omega
  have hpH := Lib.hid hp
  have hokH := Lib.hid hok
  clear hp hok
  go_enter Tryz.func158, Tryz.ntmps158
  go_wp2_with fail
  go_loopw [2, 7] (fun at_ op wr => aftRel s t r w at_ op wr) (fun at_ _ _ => t.length - (intOf at_).toNat)
  case atStart => exact ⟨p, 1, rfl, rfl, hpl, hpH.out, rfl⟩
  case round =>
    obtain ⟨q, k, rfl, rfl, hq, hs, rfl⟩ := hrel
    cases k with
    | zero =>
      rw [skw_zero] at hs
      have hq2 : (q : Int) = (t.length - r.length : Nat) := by
        have : (t.drop q).length = r.length := by rw [Option.some.inj hs]
        rw [List.length_drop] at this; omega
      have hqH := Lib.hid hq2
      clear hs hq2
      go_wp2_with fail
      go_ret
      exact ⟨ret_int hqH.out, rfl⟩
    | succ k =>
      obtain ⟨hlt, hc, hs'⟩ := skw_drop hs
      have hsl := skw_len _ _ _ _ hs'
      rw [List.length_drop] at hsl
      obtain ⟨b, o, rfl, -, q1, -⟩ := h2.int q hlt
      by_cases hneg : t[q] < 0
      · rw [arW_neg hneg] at hs'
        obtain ⟨x, hx⟩ : ∃ x, t[q] = x := ⟨_, rfl⟩
        rw [hx] at q1 hneg
        have hsH := Lib.hid hs'
        clear hs' hs hc hx
        go_wp2_with fail
        go_roundw
        case rel => exact ⟨q + 1, k, by go_num, by go_num, by omega, hsH.out, rfl⟩
        case measure => simp [intOf]; omega
      · obtain ⟨n, hx⟩ := Int.eq_ofNat_of_zero_le (show (0 : Int) ≤ t[q] by omega)
        have hn : n < s.length := by
          have := of_decide_eq_true hc
          omega
        rw [hx] at q1 hs' hsl
        obtain ⟨b', o', rfl, -, -, q2, -, -⟩ := h1.sym n hn
        rw [arW_sym hn (okSign_ars hokH.out n hn).1] at q2
        have ha3 := (okSign_ars hokH.out n hn).2
        rw [arW_sym hn (okSign_ars hokH.out n hn).1] at ha3
        obtain ⟨m, hm⟩ : ∃ m, arW s (n : Int) = m := ⟨_, rfl⟩
        rw [hm] at q2 hs' hsl ha3
        have hsH := Lib.hid hs'
        clear hs' hs hc hx hm hneg
        go_wp2_with fail
        go_roundw
        case rel => exact ⟨q + 1, k + m, by go_num, by go_num, by omega, hsH.out, rfl⟩
        case measure => simp [intOf]; omega
end Go.Proofs.YtgkddhakhapjlaaGreatDoor

/- Maps that a call makes, from ints or strings to whatever values, read as plain functions. No program is named. -/
namespace Go.Proofs.YtgkddhakhapjlaaGreatDoor
open Go Go.RowKit Go.Maps Go.WideMaps

/-- kinds of keys -/
structure KeyK (κ : Type) (P : Program) (tk : TypeId) where
  lit : κ → Lit
  val : κ → Value
  ok : κ → Prop
  keyed : Keyed P tk
  key : ∀ x, ok x → keyOf P tk (val x) = some (lit x)
  isKey : ∀ x, WideAt.IsKeyLit (lit x)
  inj : ∀ x y, lit x = lit y → x = y
def intK {P : Program} {tk : TypeId} (hk : P.underlying tk = some (.int .i64)) : KeyK Int P tk where
  lit x := .int .i64 x
  val x := .int .i64 x
  ok := inRange
  keyed := int_keyed hk
  key _ h := keyOf_int_mk hk (wf_of_inRange h)
  isKey := isKey_int
  inj x y h := by simpa using h
def strK {P : Program} {tk : TypeId} (hk : P.underlying tk = some .string) : KeyK ByteArray P tk where
  lit s := .string s.data.toList
  val s := .string s
  ok s := s.size ≤ maxLen
  keyed := string_keyed hk
  key _ h := keyOf_string_mk hk h
  isKey _ := isKey_string _
  inj _ _ h := Classical.byContradiction fun e => str_ne e h
abbrev heldV : Value → Option (DataW Value × List MemPlace) := fun v => some (.held v, [])
/-- the map in block b has exactly n keys and reads as f -/
def VMap {κ : Type} {P : Program} {tk : TypeId} (K : KeyK κ P tk) (w : World) (b n : Nat) (f : κ → Option Value) : Prop :=
  ∃ D : DataW Value, w.ownsMap P tk heldV b n D ∧ Tidy D ∧ size D = n ∧ ∀ x, has D (K.lit x) = (f x).isSome ∧ ∀ z, D.atKey (K.lit x) (.held z) = .held ((f x).getD z)

section
variable {κ : Type} {P : Program} {tm tk te : TypeId} {K : KeyK κ P tk} {w : World} {b n : Nat} {f : κ → Option Value}
theorem VMap.made (K : KeyK κ P tk) (w : World) : VMap K (w.alloc (.map #[] 0)) w.heap.size 0 (fun _ => none) :=
  ⟨.map [], World.ownsMap_made _ _ _ _, tidy_empty, rfl, fun _ => ⟨rfl, fun _ => rfl⟩⟩
theorem VMap.look (h : VMap K w b n f) (ht : P.underlying tm = some (.map tk te)) {z : Value} (hz : (zeroValue te).run P w = .ok z w) (x : κ) (hx : K.ok x) : (Instr.lookup tm (.map (some b)) (K.val x) false).run P w = .ok ((f x).getD z) w := by
  obtain ⟨D, ho, _, _, hf⟩ := h
  obtain ⟨v, ps, hrun, hv⟩ := ho.lookup K.keyed ht hz rfl (K.key x hx)
  rw [(hf x).2 z] at hv
  simp only [Option.some.injEq, Prod.mk.injEq, DataW.held.injEq] at hv
  rw [hrun, hv.1]
theorem VMap.look_ok (h : VMap K w b n f) (ht : P.underlying tm = some (.map tk te)) {z : Value} (hz : (zeroValue te).run P w = .ok z w) (x : κ) (hx : K.ok x) : (Instr.lookup tm (.map (some b)) (K.val x) true).run P w = .ok (.tuple #[(f x).getD z, .bool (f x).isSome]) w := by
  obtain ⟨D, ho, _, _, hf⟩ := h
  obtain ⟨v, ps, hrun, hv⟩ := ho.look_ok K.keyed ht hz rfl (K.key x hx)
  rw [(hf x).2 z] at hv
  simp only [Option.some.injEq, Prod.mk.injEq, DataW.held.injEq] at hv
  rw [hrun, hv.1, (hf x).1]
theorem VMap.len (h : VMap K w b n f) (ht : P.underlying tm = some (.map tk te)) (ty : TypeId) : (Builtin.len_ #[tm] ty #[.map (some b)]).run P w = .ok (.int .i64 n) w := by
  obtain ⟨D, ho, _, hs, _⟩ := h
  rw [ho.len ht ty, hs]
theorem VMap.store [DecidableEq κ] (h : VMap K w b n f) (ht : P.underlying tm = some (.map tk te)) (hn : n < maxLen) (x : κ) (hx : K.ok x) (y : Value) :
    ∃ w', (Instr.mapUpdate tm (.map (some b)) (K.val x) y).run P w = .ok () w' ∧ VMap K w' b (if (f x).isSome = true then n else n + 1) (fun z => if z = x then some y else f z) ∧ w.grownBy w' (some b) := by
  obtain ⟨D, ho, ht', hs, hf⟩ := h
  obtain ⟨w', hrun, ho', hg⟩ := ho.update K.keyed ht hn (K.key x hx) (val := y) (d := .held y) (ps := []) rfl
  have hsz := size_put (k := K.lit x) ht' (DataW.held y)
  rw [(hf x).1, hs] at hsz
  refine ⟨w', hrun, ⟨_, ?_, ht'.put (K.isKey _) _, hsz, fun z => ?_⟩, hg⟩
  · rw [← hsz]
    obtain ⟨es, clock, hb, F, hle, hD⟩ := ho'
    refine ⟨es, clock, hb, F, ?_, hD⟩
    have e1 : size (D.put (K.lit x) (.held y)) = es.size := by rw [hD]; simp [size, length_sorted]
    omega
  · by_cases hz : z = x
    · subst hz
      rw [has_put_same ht'.isMap (K.isKey _)]
      exact ⟨by simp, fun z => by rw [atKey_put_same ht'.isMap (K.isKey _)]; simp⟩
    · have hne : K.lit z ≠ K.lit x := fun e => hz (K.inj _ _ e)
      rw [has_put_other hne]
      exact ⟨by simp only [if_neg hz]; exact (hf z).1, fun y => by rw [atKey_put_other hne]; simp only [if_neg hz]; exact (hf z).2 y⟩
theorem VMap.lt (h : VMap K w b n f) : b < w.heap.size := by obtain ⟨D, ho, _⟩ := h; exact ho.lt
theorem VMap.same {w' : World} (h : VMap K w b n f) (hb : w'.heap[b]? = w.heap[b]?) : VMap K w' b n f := by
  obtain ⟨D, ⟨es, clock, hc, r⟩, ht, hf⟩ := h
  exact ⟨D, ⟨es, clock, hb.trans hc, r⟩, ht, hf⟩
theorem VMap.below {w' : World} {B : Nat} (h : VMap K w b n f) (hB : Below B w w') (hb : b < B) : VMap K w' b n f := h.same (hB.block b hb)
end
end Go.Proofs.YtgkddhakhapjlaaGreatDoor

/- Walks: arguments of terms, of the program. -/
namespace Go.Proofs.YtgkddhakhapjlaaGreatDoor
open Go Go.RowKit Go.Maps

abbrev OwnTs (S : Nat → Prop) (w : World) (base : Nat) (v : Value) (l : List (List Int)) : Prop := OwnL (slE intE) S w base 34 v l
theorem infoTerm : (Tryz.prog.info? 34).map (fun i => (i.zero, i.size, i.bytes)) = some (some (.slice none 0 0), 1, 24) := by kernel_rfl
/-- a part of a slice -/
theorem Ints.part {S : Nat → Prop} {w : World} {b off c : Nat} {l : List Int} (h : Ints S w (some ⟨b, off, none⟩) c l) (i j c' : Nat) (hij : i ≤ j) (hj : j ≤ l.length) (h1 : j - i ≤ c') (h2 : c' ≤ c) :
    Ints S w (some ⟨b, off + i, none⟩) c' ((l.drop i).take (j - i)) := by
  refine ⟨by simp; omega, Nat.le_trans h2 h.max, fun e => by simp at e, fun hne => ?_⟩
  have hl : 0 < ((l.drop i).take (j - i)).length := by
    rcases Nat.eq_zero_or_pos ((l.drop i).take (j - i)).length with h0 | h0
    · exact (hne (List.length_eq_zero_iff.1 h0)).elim
    · exact h0
  simp at hl
  obtain ⟨b', o', he, hb, hlt, hc⟩ := h.dat (by intro e; subst e; simp at hl)
  simp only [Option.some.injEq, Addr.mk.injEq, and_true] at he
  obtain ⟨rfl, rfl⟩ := he
  refine ⟨b, off + i, rfl, hb, hlt, fun k hk => ?_⟩
  simp at hk
  obtain ⟨vs, v1, v2, v3⟩ := hc (i + k) (by omega)
  refine ⟨vs, v1, fun q hq => ?_, ?_⟩
  · have := v2 q hq
    rw [show off + i + k * intE.size + q = off + (i + k) * intE.size + q by simp [intE]; omega]
    exact this
  · have : ((l.drop i).take (j - i))[k]'(by simp; omega) = l[i + k]'(by omega) := by simp
    rw [this]; exact v3

/-- append of one term -/
theorem Ts_push {S : Nat → Prop} {w wr w1 : World} {out : Value} {l : List (List Int)} (ho : OwnTs S wr w.heap.size out l) (hB : Below w.heap.size w wr) (hB1 : Below wr.heap.size wr w1) {a : Option Addr} {c : Nat} {u : List Int} (hu : Ints (Off S out) w1 a c u) (hl : l.length + 1 ≤ 1000000) :
    ∃ v' w', RowKit.Hid ((Builtin.append_ #[24, 24] 24 #[out, .slice (some ⟨w1.heap.size, 0, none⟩) 1 1]).run Tryz.prog (w1.alloc (.cells #[.slice a u.length c] 34)) = .ok v' w') ∧ RowKit.Hid (OwnTs S w' w.heap.size v' (l ++ [u])) ∧ RowKit.Hid (Below w.heap.size w w') := by
  have hB2 := hB.trans (hB1.mono hB.size)
  have ho1 := ho.call hB1
  obtain ⟨v', w', hrun, ho', hg, hat⟩ := ho1.push (P := Tryz.prog) (t := 24) (ty := 24) Tryz.underlying24 infoTerm rfl (vs := [.slice a u.length c]) (x := u) ⟨_, _, rfl, hu⟩ (by omega) (by unfold big; omega) hB2.size
  exact ⟨v', w', Lib.hid hrun, Lib.hid ho', Lib.hid (hB2.grown hg hB2.size (fun k e => (ho1.lt k e).1))⟩

def argRel (S2 : Nat → Prop) (s : Sg) (t : List Int) (m : Nat) (w : World) (out at_ i : Value) (wr : World) : Prop :=
  ∃ j p : Nat, i = .int .i64 j ∧ at_ = .int .i64 p ∧ j ≤ m ∧ 1 ≤ p ∧ p ≤ t.length ∧ skip s (m - j) (t.drop p) = some [] ∧ (argsT s t).take j ++ splitK s (m - j) (t.drop p) = argsT s t ∧
    OwnTs (fun b => S2 b ∧ b < w.heap.size) wr w.heap.size out ((argsT s t).take j) ∧ Below w.heap.size w wr
def retTerms (S : Nat → Prop) (w : World) (l : List (List Int)) (e : Ending) (w' : World) : Prop := ∃ v, e = .returned v ∧ OwnTs S w' w.heap.size v l ∧ Below w.heap.size w w'

set_option maxHeartbeats 1000000 in
theorem args_in {S1 S2 : Nat → Prop} (a1 a2 : Option Addr) (c1 c2 : Nat) (s : Sg) (t : List Int) (w : World) (h1 : Sign S1 w a1 c1 s) (h2 : Ints S2 w a2 c2 t) (hok : okT s t = true) :
    Calls Tryz.prog 150 #[.slice a1 s.length c1, .slice a2 t.length c2] w (retTerms (fun b => S2 b ∧ b < w.heap.size) w (argsT s t)) := by
  have m2 := h2.le
  have mc := h2.max
  unfold big at mc
  obtain ⟨n, r, ht, hc, hs⟩ := okT_head hok
  obtain ⟨hsg, hl1, hl2, hsk⟩ := okT_parts hok
  have h0 : 0 < t.length := by omega
  obtain ⟨b, o, rfl, -, q, -⟩ := h2.int 0 h0
  have hcap := h2.cap
  have ht0 : t[0] = n := by subst ht; rfl
  rw [ht0, Nat.add_zero] at q
  obtain ⟨hA, hA3⟩ := arC_ok hsg hc
  have ca := arity_any a1 c1 s n w h1
  rw [hA] at ca
  obtain ⟨m, hm⟩ : ∃ m, ar s n = m := ⟨_, rfl⟩
  have hargs : argsT s t = splitK s m (t.drop 1) := by subst ht; rw [← hm]; rfl
  have hskm : skip s m (t.drop 1) = some [] := by subst ht; rw [← hm]; exact hs
  have hlen : (argsT s t).length = m := by rw [hargs]; exact (splitK_spec s m _ _ hskm).1
  rw [hm] at ca hA3
  have caH := Lib.hid ca
  have hargsH := Lib.hid hargs
  have hskmH := Lib.hid hskm
  have hlenH := Lib.hid hlen
  have hsgH := Lib.hid hsg
  have htlH := Lib.hid hl2
  have hmlH : RowKit.Hid (m ≤ t.length) := Lib.hid (by
    have h6 := skip_len s m _ _ hskm
    rw [List.length_drop, List.length_nil] at h6; omega)
  clear ca hargs hskm hlen hA hm hs hc ht ht0 hsk hsg hok hl2
  go_enter Tryz.func150, Tryz.ntmps150
  go_wp2_with (go_at_call 149; refine caH.out.mono ?_; rintro e w' ⟨rfl, rfl⟩)
  go_loopw [5, 6, 14] (fun out at_ i wr => argRel S2 s t m w out at_ i wr) (fun _ _ i _ => m - (intOf i).toNat)
  case atStart => exact ⟨0, 1, rfl, rfl, Nat.zero_le _, Nat.le_refl _, h0, by simpa using hskmH.out, by simpa using hargsH.out.symm, .nil _ _ _ _ _, .refl _ _⟩
  case round =>
    obtain ⟨j, p, rfl, rfl, hj, hp1, hp2, hsk, happ, ho, hB⟩ := hrel
    by_cases hjm : j < m
    · obtain ⟨k, hk⟩ : ∃ k, m - j = k + 1 := ⟨m - j - 1, by omega⟩
      rw [hk] at hsk happ
      obtain ⟨rest, hr1, hr2⟩ := skip_one hsk
      obtain ⟨g1, g2, g3, g4⟩ := endOf_some s t p rest hr1
      obtain ⟨e1, e2, e3⟩ := partAt_eq hr1
      have elen := partAt_len hr1
      rw [List.length_drop] at elen
      obtain ⟨z, hz⟩ : ∃ z, t.length - rest.length = z := ⟨_, rfl⟩
      rw [hz] at g1 g2 g3 g4
      have hpart : (t.drop p).take (z - p) = partAt s (t.drop p) := by
        unfold partAt; rw [hr1]; simp; congr 1; omega
      have hsub := h2.part p z (z - p) (by omega) g4 (Nat.le_refl _) (by omega)
      rw [hpart] at hsub
      have hplen : (partAt s (t.drop p)).length = z - p := by omega
      have htk : (argsT s t).take (j + 1) = (argsT s t).take j ++ [partAt s (t.drop p)] := by
        have hl := hlenH.out
        rw [List.take_succ_eq_append_getElem (by omega)]
        congr 2
        have h3 : (argsT s t)[j]'(by omega) = ((argsT s t).take j ++ splitK s (k + 1) (t.drop p))[j]'(by rw [happ]; omega) := by simp only [happ]
        rw [h3, List.getElem_append_right (by simp; omega)]
        simp [splitK, Nat.min_eq_left (show j ≤ (argsT s t).length by omega)]
      have happ' : (argsT s t).take (j + 1) ++ splitK s (m - (j + 1)) (t.drop z) = argsT s t := by
        rw [htk, List.append_assoc, show m - (j + 1) = k by omega, g2]
        rw [splitK, hr1] at happ
        simpa using happ
      have hsk' : skip s (m - (j + 1)) (t.drop z) = some [] := by rw [show m - (j + 1) = k by omega, g2]; exact hr2
      have hjl : ((argsT s t).take j).length = j := by rw [List.length_take, hlenH.out]; omega
      have htl : t.length ≤ 60 := htlH.out
      have hml : m ≤ 60 := by have := hmlH.out; omega
      have ec := fun W hW1 hW2 => end_any (S1 := S1) (S2 := S2) (a1 := a1) (c1 := c1) (a2 := some ⟨b, o, none⟩) (c2 := c2) (t := t) hsgH.out p W (Or.inr ⟨by omega, by omega⟩) hW1 hW2
      have h1' : Sign S1 wr a1 c1 s := h1.below hB
      have h2' : Ints S2 wr (some ⟨b, o, none⟩) c2 t := h2.below hB
      have hc := ec wr h1' h2'
      unfold endPostB at hc
      rw [g1] at hc
      have hbs : b < wr.heap.size := by have := World.block_lt_of_cell? w _ q; have := hB.size; simp at *; omega
      have hbw : b < w.heap.size := World.block_lt_of_cell? w _ q
      have hsub' : Ints (fun k => S2 k ∧ k < w.heap.size) w (some ⟨b, o + p, none⟩) (z - p) (partAt s (t.drop p)) := hsub.lt
      have happH := Lib.hid happ'
      have hskH := Lib.hid hsk'
      have hcH := Lib.hid hc
      have hBH := Lib.hid hB
      have g4H := Lib.hid g4
      have hpu : ∀ w1, Below wr.heap.size wr w1 → ∃ v' w', RowKit.Hid ((Builtin.append_ #[24, 24] 24 #[u5, .slice (some ⟨w1.heap.size, 0, none⟩) 1 1]).run Tryz.prog (w1.alloc (.cells #[.slice (some ⟨b, o + p, none⟩) (z - p) (z - p)] 34)) = .ok v' w') ∧ RowKit.Hid (OwnTs (fun b => S2 b ∧ b < w.heap.size) w' w.heap.size v' ((argsT s t).take (j + 1))) ∧ RowKit.Hid (Below w.heap.size w w') := by
        intro w1 hB1
        rw [htk, ← hplen]
        have hx := (hsub'.below (hB.trans (hB1.mono hB.size))).weak (S' := Off (fun b => S2 b ∧ b < w.heap.size) u5) (fun k hk => ⟨hk, fun e => by have := (ho.lt k e.symm).1; have := hk.2; omega⟩)
        exact Ts_push ho hB hB1 (by rw [hplen]; exact hx) (by rw [hjl]; omega)
      have hpuH := Lib.hid hpu
      clear hpu htk happ' hsk' ho hsub hsub' hc hplen ec h1' h2' e1 e2 e3 elen hpart g1 g2 hr1 hr2 hk hz happ hsk hjl
      go_wp2_with (first
        | (go_at_call 109; refine hcH.out.mono ?_; rintro e w1 ⟨d, rfl, -, hB1⟩; obtain ⟨v', w', hrunH, ho3, hB3H⟩ := hpuH.out w1 hB1)
        | (at_builtin; refine wpList_append_run rfl _ _ _ rfl rfl rfl hrunH.out ?_))
      go_roundw
      case rel => exact ⟨j + 1, z, by go_num, rfl, by omega, by omega, g4H.out, hskH.out, happH.out, ho3.out, hB3H.out⟩
      case measure => simp [intOf]; omega
    · have hjm' : j = m := by omega
      subst hjm'
      have hfull : (argsT s t).take j = argsT s t := List.take_of_length_le (by rw [hlenH.out]; exact Nat.le_refl _)
      rw [hfull] at ho
      have hoH := Lib.hid ho
      clear ho happ hsk hfull
      go_wp2_with fail
      go_ret
      exact ⟨_, rfl, hoH.out, hB⟩
theorem retTerms.weak {S S' : Nat → Prop} {w : World} {l : List (List Int)} {e : Ending} {w' : World} (h : retTerms S w l e w') (hS : ∀ b, S b → S' b) : retTerms S' w l e w' := by
  obtain ⟨v, rfl, ⟨xs, h1, h2, h3⟩, hb⟩ := h
  exact ⟨v, rfl, ⟨xs, h1, h2, fun i g1 g2 => (slE intE).mono (h3 i g1 g2) (fun b _ hb => ⟨hS b hb.1, hb.2⟩) (.refl _ _)⟩, hb⟩
theorem args_any {S1 S2 : Nat → Prop} (a1 a2 : Option Addr) (c1 c2 : Nat) (s : Sg) (t : List Int) (w : World) (h1 : Sign S1 w a1 c1 s) (h2 : Ints S2 w a2 c2 t) (hok : okT s t = true) :
    Calls Tryz.prog 150 #[.slice a1 s.length c1, .slice a2 t.length c2] w (retTerms (fun b => b < w.heap.size) w (argsT s t)) :=
  (args_in a1 a2 c1 c2 s t w h1 h2 hok).mono fun _ _ h => h.weak fun _ hb => hb.2
end Go.Proofs.YtgkddhakhapjlaaGreatDoor

/- Walks of package unify: match, Instance. -/
namespace Go.Proofs.YtgkddhakhapjlaaGreatDoor
open Go Go.RowKit Go.Maps

open Classical in
/-- b is an instance of a -/
noncomputable def instB (s : Sg) (a b : List Int) : Bool := if ∃ η, Wsub s η ∧ ap η a = b then true else false
theorem instB_yes {s : Sg} {a b : List Int} {η : Int → List Int} (h : Wsub s η) (he : ap η a = b) : instB s a b = true := by
  unfold instB; exact if_pos ⟨η, h, he⟩
theorem instB_no {s : Sg} {a b : List Int} (h : ∀ η, Wsub s η → ap η a ≠ b) : instB s a b = false := by
  unfold instB; exact if_neg fun ⟨η, h1, h2⟩ => h η h1 h2
theorem instB_iff {s : Sg} {a b : List Int} : instB s a b = true ↔ ∃ η, Wsub s η ∧ ap η a = b := by unfold instB; split <;> simp_all

/-- the first k numbers of a have become the first i of b -/
structure MRel (s : Sg) (a b : List Int) (k i : Nat) (B : Bd) : Prop where
  ka : k ≤ a.length
  ib : i ≤ b.length
  op : ∃ c, skw s c (a.drop k) = some [] ∧ skw s c (b.drop i) = some []
  wf : ∀ n u, B n = some u → W1 s u
  fwd : ∀ η, (∀ n u, B n = some u → η n = u) → ap η (a.take k) = b.take i
  bwd : ∀ η, Wsub s η → ap η a = b → ∀ n u, B n = some u → η n = u
section
variable {s : Sg} {a b : List Int} {k i : Nat} {B : Bd}
theorem MRel.start (ha : W1 s a) (hb : W1 s b) : MRel s a b 0 0 (fun _ => none) :=
  ⟨Nat.zero_le _, Nat.zero_le _, ⟨1, by simpa using ha, by simpa using hb⟩, fun _ _ h => (by cases h), fun _ _ => rfl, fun _ _ _ _ _ h => (by cases h)⟩
theorem MRel.rest (h : MRel s a b k i B) {η : Int → List Int} (hw : Wsub s η) (he : ap η a = b) : ap η (a.drop k) = b.drop i := by
  have h1 := h.fwd η (h.bwd η hw he)
  have h2 : ap η (a.take k) ++ ap η (a.drop k) = b.take i ++ b.drop i := by rw [← ap_append, List.take_append_drop, List.take_append_drop, he]
  rw [h1] at h2
  exact List.append_cancel_left h2
/-- there is more of b, and what follows there is a part -/
theorem MRel.part (h : MRel s a b k i B) (hk : k < a.length) : i < b.length ∧ ∃ r, skw s 1 (b.drop i) = some r ∧ cw s a[k] = true := by
  obtain ⟨c, h1, h2⟩ := h.op
  cases c with
  | zero => rw [skw_zero] at h1; have := congrArg List.length (Option.some.inj h1); simp at this; omega
  | succ c =>
    obtain ⟨m, hm, -⟩ := skw_one h2
    exact ⟨(skw_drop h2).1, m, hm, (skw_drop h1).2.1⟩
theorem MRel.sym (h : MRel s a b k i B) (hk : k < a.length) (hi : i < b.length) (hp : ¬ a[k] < 0) (he : b[i] = a[k]) : MRel s a b (k + 1) (i + 1) B := by
  obtain ⟨c, h1, h2⟩ := h.op
  have ta : a.take (k + 1) = a.take k ++ [a[k]] := List.take_succ_eq_append_getElem hk
  have tb : b.take (i + 1) = b.take i ++ [b[i]] := List.take_succ_eq_append_getElem hi
  refine ⟨hk, hi, ?_, h.wf, fun η hη => ?_, h.bwd⟩
  · cases c with
    | zero => rw [skw_zero] at h1; have := congrArg List.length (Option.some.inj h1); simp at this; omega
    | succ c =>
      obtain ⟨_, _, g1⟩ := skw_drop h1
      obtain ⟨_, _, g2⟩ := skw_drop h2
      rw [he] at g2
      exact ⟨_, g1, g2⟩
  · rw [ta, tb, ap_append, h.fwd η hη, ap_pos hp, ap_nil, he]
theorem MRel.sym_no (h : MRel s a b k i B) (hk : k < a.length) (hi : i < b.length) (hp : ¬ a[k] < 0) (he : b[i] ≠ a[k]) : instB s a b = false := by
  refine instB_no fun η hw hq => ?_
  have := h.rest hw hq
  rw [List.drop_eq_getElem_cons hk, List.drop_eq_getElem_cons hi, ap_pos hp] at this
  exact he (List.cons.inj this).1.symm
theorem MRel.tail (h : MRel s a b k i B) (hk : k < a.length) (hn : a[k] < 0) {r : List Int} (hr : skw s 1 (b.drop i) = some r) {η : Int → List Int} (hw : Wsub s η) (hq : ap η a = b) : η a[k] = partW s (b.drop i) := by
  have h1 := h.rest hw hq
  rw [List.drop_eq_getElem_cons hk, ap_neg hn] at h1
  obtain ⟨p1, p2, -⟩ := partW_eq hr
  rw [p1] at h1
  exact (W1.uniq (hw _ hn) p2 h1).1
theorem part_ends {r : List Int} (hi : i < b.length) (hr : skw s 1 (b.drop i) = some r) : partW s (b.drop i) = (b.drop i).take (b.length - r.length - i) ∧ i ≤ b.length - r.length ∧ r = b.drop (b.length - r.length) ∧ b.take (b.length - r.length) = b.take i ++ partW s (b.drop i) ∧ W1 s (partW s (b.drop i)) ∧ (partW s (b.drop i)).length = b.length - r.length - i ∧ i < b.length - r.length := by
  obtain ⟨p1, p2, p3⟩ := partW_eq hr
  have hl := partW_len hr
  have hl2 := skw_len s 1 _ _ hr
  rw [List.length_drop] at hl hl2
  have e1 : partW s (b.drop i) = (b.drop i).take (b.length - r.length - i) := by
    unfold partW; rw [hr, Option.getD_some, List.length_drop]; congr 1; omega
  have hi2 : i ≤ b.length - r.length := by omega
  refine ⟨e1, hi2, ?_, ?_, p2, by omega, by omega⟩
  · have : (b.drop i).drop (b.length - r.length - i) = r := by
      rw [congrArg (List.drop (b.length - r.length - i)) p1, List.drop_append_of_le_length (by omega), List.drop_of_length_le (by omega), List.nil_append]
    rw [List.drop_drop, show i + (b.length - r.length - i) = b.length - r.length by omega] at this
    exact this.symm
  · rw [e1, ← List.take_add]; congr 1; omega
theorem MRel.var (h : MRel s a b k i B) (hk : k < a.length) (hn : a[k] < 0) {r : List Int} (hr : skw s 1 (b.drop i) = some r) (hB : B a[k] = none ∨ B a[k] = some (partW s (b.drop i))) :
    MRel s a b (k + 1) (b.length - r.length) (upB B a[k] (partW s (b.drop i))) := by
  have hi := (h.part hk).1
  obtain ⟨-, e2, e3, e4, e5, -⟩ := part_ends hi hr
  have ta : a.take (k + 1) = a.take k ++ [a[k]] := List.take_succ_eq_append_getElem hk
  have hsub : ∀ η : Int → List Int, (∀ n u, upB B a[k] (partW s (b.drop i)) n = some u → η n = u) → (∀ n u, B n = some u → η n = u) ∧ η a[k] = partW s (b.drop i) := fun η hη => by
    have hv := hη a[k] _ (by unfold upB; rw [if_pos rfl])
    refine ⟨fun n u hu => ?_, hv⟩
    by_cases e : n = a[k]
    · subst e
      rcases hB with g | g
      · rw [g] at hu; cases hu
      · rw [g] at hu; rw [← Option.some.inj hu]; exact hv
    · exact hη n u (by unfold upB; rw [if_neg e]; exact hu)
  refine ⟨hk, by omega, ?_, fun n u hu => ?_, fun η hη => ?_, fun η hw hq n u hu => ?_⟩
  · obtain ⟨c, h1, h2⟩ := h.op
    cases c with
    | zero => rw [skw_zero] at h1; have := congrArg List.length (Option.some.inj h1); simp at this; omega
    | succ c =>
      obtain ⟨_, _, g1⟩ := skw_drop h1
      rw [arW_neg hn, Nat.add_zero] at g1
      obtain ⟨m, m1, m2⟩ := skw_one h2
      rw [hr] at m1
      cases m1
      rw [← e3]
      exact ⟨c, g1, m2⟩
  · unfold upB at hu
    split at hu
    · cases hu; exact e5
    · exact h.wf n u hu
  · obtain ⟨g1, g2⟩ := hsub η hη
    rw [ta, ap_append, h.fwd η g1, ap_one hn, g2, e4]
  · unfold upB at hu
    split at hu
    · rename_i e; cases hu; rw [e]; exact h.tail hk hn hr hw hq
    · exact h.bwd η hw hq n u hu
theorem MRel.var_no (h : MRel s a b k i B) (hk : k < a.length) (hn : a[k] < 0) {r u : List Int} (hr : skw s 1 (b.drop i) = some r) (hB : B a[k] = some u) (hne : u ≠ partW s (b.drop i)) : instB s a b = false := by
  refine instB_no fun η hw hq => hne ?_
  rw [← h.bwd η hw hq _ _ hB]
  exact h.tail hk hn hr hw hq
theorem MRel.done (h : MRel s a b a.length i B) : instB s a b = true := by
  have hi : i = b.length := by
    obtain ⟨c, h1, h2⟩ := h.op
    rw [List.drop_length] at h1
    cases c with
    | zero => rw [skw_zero] at h2; have := congrArg List.length (Option.some.inj h2); simp at this; have := h.ib; omega
    | succ c => rw [skw_nil] at h1; cases h1
  have hf := h.fwd (fun n => (B n).getD [n]) (fun n u hu => by simp only [hu, Option.getD_some])
  rw [List.take_length, hi, List.take_length] at hf
  refine instB_yes (fun n hn => ?_) hf
  cases hB : B n with
  | none => exact W1.var hn
  | some u => exact h.wf n u hB
end

theorem zTerm (w : World) : (zeroValue 34).run Tryz.prog w = .ok (.slice none 0 0) w := by kernel_rfl
noncomputable abbrev KI := intK (P := Tryz.prog) (tk := 3) Tryz.underlying3
/-- a map in the world that holds what is bound -/
def BdMap (w0 w : World) (mb : Nat) (n : Nat) (B : Bd) : Prop :=
  ∃ f, VMap KI w mb n f ∧ (∀ x, B x = none → f x = none) ∧ ∀ x u, B x = some u → ∃ a c, f x = some (.slice a u.length c) ∧ Ints (fun b => b < w0.heap.size) w0 a c u
theorem BdMap.made (w0 w : World) : BdMap w0 (w.alloc (.map #[] 0)) w.heap.size 0 (fun _ => none) :=
  ⟨_, VMap.made KI w, fun _ _ => rfl, fun _ _ h => by cases h⟩
theorem BdMap.below {w0 w w' : World} {mb n K : Nat} {B : Bd} (h : BdMap w0 w mb n B) (hb : Below K w w') (hm : mb < K) : BdMap w0 w' mb n B := by
  obtain ⟨f, h1, h2, h3⟩ := h
  exact ⟨f, h1.below hb hm, h2, h3⟩
theorem BdMap.lt {w0 w : World} {mb n : Nat} {B : Bd} (h : BdMap w0 w mb n B) : mb < w.heap.size := by obtain ⟨f, h1, -⟩ := h; exact h1.lt
theorem BdMap.store {w0 w : World} {mb n : Nat} {B : Bd} (h : BdMap w0 w mb n B) (hn : n < maxLen) (x : Int) (hx : inRange x) {a : Option Addr} {c : Nat} {u : List Int} (hu : Ints (fun b => b < w0.heap.size) w0 a c u) :
    ∃ w' n', RowKit.Hid ((Instr.mapUpdate 143 (.map (some mb)) (.int .i64 x) (.slice a u.length c)).run Tryz.prog w = .ok () w') ∧ RowKit.Hid (n' ≤ n + 1) ∧ RowKit.Hid (BdMap w0 w' mb n' (upB B x u)) ∧ RowKit.Hid (w.grownBy w' (some mb)) ∧ RowKit.Hid ((B x).isSome = true → n' = n) := by
  obtain ⟨f, h1, h2, h3⟩ := h
  obtain ⟨w', r, hv, hg⟩ := h1.store (tm := 143) (te := 34) Tryz.underlying143 hn x hx (.slice a u.length c)
  refine ⟨w', _, Lib.hid r, Lib.hid ?_, Lib.hid ⟨_, hv, fun y hy => ?_, fun y v hy => ?_⟩, Lib.hid hg, Lib.hid fun hs => ?_⟩
  · split <;> omega
  · unfold upB at hy
    split at hy
    · cases hy
    · rename_i e; simp only [if_neg e]; exact h2 y hy
  · unfold upB at hy
    split at hy
    · rename_i e; cases hy; simp only [if_pos e]; exact ⟨a, c, rfl, hu⟩
    · rename_i e; simp only [if_neg e]; exact h3 y v hy
  · rw [if_pos]
    cases hB : B x with
    | none => rw [hB] at hs; cases hs
    | some v => obtain ⟨a', c', q, -⟩ := h3 x v hB; rw [q]; rfl
theorem BdMap.look_none {w0 w : World} {mb n : Nat} {B : Bd} (h : BdMap w0 w mb n B) (x : Int) (hx : inRange x) (hB : B x = none) :
    (Instr.lookup 143 (.map (some mb)) (.int .i64 x) true).run Tryz.prog w = .ok (.tuple #[.slice none 0 0, .bool false]) w := by
  obtain ⟨f, h1, h2, h3⟩ := h
  have := h1.look_ok (tm := 143) (te := 34) Tryz.underlying143 (zTerm w) x hx
  rw [h2 x hB] at this; exact this
theorem BdMap.look_some {w0 w : World} {mb n : Nat} {B : Bd} (h : BdMap w0 w mb n B) (x : Int) (hx : inRange x) {u : List Int} (hB : B x = some u) :
    ∃ a c, (Instr.lookup 143 (.map (some mb)) (.int .i64 x) true).run Tryz.prog w = .ok (.tuple #[.slice a u.length c, .bool true]) w ∧ Ints (fun b => b < w0.heap.size) w0 a c u := by
  obtain ⟨f, h1, h2, h3⟩ := h
  obtain ⟨a, c, q, hI⟩ := h3 x u hB
  have := h1.look_ok (tm := 143) (te := 34) Tryz.underlying143 (zTerm w) x hx
  rw [q] at this; exact ⟨a, c, this, hI⟩
theorem BdMap.look_drawn {w0 w : World} {mb n : Nat} {B : Bd} (h : BdMap w0 w mb n B) (x : Int) (hx : inRange x) {u : List Int} (hB : B x = some u) :
    ∃ a c, (∀ m, (Instr.lookup 143 (.map (some mb)) (.int .i64 x) true).run Tryz.prog (w.drewN m) = .ok (.tuple #[.slice a u.length c, .bool true]) (w.drewN m)) ∧ Ints (fun b => b < w0.heap.size) w0 a c u := by
  obtain ⟨f, h1, h2, h3⟩ := h
  obtain ⟨a, c, q, hI⟩ := h3 x u hB
  refine ⟨a, c, fun m => ?_, hI⟩
  have := (h1.below (w' := w.drewN m) ((Drew.mk w m).below w.heap.size) h1.lt).look_ok (tm := 143) (te := 34) Tryz.underlying143 (zTerm _) x hx
  rw [q] at this; exact this
end Go.Proofs.YtgkddhakhapjlaaGreatDoor

/- That unification step by step comes to an end. No program is named. -/
namespace Go.Proofs.YtgkddhakhapjlaaGreatDoor

/-- a term looked up: the last of the chain of bound variables -/
inductive Lkd (B : Bd) : List Int → List Int → Prop
  | stop {t : List Int} (h : ∀ n r, t = n :: r → n < 0 → B n = none) : Lkd B t t
  | go {n : Int} {r u p : List Int} (hn : n < 0) (hB : B n = some u) (h : Lkd B u p) : Lkd B (n :: r) p
theorem Lkd.det {B : Bd} {a p p' : List Int} (h : Lkd B a p) (h' : Lkd B a p') : p = p' := by
  induction h with
  | stop h =>
    cases h' with
    | stop _ => rfl
    | go hn hB _ => rw [h _ _ rfl hn] at hB; cases hB
  | go hn hB _ ih =>
    cases h' with
    | stop h => rw [h _ _ rfl hn] at hB; cases hB
    | go _ hB' h2 => rw [hB] at hB'; cases hB'; exact ih h2
/-- no variable beyond the 24th -/
def Rg (t : List Int) : Prop := ∀ n ∈ t, n < 0 → -24 ≤ n
def RgB (B : Bd) : Prop := ∀ n u, B n = some u → Rg u ∧ -24 ≤ n
section
variable {s : Sg} {B : Bd} {θ : Int → List Int} {ρ : Int → Nat}
theorem Lkd.spec (h : Slv s B θ ρ) {a p : List Int} (hl : Lkd B a p) (ha : W1 s a) : W1 s p ∧ ap θ p = ap θ a ∧ (∀ n r, p = n :: r → n < 0 → B n = none) := by
  induction hl with
  | stop hs => exact ⟨ha, rfl, hs⟩
  | go hn hB _ ih =>
    obtain ⟨h1, h2, h3⟩ := ih (h.wf _ _ hB).1
    have := ha.leaf hn
    subst this
    exact ⟨h1, by rw [h2, ap_one hn, h.bnd _ _ hB], h3⟩
theorem Lkd.eta {η : Int → List Int} (hη : Sat B η) {a p : List Int} (hl : Lkd B a p) (ha : W1 s a) (hw : ∀ n u, B n = some u → W1 s u) : ap η p = ap η a := by
  induction hl with
  | stop hs => rfl
  | go hn hB _ ih =>
    have := ha.leaf hn
    subst this
    rw [ih (hw _ _ hB), ap_one hn, hη _ _ hB]
theorem Lkd.rg (hr : RgB B) {a p : List Int} (hl : Lkd B a p) (ha : Rg a) : Rg p := by
  induction hl with
  | stop hs => exact ha
  | go hn hB _ ih => exact ih (hr _ _ hB).1
theorem Lkd.ex (h : Slv s B θ ρ) : ∀ (k : Nat) (a : List Int), (∀ n r, a = n :: r → n < 0 → ρ n < k) → ∃ p, Lkd B a p
  | k, [], _ => ⟨[], .stop (fun n r e => by cases e)⟩
  | k, n :: r, hk => by
    by_cases hn : n < 0
    · cases hB : B n with
      | none => exact ⟨n :: r, .stop (fun m r' e h0 => by cases e; exact hB)⟩
      | some u =>
        cases k with
        | zero => have := hk n r rfl hn; omega
        | succ k =>
          obtain ⟨p, hp⟩ := Lkd.ex h k u (fun m r' e hm => by
            have h1 := h.rk n u hB m (by rw [e]; simp) hm
            have h2 := hk n r rfl hn
            omega)
          exact ⟨p, .go hn hB hp⟩
    · exact ⟨n :: r, .stop (fun m r' e h0 => by cases e; exact (hn h0).elim)⟩
end
/-- how many of the 24 variables are not bound -/
def free (B : Bd) : Nat := ((List.range 24).filter (fun (i : Nat) => (B (-(i : Int) - 1)).isNone)).length
theorem free_bind {B : Bd} {v : Int} {q : List Int} (hv : v < 0) (h24 : -24 ≤ v) (hB : B v = none) : free (upB B v q) < free B := by
  unfold free
  have hi : (-v - 1).toNat ∈ List.range 24 := by rw [List.mem_range]; omega
  have hiv : -(((-v - 1).toNat : Nat) : Int) - 1 = v := by omega
  have : ∀ (l : List Nat), (∀ i ∈ l, ((upB B v q) (-(i : Int) - 1)).isNone = true → (B (-(i : Int) - 1)).isNone = true) → (l.filter (fun (i : Nat) => ((upB B v q) (-(i : Int) - 1)).isNone)).length ≤ (l.filter (fun (i : Nat) => (B (-(i : Int) - 1)).isNone)).length ∧ ((-v - 1).toNat ∈ l → (l.filter (fun (i : Nat) => ((upB B v q) (-(i : Int) - 1)).isNone)).length < (l.filter (fun (i : Nat) => (B (-(i : Int) - 1)).isNone)).length) := by
    intro l
    induction l with
    | nil => intro _; simp
    | cons x r ih =>
      intro hh
      obtain ⟨i1, i2⟩ := ih (fun i hi => hh i (by simp [hi]))
      by_cases hx : ((upB B v q) (-(x : Int) - 1)).isNone = true
      · have hx2 := hh x (by simp) hx
        simp only [List.filter_cons, hx, hx2, if_true, List.length_cons]
        refine ⟨by omega, fun hm => ?_⟩
        rcases List.mem_cons.1 hm with e | e
        · rw [← e, hiv] at hx; simp [upB] at hx
        · have := i2 e; omega
      · by_cases hx2 : (B (-(x : Int) - 1)).isNone = true
        · simp only [List.filter_cons, hx, hx2, if_true, List.length_cons]
          exact ⟨by simp; omega, fun _ => by simp; omega⟩
        · simp only [List.filter_cons, hx, hx2]
          refine ⟨i1, fun hm => ?_⟩
          rcases List.mem_cons.1 hm with e | e
          · rw [← e, hiv] at hx2; rw [hB] at hx2; simp at hx2
          · exact i2 e
  refine (this (List.range 24) (fun i _ h => ?_)).2 hi
  unfold upB at h
  split at h
  · simp at h
  · exact h
abbrev Prs := List (List Int × List Int)
def wt (θ : Int → List Int) (L : Prs) : Nat := (L.map (fun e => (ap θ e.1).length + (ap θ e.2).length)).sum
theorem wt_append (θ : Int → List Int) (L M : Prs) : wt θ (L ++ M) = wt θ L + wt θ M := by unfold wt; rw [List.map_append, List.sum_append]
theorem sum_len (θ : Int → List Int) : ∀ (l : List (List Int)), ((l.map (fun u => (ap θ u).length)).sum) = (ap θ l.flatten).length
  | [] => rfl
  | x :: r => by rw [List.map_cons, List.sum_cons, sum_len θ r, List.flatten_cons, ap_append, List.length_append]
theorem wt_zip (θ : Int → List Int) : ∀ {l m : List (List Int)}, l.length = m.length → wt θ (l.zip m) = (ap θ l.flatten).length + (ap θ m.flatten).length
  | [], [], _ => rfl
  | x :: l, y :: m, h => by
    have ih := wt_zip θ (l := l) (m := m) (by simpa using h)
    unfold wt at *
    rw [List.zip_cons_cons, List.map_cons, List.sum_cons, ih, List.flatten_cons, List.flatten_cons, ap_append, ap_append, List.length_append, List.length_append]
    simp only; omega
/-- the two of a pair, the variable first -/
def turned (p q : List Int) : List Int × List Int := if q.headD 0 < 0 then (q, p) else (p, q)
/-- so many steps at most are to come -/
def Halts (s : Sg) : Nat → Bd → Prs → Prop
  | 0, _, L => L = []
  | k + 1, B, L => ∀ L0 a b, L = L0 ++ [(a, b)] → ∀ p q, Lkd B a p → Lkd B b q →
      ((turned p q).1.headD 0 < 0 → (turned p q).2.headD 0 = (turned p q).1.headD 0 → Halts s k B L0) ∧
      ((turned p q).1.headD 0 < 0 → (turned p q).2.headD 0 ≠ (turned p q).1.headD 0 → (∃ θ ρ, Slv s (upB B ((turned p q).1.headD 0) (turned p q).2) θ ρ) → Halts s k (upB B ((turned p q).1.headD 0) (turned p q).2) L0) ∧
      (0 ≤ (turned p q).1.headD 0 → (turned p q).2.headD 0 = (turned p q).1.headD 0 → Halts s k B (L0 ++ (argsW s (turned p q).1).zip (argsW s (turned p q).2)))
theorem turned_all {P : List Int → Prop} {p q : List Int} (hp : P p) (hq : P q) : P (turned p q).1 ∧ P (turned p q).2 := by
  unfold turned; split
  · exact ⟨hq, hp⟩
  · exact ⟨hp, hq⟩
def PrsOk (s : Sg) (L : Prs) : Prop := ∀ e ∈ L, (W1 s e.1 ∧ Rg e.1) ∧ (W1 s e.2 ∧ Rg e.2)
theorem snoc_inj {α : Type} {l m : List α} {x y : α} (h : l ++ [x] = m ++ [y]) : l = m ∧ x = y := by
  have := List.append_inj' h rfl
  exact ⟨this.1, by simpa using this.2⟩
theorem args_sub {s : Sg} {t : List Int} (ht : W1 s t) (hr : Rg t) : ∀ u ∈ argsW s t, W1 s u ∧ Rg u := by
  intro u hu
  cases t with
  | nil => simp [argsW] at hu
  | cons n x =>
    obtain ⟨-, h2, h3, -⟩ := ht.args
    refine ⟨h3 u hu, fun m hm => hr m ?_⟩
    rw [List.mem_cons]
    right
    rw [← h2]
    exact List.mem_flatten.2 ⟨u, hu, hm⟩
theorem Halts.ex {s : Sg} : ∀ (f c : Nat) (B : Bd) (θ : Int → List Int) (ρ : Int → Nat) (L : Prs), Slv s B θ ρ → RgB B → PrsOk s L → free B ≤ f → wt θ L ≤ c → ∃ k, Halts s k B L := by
  intro f
  induction f using Nat.strongRecOn with
  | _ f ihf =>
    intro c
    induction c using Nat.strongRecOn with
    | _ c ihc =>
      intro B θ ρ L hS hrB hL hf hc
      rcases List.eq_nil_or_concat L with rfl | ⟨L0, ⟨a, b⟩, rfl⟩
      · exact ⟨0, rfl⟩
      · rw [List.concat_eq_append] at hL hc ⊢
        obtain ⟨⟨ha, hra⟩, ⟨hb, hrb⟩⟩ := hL (a, b) (by simp)
        have hL0 : PrsOk s L0 := fun e he => hL e (by simp [he])
        obtain ⟨M, hM⟩ : ∃ M, (∀ n r, a = n :: r → n < 0 → ρ n < M) ∧ (∀ n r, b = n :: r → n < 0 → ρ n < M) :=
          ⟨ρ (a.headD 0) + ρ (b.headD 0) + 1, fun n r e _ => by subst e; simp; omega, fun n r e _ => by subst e; simp; omega⟩
        obtain ⟨p, hp⟩ := Lkd.ex hS M a hM.1
        obtain ⟨q, hq⟩ := Lkd.ex hS M b hM.2
        obtain ⟨p1, p2, p3⟩ := hp.spec hS ha
        obtain ⟨q1, q2, q3⟩ := hq.spec hS hb
        have t1 := turned_all (P := fun t => W1 s t ∧ Rg t ∧ ∀ n r, t = n :: r → n < 0 → B n = none) ⟨p1, hp.rg hrB hra, p3⟩ ⟨q1, hq.rg hrB hrb, q3⟩
        have hwt : wt θ (L0 ++ [(a, b)]) = wt θ L0 + ((ap θ (turned p q).1).length + (ap θ (turned p q).2).length) := by
          rw [wt_append]
          congr 1
          unfold turned wt
          split <;> simp [p2, q2]; omega
        obtain ⟨⟨u1, u2, u3⟩, ⟨w1, w2, w3⟩⟩ := t1
        have hlen1 := (u1.ap hS.th).len
        have hlen2 := (w1.ap hS.th).len
        have hone : ∃ k, ((turned p q).1.headD 0 < 0 → (turned p q).2.headD 0 = (turned p q).1.headD 0 → Halts s k B L0) ∧
            ((turned p q).1.headD 0 < 0 → (turned p q).2.headD 0 ≠ (turned p q).1.headD 0 → (∃ θ ρ, Slv s (upB B ((turned p q).1.headD 0) (turned p q).2) θ ρ) → Halts s k (upB B ((turned p q).1.headD 0) (turned p q).2) L0) ∧
            (0 ≤ (turned p q).1.headD 0 → (turned p q).2.headD 0 = (turned p q).1.headD 0 → Halts s k B (L0 ++ (argsW s (turned p q).1).zip (argsW s (turned p q).2))) := by
          generalize (turned p q).1 = P at *
          generalize (turned p q).2 = Q at *
          cases P with
          | nil => exact (u1.ne rfl).elim
          | cons n x =>
            simp only [List.headD_cons] at *
            by_cases hn : n < 0
            · by_cases he : Q.headD 0 = n
              · obtain ⟨k, hk⟩ := ihc (wt θ L0) (by omega) B θ ρ L0 hS hrB hL0 hf (Nat.le_refl _)
                exact ⟨k, fun _ _ => hk, fun _ h => (h he).elim, fun h => by omega⟩
              · by_cases hE : ∃ θ ρ, Slv s (upB B n Q) θ ρ
                · obtain ⟨θ', ρ', hS'⟩ := hE
                  have hfr := free_bind (q := Q) hn (u2 n (by simp) hn) (u3 n x rfl hn)
                  have hrB' : RgB (upB B n Q) := fun m u hm => by
                    unfold upB at hm
                    split at hm
                    · rename_i e; subst e; cases hm; exact ⟨w2, u2 m (by simp) hn⟩
                    · exact hrB m u hm
                  obtain ⟨k, hk⟩ := ihf (free (upB B n Q)) (by omega) (wt θ' L0) (upB B n Q) θ' ρ' L0 hS' hrB' hL0 (Nat.le_refl _) (Nat.le_refl _)
                  exact ⟨k, fun _ h => (he h).elim, fun _ _ _ => hk, fun h => by omega⟩
                · exact ⟨0, fun _ h => (he h).elim, fun _ _ h => (hE h).elim, fun h => by omega⟩
            · by_cases he : Q.headD 0 = n
              · cases Q with
                | nil => exact (w1.ne rfl).elim
                | cons m y =>
                  simp only [List.headD_cons] at he
                  subst he
                  obtain ⟨a1, a2, a3, -⟩ := u1.args
                  obtain ⟨b1, b2, b3, -⟩ := w1.args
                  have hz := wt_zip θ (l := argsW s (m :: x)) (m := argsW s (m :: y)) (by rw [a1, b1])
                  rw [a2, b2] at hz
                  rw [ap_pos hn, ap_pos hn] at hwt
                  simp only [List.length_cons] at hwt
                  have hw2 : wt θ (L0 ++ (argsW s (m :: x)).zip (argsW s (m :: y))) < c := by rw [wt_append, hz]; omega
                  obtain ⟨k, hk⟩ := ihc _ hw2 B θ ρ _ hS hrB (fun e he => by
                    rcases List.mem_append.1 he with h | h
                    · exact hL0 e h
                    · obtain ⟨g1, g2⟩ := List.of_mem_zip h
                      exact ⟨args_sub u1 u2 _ g1, args_sub w1 w2 _ g2⟩) hf (Nat.le_refl _)
                  exact ⟨k, fun h => by omega, fun h => by omega, fun _ _ => hk⟩
              · exact ⟨0, fun h => by omega, fun h => by omega, fun _ h => (he h).elim⟩
        obtain ⟨k, hk⟩ := hone
        refine ⟨k + 1, fun L0' a' b' e p' q' hp' hq' => ?_⟩
        obtain ⟨e1, e2⟩ := snoc_inj e
        cases e2
        subst e1
        rw [← hp.det hp', ← hq.det hq']
        exact hk
end Go.Proofs.YtgkddhakhapjlaaGreatDoor
