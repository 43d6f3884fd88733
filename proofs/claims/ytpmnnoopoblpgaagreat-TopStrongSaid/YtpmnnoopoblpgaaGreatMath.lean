/- Terms as lists of numbers written head first: the plain functions that the program's layer 1 computes, and their laws. No program is named. -/
namespace Go.Proofs.YtpmnnoopoblpgaaGreat

abbrev Sg := List (ByteArray × Int)

def isLet (b : UInt8) : Bool := (decide (97 ≤ b.toNat) && decide (b.toNat ≤ 122)) || (decide (65 ≤ b.toNat) && decide (b.toNat ≤ 90))
def nameOk (s : ByteArray) : Bool := decide (1 ≤ s.size) && decide (s.size ≤ 8) && s.data.toList.all isLet
def entOk (x : ByteArray × Int) : Bool := nameOk x.1 && (decide (0 ≤ x.2) && decide (x.2 ≤ 3))
def okSign (s : Sg) : Bool :=
  decide (1 ≤ s.length) && decide (s.length ≤ 12) && s.all entOk && decide ((s.map (·.1)).Nodup) && decide ((s.getD 0 default).2 = 2)

/-- the number of arguments of a number; -1 for none -/
def arC (s : Sg) (n : Int) : Int :=
  if -12 ≤ n ∧ n ≤ -1 then 0 else if 0 ≤ n ∧ n < s.length then (s.getD n.toNat default).2 else -1
def codeOk (s : Sg) (n : Int) : Bool := decide (-12 ≤ n ∧ n ≤ -1) || decide (0 ≤ n ∧ n < s.length)
def ar (s : Sg) (n : Int) : Nat := (arC s n).toNat

/-- what is left behind k terms -/
def skip (s : Sg) : Nat → List Int → Option (List Int)
  | 0, l => some l
  | _ + 1, [] => none
  | k + 1, n :: r => if codeOk s n then skip s (k + ar s n) r else none

def okT (s : Sg) (t : List Int) : Bool := okSign s && (decide (1 ≤ t.length) && decide (t.length ≤ 60)) && decide (skip s 1 t = some [])

theorem skip_zero (s : Sg) (l : List Int) : skip s 0 l = some l := by cases l <;> rfl
theorem skip_nil (s : Sg) (k : Nat) : skip s (k + 1) [] = none := rfl
theorem skip_cons (s : Sg) (k : Nat) (n : Int) (r : List Int) : skip s (k + 1) (n :: r) = if codeOk s n then skip s (k + ar s n) r else none := rfl

theorem skip_add (s : Sg) (j k : Nat) (l : List Int) : skip s (j + k) l = (skip s j l).bind (skip s k) := by
  induction l generalizing j with
  | nil => cases j with
    | zero => simp [skip_zero]
    | succ j => rw [show j + 1 + k = (j + k) + 1 by omega]; rfl
  | cons n r ih => cases j with
    | zero => simp [skip_zero]
    | succ j =>
      rw [show j + 1 + k = (j + k) + 1 by omega, skip_cons, skip_cons]
      split
      · rw [show j + k + ar s n = j + ar s n + k by omega, ih]
      · rfl

theorem skip_append (s : Sg) (k : Nat) (l x : List Int) (r : List Int) (h : skip s k l = some r) : skip s k (l ++ x) = some (r ++ x) := by
  induction l generalizing k with
  | nil => cases k with
    | zero => simp only [skip_zero, Option.some.injEq] at h ⊢; rw [← h]
    | succ k => simp [skip_nil] at h
  | cons n t ih => cases k with
    | zero => simp only [skip_zero, Option.some.injEq] at h ⊢; rw [← h]
    | succ k =>
      rw [skip_cons] at h
      rw [List.cons_append, skip_cons]
      split at h
      · rw [if_pos ‹_›]; exact ih _ h
      · cases h

theorem skip_split (s : Sg) (k : Nat) (l r : List Int) (h : skip s k l = some r) : ∃ u, l = u ++ r ∧ skip s k u = some [] ∧ k ≤ u.length := by
  induction l generalizing k with
  | nil => cases k with
    | zero => simp only [skip_zero, Option.some.injEq] at h; subst h; exact ⟨[], rfl, rfl, Nat.le_refl _⟩
    | succ k => simp [skip_nil] at h
  | cons n t ih => cases k with
    | zero => simp only [skip_zero, Option.some.injEq] at h; subst h; exact ⟨[], rfl, rfl, Nat.zero_le _⟩
    | succ k =>
      rw [skip_cons] at h
      split at h
      · rename_i hc
        obtain ⟨u, rfl, hu, hl⟩ := ih _ h
        exact ⟨n :: u, rfl, by rw [skip_cons, if_pos hc, hu], by simp; omega⟩
      · cases h

theorem skip_len (s : Sg) (k : Nat) (l r : List Int) (h : skip s k l = some r) : r.length + k ≤ l.length := by
  obtain ⟨u, rfl, _, hl⟩ := skip_split s k l r h
  simp; omega

/-! ### where a term ends, and its depth -/
def endOf (s : Sg) (t : List Int) (k : Int) : Int :=
  if 0 ≤ k ∧ k < t.length then (match skip s 1 (t.drop k.toNat) with | some r => (t.length : Int) - r.length | none => -1) else -1
def depArgs (g : List Int → Nat) (s : Sg) : Nat → List Int → Nat
  | 0, _ => 0
  | k + 1, l => max (g l) (depArgs g s k ((skip s 1 l).getD []))
def dep (s : Sg) : Nat → List Int → Nat
  | 0, _ => 0
  | _ + 1, [] => 0
  | f + 1, n :: r => depArgs (dep s f) s (ar s n) r + 1

theorem depArgs_le (g : List Int → Nat) (s : Sg) (B : Nat) (hg : ∀ l, g l ≤ B) : ∀ k l, depArgs g s k l ≤ B
  | 0, _ => Nat.zero_le _
  | k + 1, l => by unfold depArgs; have := depArgs_le g s B hg k ((skip s 1 l).getD []); have := hg l; omega
theorem dep_le (s : Sg) : ∀ f l, dep s f l ≤ f
  | 0, _ => Nat.le_refl _
  | f + 1, [] => Nat.zero_le _
  | f + 1, n :: r => by unfold dep; have := depArgs_le (dep s f) s f (dep_le s f) (ar s n) r; omega
theorem depArgs_congr (g g' : List Int → Nat) (s : Sg) (B : Nat) (h : ∀ l, l.length ≤ B → g l = g' l) : ∀ k l, l.length ≤ B → depArgs g s k l = depArgs g' s k l
  | 0, _, _ => rfl
  | k + 1, l, hl => by
    unfold depArgs
    rw [h l hl, depArgs_congr g g' s B h k]
    cases hs : skip s 1 l with
    | none => simp
    | some r => have := skip_len s 1 l r hs; simp; omega
theorem dep_fuel (s : Sg) : ∀ f f' l, l.length ≤ f → l.length ≤ f' → dep s f l = dep s f' l
  | 0, 0, _, _, _ => rfl
  | 0, _ + 1, [], _, _ => rfl
  | _ + 1, 0, [], _, _ => rfl
  | _ + 1, _ + 1, [], _, _ => rfl
  | 0, _ + 1, _ :: _, h, _ => by simp at h
  | _ + 1, 0, _ :: _, _, h => by simp at h
  | f + 1, f' + 1, n :: r, h, h' => by
    unfold dep
    simp at h h'
    rw [depArgs_congr (dep s f) (dep s f') s r.length (fun l hl => dep_fuel s f f' l (by omega) (by omega)) _ _ (Nat.le_refl _)]
def depth (s : Sg) (t : List Int) : Nat := dep s t.length t

theorem endOf_out (s : Sg) (t : List Int) (k : Int) (h : ¬ (0 ≤ k ∧ k < t.length)) : endOf s t k = -1 := by rw [endOf, if_neg h]
theorem endOf_some (s : Sg) (t : List Int) (p : Nat) (r : List Int) (h : skip s 1 (t.drop p) = some r) : endOf s t p = (t.length - r.length : Nat) ∧ t.drop (t.length - r.length) = r ∧ p < t.length - r.length ∧ t.length - r.length ≤ t.length := by
  have hl := skip_len s 1 _ r h
  obtain ⟨u, hu, _, h1⟩ := skip_split s 1 _ r h
  simp at hl
  have e1 : u.length + r.length = t.length - p := by rw [← List.length_drop, hu, List.length_append]
  refine ⟨?_, ?_, by omega, by omega⟩
  · rw [endOf, if_pos ⟨by omega, by omega⟩, Int.toNat_natCast, h]; simp; omega
  · rw [show t.length - r.length = p + u.length by omega, ← List.drop_drop, hu]; simp
theorem endOf_none (s : Sg) (t : List Int) (p : Nat) (h : skip s 1 (t.drop p) = none) : endOf s t p = -1 := by
  unfold endOf
  split
  · rw [Int.toNat_natCast, h]
  · rfl
theorem endOf_cases (s : Sg) (t : List Int) (k : Int) : endOf s t k = -1 ∨ (0 ≤ k ∧ k < endOf s t k ∧ endOf s t k ≤ t.length) := by
  by_cases h : 0 ≤ k ∧ k < t.length
  · obtain ⟨p, rfl⟩ := Int.eq_ofNat_of_zero_le h.1
    cases hs : skip s 1 (t.drop p) with
    | none => exact .inl (endOf_none s t p hs)
    | some r => obtain ⟨h1, _, h3, h4⟩ := endOf_some s t p r hs; right; rw [h1]; omega
  · exact .inl (endOf_out s t k h)

/-- the loop over the arguments: what is known behind j of them -/
def EndInv (s : Sg) (t : List Int) (F m k : Nat) (next : Int) (deep j : Nat) : Prop :=
  deep ≤ F ∧ ((∃ p : Nat, next = p ∧ p ≤ t.length ∧ k < p ∧ skip s (m - j) (t.drop p) = skip s m (t.drop (k + 1)) ∧ (skip s m (t.drop (k + 1)) ≠ none → max deep (depArgs (dep s F) s (m - j) (t.drop p)) = depArgs (dep s F) s m (t.drop (k + 1)))) ∨
    (next = -1 ∧ skip s m (t.drop (k + 1)) = none))
theorem EndInv.start (s : Sg) (t : List Int) (F m k : Nat) (hk : k < t.length) : EndInv s t F m k ((k : Int) + 1) 0 0 :=
  ⟨Nat.zero_le _, .inl ⟨k + 1, by omega, by omega, by omega, by simp, by simp⟩⟩
theorem EndInv.next {s : Sg} {t : List Int} {F m k : Nat} {next : Int} {deep j : Nat} (h : EndInv s t F m k next deep j) : (k : Int) < next ∧ next ≤ t.length ∨ next = -1 := by
  rcases h.2 with ⟨p, rfl, h1, h2, _⟩ | ⟨rfl, _⟩
  · left; omega
  · right; rfl
theorem EndInv.step {s : Sg} {t : List Int} {F m k : Nat} {next : Int} {deep j d : Nat} (h : EndInv s t F m k next deep j) (hj : j < m) (hF : t.length - (k + 1) ≤ F) (hd : d ≤ F)
    (hdep : endOf s t next ≠ -1 → ∀ G, t.length - next.toNat ≤ G → d = dep s G (t.drop next.toNat)) : EndInv s t F m k (endOf s t next) (max deep d) (j + 1) := by
  refine ⟨by have := h.1; omega, ?_⟩
  rcases h.2 with ⟨p, rfl, h1, h2, h3, h4⟩ | ⟨rfl, h5⟩
  · have em : m - j = 1 + (m - (j + 1)) := by omega
    rw [em, skip_add] at h3
    cases hs : skip s 1 (t.drop p) with
    | none => right; rw [hs] at h3; exact ⟨endOf_none s t p hs, h3.symm⟩
    | some r =>
      obtain ⟨g1, g2, g3, g4⟩ := endOf_some s t p r hs
      left
      rw [hs] at h3
      refine ⟨t.length - r.length, g1, g4, by omega, by rw [g2]; exact h3, fun hne => ?_⟩
      rw [← h4 hne, g2]
      have e2 : depArgs (dep s F) s (m - j) (t.drop p) = max (dep s F (t.drop p)) (depArgs (dep s F) s (m - (j + 1)) r) := by
        rw [show m - j = (m - (j + 1)) + 1 by omega, depArgs, hs]; rfl
      have e3 : d = dep s F (t.drop p) := hdep (by rw [g1]; omega) F (by simp; omega)
      rw [e2, e3]; omega
  · right; exact ⟨endOf_out s t _ (by omega), h5⟩
theorem EndInv.done {s : Sg} {t : List Int} {F k : Nat} {n : Int} {next : Int} {deep : Nat} (hk : k < t.length) (hn : t[k] = n) (hc : codeOk s n = true) (h : EndInv s t F (ar s n) k next deep (ar s n)) (hF : t.length - (k + 1) ≤ F) :
    endOf s t k = next ∧ (next ≠ -1 → ∀ G, t.length - k ≤ G → deep + 1 = dep s G (t.drop k)) := by
  have ed : t.drop k = n :: t.drop (k + 1) := by rw [List.drop_eq_getElem_cons hk, hn]
  have es : skip s 1 (t.drop k) = skip s (ar s n) (t.drop (k + 1)) := by rw [ed, skip_cons, if_pos hc, Nat.zero_add]
  rcases h.2 with ⟨p, rfl, h1, h2, h3, h4⟩ | ⟨rfl, h5⟩
  · rw [Nat.sub_self, skip_zero] at h3
    obtain ⟨g1, g2, g3, g4⟩ := endOf_some s t k (t.drop p) (by rw [es, h3])
    refine ⟨by rw [g1]; simp; omega, fun _ G hG => ?_⟩
    obtain ⟨G', rfl⟩ : ∃ G', G = G' + 1 := ⟨G - 1, by omega⟩
    rw [ed, dep]
    have h5 := h4 (by rw [← h3]; simp)
    simp [depArgs] at h5
    rw [h5, depArgs_congr (dep s G') (dep s F) s (t.length - (k + 1)) (fun l hl => dep_fuel s _ _ l (by omega) (by omega)) _ _ (by simp)]
  · exact ⟨endOf_none s t k (by rw [es, h5]), fun h => (h rfl).elim⟩
theorem endOf_bad (s : Sg) (t : List Int) (k : Nat) (hk : k < t.length) (hc : codeOk s t[k] = false) : endOf s t k = -1 :=
  endOf_none s t k (by rw [List.drop_eq_getElem_cons hk, skip_cons, hc]; rfl)

theorem arC_ok {s : Sg} (hs : okSign s = true) {n : Int} (hc : codeOk s n = true) : arC s n = ar s n ∧ ar s n ≤ 3 := by
  unfold ar
  simp only [codeOk, Bool.or_eq_true, decide_eq_true_eq] at hc
  simp only [okSign, Bool.and_eq_true, List.all_eq_true, decide_eq_true_eq] at hs
  unfold arC
  split
  · simp
  · rename_i h1
    have h2 : 0 ≤ n ∧ n < s.length := by omega
    rw [if_pos h2, List.getD_eq_getElem?_getD, List.getElem?_eq_getElem (by omega)]
    have := hs.1.1.2 _ (List.getElem_mem (by omega : n.toNat < s.length))
    simp only [entOk, Bool.and_eq_true, decide_eq_true_eq] at this
    simp; omega
theorem arC_bad {s : Sg} {n : Int} (hc : codeOk s n = false) : arC s n = -1 := by
  simp only [codeOk, Bool.or_eq_false_iff, decide_eq_false_iff_not] at hc
  rw [arC, if_neg hc.1, if_neg hc.2]

/-! ### variables and canonical forms -/
def addV (acc : List Int) (n : Int) : List Int := if n < 0 ∧ n ∉ acc then acc ++ [n] else acc
/-- the numbers of the variables, in the order in which they come for the first time -/
def varsC (t : List Int) : List Int := t.foldl addV []
def canonW (v : List Int) (n : Int) : Int := if 0 ≤ n then n else -(v.idxOf n : Int) - 1
def canon (t : List Int) : List Int := t.map (canonW (varsC t))
def flat (t : List Int) : List Int := t.map (fun n => if n < 0 then -1 else n)

theorem varsC_take_succ {t : List Int} {k : Nat} (h : k < t.length) : varsC (t.take (k + 1)) = addV (varsC (t.take k)) t[k] := by
  unfold varsC
  rw [List.take_succ_eq_append_getElem h, List.foldl_append]; rfl
theorem addV_mem {acc : List Int} {n x : Int} : x ∈ addV acc n ↔ x ∈ acc ∨ (x = n ∧ n < 0) := by
  unfold addV
  split
  · rename_i h; simp [h.1]
  · rename_i h
    constructor
    · exact .inl
    · rintro (h' | ⟨rfl, hn⟩)
      · exact h'
      · exact Classical.byContradiction (fun hc => h ⟨hn, hc⟩)
theorem foldl_addV_prefix (t : List Int) : ∀ acc : List Int, acc <+: t.foldl addV acc := by
  induction t with
  | nil => intro acc; exact List.prefix_refl _
  | cons n r ih =>
    intro acc
    rw [List.foldl_cons]
    refine List.IsPrefix.trans ?_ (ih _)
    unfold addV
    split
    · exact List.prefix_append _ _
    · exact List.prefix_refl _
theorem varsC_prefix (t : List Int) (k : Nat) : varsC (t.take k) <+: varsC t := by
  conv => rhs; rw [← List.take_append_drop k t]
  unfold varsC
  rw [List.foldl_append]
  exact foldl_addV_prefix _ _
theorem mem_foldl_addV (t : List Int) (x : Int) : ∀ acc : List Int, x ∈ t.foldl addV acc ↔ x ∈ acc ∨ (x ∈ t ∧ x < 0) := by
  induction t with
  | nil => intro acc; simp
  | cons n r ih =>
    intro acc
    rw [List.foldl_cons, ih, addV_mem]
    constructor
    · rintro ((h | ⟨rfl, h⟩) | ⟨h, h'⟩)
      · exact .inl h
      · exact .inr ⟨by simp, h⟩
      · exact .inr ⟨by simp [h], h'⟩
    · rintro (h | ⟨h, h'⟩)
      · exact .inl (.inl h)
      · rcases List.mem_cons.1 h with rfl | h
        · exact .inl (.inr ⟨rfl, h'⟩)
        · exact .inr ⟨h, h'⟩
theorem mem_varsC {t : List Int} {x : Int} : x ∈ varsC t ↔ x ∈ t ∧ x < 0 := by
  unfold varsC; rw [mem_foldl_addV]; simp
theorem length_foldl_addV (t : List Int) : ∀ acc : List Int, (t.foldl addV acc).length ≤ acc.length + t.length := by
  induction t with
  | nil => intro acc; simp
  | cons n r ih =>
    intro acc
    rw [List.foldl_cons]
    have := ih (addV acc n)
    have h2 : (addV acc n).length ≤ acc.length + 1 := by unfold addV; split <;> simp
    simp; omega
theorem varsC_length (t : List Int) : (varsC t).length ≤ t.length := by have := length_foldl_addV t []; simpa [varsC] using this
theorem nodup_foldl_addV (t : List Int) : ∀ acc : List Int, acc.Nodup → (t.foldl addV acc).Nodup := by
  induction t with
  | nil => intro acc h; exact h
  | cons n r ih =>
    intro acc h
    rw [List.foldl_cons]
    apply ih
    unfold addV
    split
    · rename_i hn
      rw [List.nodup_append]
      refine ⟨h, by simp, ?_⟩
      intro a ha b hb hab
      simp at hb
      subst hb; subst hab
      exact hn.2 ha
    · exact h
theorem varsC_nodup (t : List Int) : (varsC t).Nodup := nodup_foldl_addV t [] (by simp)

theorem idxOf_app_mem {a c : List Int} {x : Int} (hx : x ∈ a) : (a ++ c).idxOf x = a.idxOf x := by rw [List.idxOf_append, if_pos hx]
theorem idxOf_app_not {a c : List Int} {x : Int} (hx : x ∉ a) : (a ++ c).idxOf x = c.idxOf x + a.length := by rw [List.idxOf_append, if_neg hx]
theorem idxOf_prefix {a b : List Int} (h : a <+: b) {x : Int} (hx : x ∈ a) : b.idxOf x = a.idxOf x := by
  obtain ⟨c, rfl⟩ := h
  rw [idxOf_app_mem hx]

/-- what the program's map holds behind k numbers -/
def nameF (t : List Int) (k : Nat) (x : Int) : Option Int := if x ∈ varsC (t.take k) then some (-((varsC (t.take k)).idxOf x : Int) - 1) else none
theorem nameF_zero (t : List Int) : nameF t 0 = fun _ => none := by funext x; simp [nameF, varsC]
theorem nameF_old {t : List Int} {k : Nat} (h : k < t.length) (hv : 0 ≤ t[k] ∨ t[k] ∈ varsC (t.take k)) : nameF t (k + 1) = nameF t k ∧ (varsC (t.take (k + 1))).length = (varsC (t.take k)).length := by
  have : varsC (t.take (k + 1)) = varsC (t.take k) := by
    rw [varsC_take_succ h, addV, if_neg]
    rintro ⟨h1, h2⟩
    rcases hv with h' | h'
    · omega
    · exact h2 h'
  unfold nameF
  rw [this]; exact ⟨rfl, rfl⟩
theorem nameF_new {t : List Int} {k : Nat} (h : k < t.length) (hn : t[k] < 0) (hv : t[k] ∉ varsC (t.take k)) :
    nameF t (k + 1) = (fun z => if z = t[k] then some (-((varsC (t.take k)).length : Int) - 1) else nameF t k z) ∧ (varsC (t.take (k + 1))).length = (varsC (t.take k)).length + 1 := by
  have hs : varsC (t.take (k + 1)) = varsC (t.take k) ++ [t[k]] := by rw [varsC_take_succ h, addV, if_pos ⟨hn, hv⟩]
  unfold nameF
  rw [hs]
  refine ⟨?_, by simp⟩
  funext z
  by_cases hz : z = t[k]
  · subst hz
    rw [if_pos (by simp), if_pos rfl, idxOf_app_not hv]; simp
  · rw [if_neg hz]
    by_cases hm : z ∈ varsC (t.take k)
    · rw [if_pos (by simp [hm]), if_pos hm, idxOf_app_mem hm]
    · rw [if_neg (by simp [hm, hz]), if_neg hm]
theorem nameF_canonW {t : List Int} {k : Nat} {x : Int} (hx : x ∈ varsC (t.take k)) : nameF t k x = some (canonW (varsC t) x) := by
  unfold nameF canonW
  have h0 := (mem_varsC.1 hx).2
  rw [if_pos hx, if_neg (by omega), idxOf_prefix (varsC_prefix t k) hx]

/-- a list that is rewritten by f, one number after the other -/
def doneTo (f : Int → Int) (t : List Int) (k : Nat) : List Int := (t.take k).map f ++ t.drop k
theorem doneTo_zero (f : Int → Int) (t : List Int) : doneTo f t 0 = t := by simp [doneTo]
theorem doneTo_all (f : Int → Int) (t : List Int) (k : Nat) (h : t.length ≤ k) : doneTo f t k = t.map f := by
  unfold doneTo; rw [List.take_of_length_le h, List.drop_eq_nil_of_le h, List.append_nil]
theorem doneTo_length (f : Int → Int) (t : List Int) (k : Nat) : (doneTo f t k).length = t.length := by simp [doneTo]; omega
theorem doneTo_set {f : Int → Int} {t : List Int} {k : Nat} (h : k < t.length) : (doneTo f t k).set k (f t[k]) = doneTo f t (k + 1) := by
  unfold doneTo
  rw [List.set_append_right _ _ (by simp; exact Nat.min_le_left ..)]
  simp only [List.length_map, List.length_take, Nat.min_eq_left (Nat.le_of_lt h), Nat.sub_self]
  rw [List.drop_eq_getElem_cons h, List.set_cons_zero, List.take_succ_eq_append_getElem h, List.map_append]
  simp
theorem doneTo_same {f : Int → Int} {t : List Int} {k : Nat} (h : k < t.length) (hf : f t[k] = t[k]) : doneTo f t k = doneTo f t (k + 1) := by
  unfold doneTo
  rw [List.drop_eq_getElem_cons h, List.take_succ_eq_append_getElem h, List.map_append]
  simp [hf]
theorem doneTo_get {f : Int → Int} {t : List Int} {k : Nat} (h : k < t.length) : (doneTo f t k)[k]'(by rw [doneTo_length]; exact h) = t[k] := by
  unfold doneTo
  rw [List.getElem_append_right (by simp; exact Nat.min_le_left ..)]
  simp [Nat.min_eq_left (Nat.le_of_lt h)]

theorem canonW_pos {v : List Int} {n : Int} (h : 0 ≤ n) : canonW v n = n := by rw [canonW, if_pos h]
theorem canonW_neg {v : List Int} {n : Int} (h : n < 0) : canonW v n = -(v.idxOf n : Int) - 1 := by rw [canonW, if_neg (by omega)]
theorem canonW_bound {v : List Int} {n : Int} : canonW v n = n ∨ (-(v.length : Int) - 1 ≤ canonW v n ∧ canonW v n ≤ -1) := by
  unfold canonW
  split
  · exact .inl rfl
  · have := List.idxOf_le_length (l := v) (a := n)
    right; omega

def vnum (n : Int) : Int := -n - 1
def varsV (t : List Int) : List Int := (varsC t).map vnum
theorem vnum_inj {a b : Int} (h : vnum a = vnum b) : a = b := by unfold vnum at h; omega
theorem mem_map_vnum {l : List Int} {x : Int} : vnum x ∈ l.map vnum ↔ x ∈ l := by
  rw [List.mem_map]
  constructor
  · rintro ⟨y, hy, he⟩; rw [← vnum_inj he]; exact hy
  · intro h; exact ⟨x, h, rfl⟩
def tame (t : List Int) : Prop := ∀ x ∈ t, -1000000 ≤ x ∧ x ≤ 1000000
theorem skip_codes (s : Sg) (k : Nat) (l : List Int) (h : skip s k l = some []) : ∀ x ∈ l, codeOk s x = true := by
  induction l generalizing k with
  | nil => intro x hx; simp at hx
  | cons n r ih => cases k with
    | zero => simp [skip_zero] at h
    | succ k =>
      rw [skip_cons] at h
      split at h
      · rename_i hc
        intro x hx
        rcases List.mem_cons.1 hx with rfl | hx
        · exact hc
        · exact ih _ h x hx
      · cases h
theorem okT_parts {s : Sg} {t : List Int} (h : okT s t = true) : okSign s = true ∧ 1 ≤ t.length ∧ t.length ≤ 60 ∧ skip s 1 t = some [] := by
  simp only [okT, Bool.and_eq_true, decide_eq_true_eq] at h
  exact ⟨h.1.1, h.1.2.1, h.1.2.2, h.2⟩
theorem okSign_len {s : Sg} (h : okSign s = true) : 1 ≤ s.length ∧ s.length ≤ 12 := by
  simp only [okSign, Bool.and_eq_true, decide_eq_true_eq] at h
  exact ⟨h.1.1.1.1, h.1.1.1.2⟩
theorem codeOk_bd {s : Sg} (hs : okSign s = true) {x : Int} (h : codeOk s x = true) : -12 ≤ x ∧ x ≤ 11 := by
  have := okSign_len hs
  simp only [codeOk, Bool.or_eq_true, decide_eq_true_eq] at h
  omega
theorem okT_tame {s : Sg} {t : List Int} (h : okT s t = true) : tame t := by
  obtain ⟨h1, _, _, h4⟩ := okT_parts h
  intro x hx
  have := codeOk_bd h1 (skip_codes s 1 t h4 x hx)
  omega
theorem okT_ne {s : Sg} {t : List Int} (h : okT s t = true) : t ≠ [] := by
  obtain ⟨_, h1, _⟩ := okT_parts h
  intro e; subst e; simp at h1
end Go.Proofs.YtpmnnoopoblpgaaGreat
