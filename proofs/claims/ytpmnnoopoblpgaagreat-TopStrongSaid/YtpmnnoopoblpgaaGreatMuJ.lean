/- The proof of a statement, some of its texts joined in build order: part J. -/
import Derived.Test.YtpmnnoopoblpgaaGreatRegion
import Derived.OrdersIn
import Derived.TacticsIn
import Derived.Test.YtpmnnoopoblpgaaGreatMuP
import Derived.Test.YtpmnnoopoblpgaaGreatMuH
import Derived.Test.YtpmnnoopoblpgaaGreatMuE
import Derived.Test.YtpmnnoopoblpgaaGreatMuI
import Derived.Lib.SliceRun
/- A region that draws its order, in a round of a range over a function: walked outside the fence under one condition on the world, where no operation calls. No program is named. -/
namespace Go.Proofs.YtpmnnoopoblpgaaGreat
open Go Go.RowKit

section
variable {F : Fence} {n : Nat} {P : Program} {ops : Array Oper} {Q : Exit → Act → World → Prop}
end
end Go.Proofs.YtpmnnoopoblpgaaGreat

/- A library without one of its entries. No program is named. -/
namespace Go.Proofs.YtpmnnoopoblpgaaGreat

theorem okLib_prts {s : Sg} {l : List Ent} (h : okLib s l = true) : okSign s = true ∧ l.length ≤ 60 ∧ (∀ x ∈ l, okEnt s x = true) ∧ (l.map eNm).Nodup := by
 unfold okLib at h
 simp only [Bool.and_eq_true, decide_eq_true_eq, List.all_eq_true] at h
 exact ⟨h.1, h.2.1, h.2.2.1, h.2.2.2⟩
theorem erase_ok {s : Sg} {l : List Ent} (h : okLib s l = true) (i : Nat) : okLib s (l.eraseIdx i) = true := by
 obtain ⟨h1, h2, h3, h4⟩ := okLib_prts h
 have hs := List.eraseIdx_sublist l i
 unfold okLib
 rw [h1, decide_eq_true (Nat.le_trans hs.length_le h2), decide_eq_true ((hs.map eNm).nodup h4), Bool.true_and, Bool.true_and, Bool.and_true, List.all_eq_true]
 exact fun x hx => h3 x (hs.subset hx)
theorem chB_at {l : List Ent} (hd : (l.map eNm).Nodup) {pd : Nat → Bool} {x : ByteArray} : chB l pd x = (match atN l x with | some i => pd i | none => false) := by
 cases hat : atN l x with
 | none =>
  simp only
  cases h : chB l pd x with
  | false => rfl
  | true =>
   obtain ⟨i, hi, -, e⟩ := chB_iff.1 h
   exact (atN_none hat _ (List.getElem_mem hi) e).elim
 | some i =>
  simp only
  obtain ⟨hi, e⟩ := atN_some hat
  rw [Bool.eq_iff_iff, chB_iff]
  constructor
  ·rintro ⟨j, hj, h1, h2⟩
   have := atN_at hd hj
   rw [h2, hat] at this
   injection this with this
   rw [this]; exact h1
  ·exact fun h => ⟨i, hi, h, e⟩
end Go.Proofs.YtpmnnoopoblpgaaGreat

/- The order of a library: it is whole exactly where there is no circle. No program is named. -/
namespace Go.Proofs.YtpmnnoopoblpgaaGreat

def nextO (l : List Ent) (T : List ByteArray) (i : Nat) : Bool := !memB T (nmI l i) && (usI l i).all (memB T)
inductive OrdR (l : List Ent) : List Nat → List Nat → Prop
 | stop {T : List Nat} : (∀ i, i < l.length → nextO l (T.map (nmI l)) i = false) → OrdR l T T
 | step {T C : List Nat} {i : Nat} : i < l.length → nextO l (T.map (nmI l)) i = true → (∀ j, j < i → nextO l (T.map (nmI l)) j = false) → OrdR l (T ++ [i]) C → OrdR l T C
theorem OrdR.det {l : List Ent} {T C C' : List Nat} (h : OrdR l T C) (k : OrdR l T C') : C = C' := by
 induction h generalizing C' with
 | stop h1 => cases k with
  | stop => rfl
  | step k1 k2 => rw [h1 _ k1] at k2; cases k2
 | step h1 h2 h3 _ ih => cases k with
  | stop k1 => rw [k1 _ h1] at h2; cases h2
  | step k1 k2 k3 k4 =>
   rename_i i _ i'
   have e : i = i' := by
    rcases Nat.lt_trichotomy i i' with e | e | e
    ·rw [k3 _ e] at h2; cases h2
    ·exact e
    ·rw [h3 _ e] at k2; cases k2
   subst e
   exact ih k4
structure OrdS (l : List Ent) (T : List Nat) : Prop where
 nd : T.Nodup
 lt : ∀ i ∈ T, i < l.length
 dn : ∀ t (ht : t < T.length), ∀ u ∈ usI l T[t], u ∈ (T.take t).map (nmI l)
theorem OrdS.nil (l : List Ent) : OrdS l [] := ⟨List.nodup_nil, (fun i h => by cases h), (fun t h => absurd h (Nat.not_lt_zero _))⟩
theorem OrdS.step {l : List Ent} {T : List Nat} {i : Nat} (h : OrdS l T) (hi : i < l.length) (hn : nextO l (T.map (nmI l)) i = true) : OrdS l (T ++ [i]) := by
 unfold nextO at hn
 rw [Bool.and_eq_true, List.all_eq_true] at hn
 have hni : i ∉ T := fun hm => by
  have := memB_iff.2 (List.mem_map.2 (⟨i, hm, rfl⟩ : ∃ a, a ∈ T ∧ nmI l a = nmI l i))
  rw [this] at hn; simp at hn
 refine ⟨?_, fun j hj => ?_, fun t ht u hu => ?_⟩
 ·rw [List.nodup_append]
  exact ⟨h.nd, by simp, fun a ha b hb e => hni (by rw [List.mem_singleton] at hb; rw [← hb, ← e]; exact ha)⟩
 ·rcases List.mem_append.1 hj with e | e
  ·exact h.lt j e
  ·rw [List.mem_singleton] at e; rw [e]; exact hi
 ·by_cases e : t < T.length
  ·rw [List.getElem_append_left e] at hu
   rw [List.take_append_of_le_length (by omega)]
   exact h.dn t e u hu
  ·have e2 : t = T.length := by simp at ht; omega
   subst e2
   rw [List.getElem_append_right (Nat.le_refl _)] at hu
   simp at hu
   rw [List.take_left']
   ·exact memB_iff.1 (hn.2 u hu)
   ·rfl
theorem OrdS.size {l : List Ent} {T : List Nat} (h : OrdS l T) : T.length ≤ l.length := by
 have := nodupLe (m := List.range l.length) h.nd (fun x hx => List.mem_range.2 (h.lt x hx))
 rwa [List.length_range] at this
theorem OrdS.rch {l : List Ent} (hd : (l.map eNm).Nodup) {T : List Nat} (h : OrdS l T) {may : ByteArray → Prop} : ∀ t (ht : t < T.length) {u : ByteArray}, Rch (usesN l) may (nmI l T[t]) u → u ∈ (T.take t).map (nmI l) := by
 intro t ht u hr
 have hus : ∀ q (hq : q < T.length) v, v ∈ usesN l (nmI l T[q]) → v ∈ (T.take q).map (nmI l) := fun q hq v hv => by
  rw [usesN_nmI hd (h.lt _ (List.getElem_mem hq))] at hv
  exact h.dn q hq v hv
 induction hr with
 | one h1 _ => exact hus t ht _ h1
 | more _ h1 _ ih =>
  obtain ⟨q, hq, e⟩ := List.mem_map.1 ih
  obtain ⟨j, hj, rfl⟩ := List.getElem_of_mem hq
  rw [List.length_take] at hj
  rw [List.getElem_take] at e
  rw [← e] at h1
  have := hus j (by omega) _ h1
  obtain ⟨p, hp, e2⟩ := List.mem_map.1 this
  exact List.mem_map.2 ⟨p, (List.take_subset_take_left _ (by omega)) hp, e2⟩
theorem rch_back {us : ByteArray → List ByteArray} {may : ByteArray → Prop} {n y : ByteArray} (h : Rch us may n y) : Rch us (fun z => Rch us may n z ∧ (z = y ∨ Rch us may z y)) n y := by
 induction h with
 | one h1 h2 => exact .one h1 ⟨.one h1 h2, .inl rfl⟩
 | more h0 h1 h2 ih =>
  refine (ih.mono fun z hz => ⟨hz.1, ?_⟩).more h1 ⟨h0.more h1 h2, .inl rfl⟩
  rcases hz.2 with e | e
  ·subst e; exact .inr (.one h1 h2)
  ·exact .inr (e.more h1 h2)
theorem cycle_of {us : ByteArray → List ByteArray} {R : List ByteArray} (hne : R ≠ []) (hon : ∀ a ∈ R, ∃ b ∈ R, b ∈ us a) : ∃ y ∈ R, Rch us (fun _ => True) y y := by
 by_cases hex : ∃ y ∈ R, Rch us (fun _ => True) y y
 ·exact hex
 ·exfalso
  have long : ∀ n, ∃ L : List ByteArray, ∃ b, L.length = n ∧ (∀ x ∈ L, x ∈ R) ∧ b ∈ R ∧ L.Pairwise (fun a b => Rch us (fun _ => True) a b) ∧ ∀ a ∈ L, Rch us (fun _ => True) a b := by
   intro n
   induction n with
   | zero =>
    obtain ⟨r, hr⟩ := List.exists_mem_of_ne_nil R hne
    exact ⟨[], r, rfl, (fun x h => by cases h), hr, List.Pairwise.nil, (fun a h => by cases h)⟩
   | succ n ih =>
    obtain ⟨L, b, h1, h2, h3, h4, h5⟩ := ih
    obtain ⟨c, hc, hu⟩ := hon b h3
    refine ⟨L ++ [b], c, by simp [h1], fun x hx => ?_, hc, ?_, fun a ha => ?_⟩
    ·rcases List.mem_append.1 hx with e | e
     ·exact h2 x e
     ·rw [List.mem_singleton] at e; rw [e]; exact h3
    ·rw [List.pairwise_append]
     exact ⟨h4, List.pairwise_singleton _ _, fun a ha d hd => by rw [List.mem_singleton] at hd; rw [hd]; exact h5 a ha⟩
    ·rcases List.mem_append.1 ha with e | e
     ·exact (h5 a e).more hu trivial
     ·rw [List.mem_singleton] at e; rw [e]; exact .one hu trivial
  obtain ⟨L, b, h1, h2, -, h4, -⟩ := long (R.length + 1)
  have hn : L.Nodup := by
   have : L.Pairwise (fun a b => a ≠ b) := by
    rw [List.pairwise_iff_getElem] at h4 ⊢
    intro i j hi hj hij e
    have := h4 i j hi hj hij
    rw [e] at this
    exact hex ⟨_, h2 _ (List.getElem_mem hj), this⟩
   exact this
  have := nodupLe hn h2
  omega
theorem least_ex {P : ByteArray → Prop} : ∀ (R : List ByteArray), (∃ x ∈ R, P x) → ∃ x ∈ R, P x ∧ ∀ y ∈ R, P y → x = y ∨ ltN x y := by
 intro R h
 induction R with
 | nil => obtain ⟨x, hx, -⟩ := h; cases hx
 | cons a R ih =>
  by_cases hr : ∃ x ∈ R, P x
  ·obtain ⟨x, hx, h1, h2⟩ := ih hr
   by_cases ha : P a
   ·rcases ltN_tri a x with e | e | e
    ·refine ⟨a, by simp, ha, fun y hy hp => ?_⟩
     rcases List.mem_cons.1 hy with e2 | e2
     ·exact .inl e2.symm
     ·rcases h2 y e2 hp with e3 | e3
      ·rw [← e3]; exact .inr e
      ·exact .inr (ltN_tr _ _ _ e e3)
    ·refine ⟨x, by simp [hx], h1, fun y hy hp => ?_⟩
     rcases List.mem_cons.1 hy with e2 | e2
     ·rw [e2, e]; exact .inl rfl
     ·exact h2 y e2 hp
    ·refine ⟨x, by simp [hx], h1, fun y hy hp => ?_⟩
     rcases List.mem_cons.1 hy with e2 | e2
     ·rw [e2]; exact .inr e
     ·exact h2 y e2 hp
   ·refine ⟨x, by simp [hx], h1, fun y hy hp => ?_⟩
    rcases List.mem_cons.1 hy with e2 | e2
    ·rw [e2] at hp; exact (ha hp).elim
    ·exact h2 y e2 hp
  ·obtain ⟨x, hx, h1⟩ := h
   rcases List.mem_cons.1 hx with e | e
   ·subst e
    refine ⟨x, by simp, h1, fun y hy hp => ?_⟩
    rcases List.mem_cons.1 hy with e2 | e2
    ·exact .inl e2.symm
    ·exact (hr ⟨y, e2, hp⟩).elim
   ·exact (hr ⟨x, e, h1⟩).elim
theorem inL_of_uses {l : List Ent} {m v : ByteArray} (h : v ∈ usesN l m) : m ∈ l.map eNm := by
 unfold usesN at h
 cases hat : atN l m with
 | none => rw [hat] at h; cases h
 | some k =>
  obtain ⟨hk, e⟩ := atN_some hat
  exact List.mem_map.2 ⟨l[k], List.getElem_mem hk, e⟩
theorem loop_ex {l : List Ent} {y : ByteArray} (h : Rch (usesN l) (fun _ => True) y y) : ∃ x ∈ l.map eNm, loopB l x = true := by
 have hin : ∀ z, Rch (usesN l) (fun _ => True) z y → z ∈ l.map eNm := fun z hz => by
  obtain ⟨v, hv, -⟩ := hz.head
  exact inL_of_uses hv
 obtain ⟨x, hx, ⟨h1, h2⟩, hle⟩ := least_ex (P := fun z => Rch (usesN l) (fun _ => True) y z ∧ Rch (usesN l) (fun _ => True) z y) (l.map eNm) ⟨y, hin y h, h, h⟩
 refine ⟨x, hx, ?_⟩
 unfold loopB
 rw [rchB_iff]
 refine (rch_back (h2.trans h1)).mono fun z hz => ?_
 have hzx : Rch (usesN l) (fun _ => True) z x := by
  rcases hz.2 with e | e
  ·rw [e]; exact h2.trans h1
  ·exact e
 have hzy := hzx.trans h2
 unfold geB
 cases e : ltB z x with
 | false => rfl
 | true =>
  exfalso
  rcases hle z (hin z hzy) ⟨h1.trans hz.1, hzy⟩ with e1 | e1
  ·rw [e1] at e; exact ltN_irr _ (ltB_iff.1 e)
  ·exact ltN_irr _ (ltN_tr _ _ _ e1 (ltB_iff.1 e))
theorem ord_loop {l : List Ent} (hd : (l.map eNm).Nodup) (hm : ∀ x ∈ l, ∀ u ∈ eUses x, (atN l u).isSome = true) {T : List Nat} (h : OrdS l T) (hs : ∀ i, i < l.length → nextO l (T.map (nmI l)) i = false) :
  (T.length < l.length) ↔ ∃ x ∈ l.map eNm, loopB l x = true := by
 constructor
 ·intro hlt
  have hR : ((List.range l.length).filter (fun i => decide (i ∉ T))).map (nmI l) ≠ [] := by
   intro e
   rw [List.map_eq_nil_iff, List.filter_eq_nil_iff] at e
   have := nodupLe (l := List.range l.length) (m := T) List.nodup_range (fun x hx => by have := e x hx; simpa using this)
   rw [List.length_range] at this
   omega
  obtain ⟨y, -, hy⟩ := cycle_of (us := usesN l) hR (fun a ha => by
   obtain ⟨i, hi, rfl⟩ := List.mem_map.1 ha
   rw [List.mem_filter, List.mem_range, decide_eq_true_eq] at hi
   have := hs i hi.1
   unfold nextO at this
   have hni : memB (T.map (nmI l)) (nmI l i) = false := by
    cases e : memB (T.map (nmI l)) (nmI l i) with
    | false => rfl
    | true =>
     obtain ⟨j, hj, e2⟩ := List.mem_map.1 (memB_iff.1 e)
     have a1 := atN_nmI hd (h.lt j hj)
     rw [e2, atN_nmI hd hi.1] at a1
     injection a1 with a1
     exact (hi.2 (by rw [a1]; exact hj)).elim
   rw [hni, Bool.not_false, Bool.true_and, List.all_eq_false] at this
   obtain ⟨u, hu, hnu⟩ := this
   have hu' := hu
   rw [usI_at hi.1] at hu'
   have := hm _ (List.getElem_mem hi.1) u hu'
   cases hat : atN l u with
   | none => rw [hat] at this; cases this
   | some k =>
    obtain ⟨hk, e⟩ := nmI_of hat
    refine ⟨u, List.mem_map.2 ⟨k, List.mem_filter.2 ⟨List.mem_range.2 hk, ?_⟩, e⟩, by rw [usesN_nmI hd hi.1]; exact hu⟩
    rw [decide_eq_true_eq]
    exact fun hkT => hnu (memB_iff.2 (List.mem_map.2 ⟨k, hkT, e⟩)))
  exact loop_ex hy
 ·rintro ⟨x, hx, hl⟩
  have := h.size
  rcases Nat.lt_or_ge T.length l.length with e | e
  ·exact e
  ·exfalso
   obtain ⟨z, hz, e1⟩ := List.mem_map.1 hx
   obtain ⟨i, hi, rfl⟩ := List.getElem_of_mem hz
   have hiT : i ∈ T := by
    by_cases hc : i ∈ T
    ·exact hc
    ·exfalso
     have := nodupLe (l := i :: T) (m := List.range l.length) (List.nodup_cons.2 ⟨hc, h.nd⟩) (fun x hx => by
      rcases List.mem_cons.1 hx with e | e
      ·rw [e]; exact List.mem_range.2 hi
      ·exact List.mem_range.2 (h.lt x e))
     rw [List.length_cons, List.length_range] at this
     omega
   obtain ⟨t, ht, e2⟩ := List.getElem_of_mem hiT
   unfold loopB at hl
   rw [rchB_iff] at hl
   have e3 : nmI l T[t] = x := by rw [e2, nmI_at hi, e1]
   rw [← e3] at hl
   have := h.rch hd t ht hl
   obtain ⟨p, hp, e4⟩ := List.mem_map.1 this
   obtain ⟨q, hq, e5⟩ := List.getElem_of_mem hp
   rw [List.length_take] at hq
   rw [List.getElem_take] at e5
   have a1 := atN_nmI hd (h.lt p (List.mem_of_mem_take hp))
   rw [e4, atN_nmI hd (h.lt _ (List.getElem_mem ht))] at a1
   injection a1 with a1
   have := (List.getElem_inj (xs := T) (h₀ := by omega) (h₁ := ht) h.nd).1 (e5.trans a1.symm)
   omega
end Go.Proofs.YtpmnnoopoblpgaaGreat

/- The order of a library, round by round. No program is named. -/
namespace Go.Proofs.YtpmnnoopoblpgaaGreat

def findO (l : List Ent) (T : List Nat) : Option Nat := (List.range l.length).find? (nextO l (T.map (nmI l)))
def stepO (l : List Ent) (T : List Nat) : List Nat := match findO l T with | some i => T ++ [i] | none => T
def itO (l : List Ent) : Nat → List Nat
 | 0 => []
 | k + 1 => stepO l (itO l k)
def ordL (l : List Ent) : List Nat := itO l l.length
theorem findO_some {l : List Ent} {T : List Nat} {i : Nat} : findO l T = some i ↔ i < l.length ∧ nextO l (T.map (nmI l)) i = true ∧ ∀ j, j < i → nextO l (T.map (nmI l)) j = false := by
 unfold findO
 constructor
 ·intro h
  rw [List.find?_eq_some_iff_getElem] at h
  obtain ⟨h1, k, hk, rfl, h2⟩ := h
  rw [List.length_range] at hk
  rw [List.getElem_range] at h1 ⊢
  refine ⟨hk, h1, fun j hj => ?_⟩
  have := h2 j hj
  rw [List.getElem_range] at this
  cases e : nextO l (T.map (nmI l)) j with
  | false => rfl
  | true => rw [e] at this; cases this
 ·rintro ⟨h1, h2, h3⟩
  rw [List.find?_eq_some_iff_getElem]
  refine ⟨h2, i, by rw [List.length_range]; exact h1, List.getElem_range _, fun j hj => ?_⟩
  rw [List.getElem_range, h3 j hj]
  rfl
theorem findO_none {l : List Ent} {T : List Nat} : findO l T = none ↔ ∀ i, i < l.length → nextO l (T.map (nmI l)) i = false := by
 unfold findO
 rw [List.find?_eq_none]
 constructor
 ·intro h i hi
  have := h i (List.mem_range.2 hi)
  cases e : nextO l (T.map (nmI l)) i with
  | false => rfl
  | true => exact (this e).elim
 ·intro h i hi
  rw [h i (List.mem_range.1 hi)]
  simp
theorem stepO_some {l : List Ent} {T : List Nat} {i : Nat} (h : findO l T = some i) : stepO l T = T ++ [i] := by unfold stepO; rw [h]
theorem stepO_none {l : List Ent} {T : List Nat} (h : findO l T = none) : stepO l T = T := by unfold stepO; rw [h]
theorem itO_ord (l : List Ent) : ∀ k, OrdS l (itO l k)
 | 0 => OrdS.nil l
 | k + 1 => by
  show OrdS l (stepO l (itO l k))
  cases e : findO l (itO l k) with
  | none => rw [stepO_none e]; exact itO_ord l k
  | some i =>
   rw [stepO_some e]
   obtain ⟨h1, h2, -⟩ := findO_some.1 e
   exact (itO_ord l k).step h1 h2
theorem itO_stuck {l : List Ent} {k : Nat} (h : findO l (itO l k) = none) : ∀ m, itO l (k + m) = itO l k
 | 0 => rfl
 | m + 1 => by
  show stepO l (itO l (k + m)) = _
  rw [itO_stuck h m, stepO_none h]
theorem ordL_of {l : List Ent} {k : Nat} (h : findO l (itO l k) = none) (hk : k ≤ l.length) : ordL l = itO l k := by
 have := itO_stuck h (l.length - k)
 rwa [Nat.add_sub_cancel' hk] at this
theorem itO_len (l : List Ent) : ∀ k, (itO l k).length = k ∨ ∃ j, j ≤ k ∧ findO l (itO l j) = none
 | 0 => .inl rfl
 | k + 1 => by
  rcases itO_len l k with h | ⟨j, h1, h2⟩
  ·cases e : findO l (itO l k) with
   | none => exact .inr ⟨k, Nat.le_succ _, e⟩
   | some i =>
    refine .inl ?_
    show (stepO l (itO l k)).length = k + 1
    rw [stepO_some e, List.length_append, h]; rfl
  ·exact .inr ⟨j, Nat.le_succ_of_le h1, h2⟩
theorem ordS_full {l : List Ent} {T : List Nat} (h : OrdS l T) (hl : T.length = l.length) {i : Nat} (hi : i < l.length) : i ∈ T := by
 by_cases hc : i ∈ T
 ·exact hc
 ·exfalso
  have := nodupLe (l := i :: T) (m := List.range l.length) (List.nodup_cons.2 ⟨hc, h.nd⟩) (fun x hx => by
   rcases List.mem_cons.1 hx with e | e
   ·rw [e]; exact List.mem_range.2 hi
   ·exact List.mem_range.2 (h.lt x e))
  rw [List.length_cons, List.length_range] at this
  omega
theorem ordL_ord (l : List Ent) : OrdS l (ordL l) := itO_ord l _
theorem ordL_stuck (l : List Ent) : findO l (ordL l) = none := by
 rcases itO_len l l.length with h | ⟨j, h1, h2⟩
 ·rw [findO_none]
  intro i hi
  have := ordS_full (itO_ord l l.length) h hi
  unfold nextO
  rw [show memB ((ordL l).map (nmI l)) (nmI l i) = true from memB_iff.2 (List.mem_map.2 ⟨i, this, rfl⟩)]
  rfl
 ·rw [ordL_of h2 h1]; exact h2
theorem ordL_len (l : List Ent) : (ordL l).length ≤ l.length := (ordL_ord l).size
theorem ordL_whole {l : List Ent} (hd : (l.map eNm).Nodup) (hm : ∀ x ∈ l, ∀ u ∈ eUses x, (atN l u).isSome = true) : (ordL l).length = l.length ↔ ¬ ∃ x ∈ l.map eNm, loopB l x = true := by
 have := ord_loop hd hm (ordL_ord l) (findO_none.1 (ordL_stuck l))
 have h2 := ordL_len l
 rw [← this]
 omega
end Go.Proofs.YtpmnnoopoblpgaaGreat

/- A library in another order, in plain words: nothing that is told by names changes. No program is named. -/
namespace Go.Proofs.YtpmnnoopoblpgaaGreat

structure SameL (l m : List Ent) : Prop where
 nl : (l.map eNm).Nodup
 nm : (m.map eNm).Nodup
 pm : l.Perm m
theorem SameL.symm {l m : List Ent} (h : SameL l m) : SameL m l := ⟨h.nm, h.nl, h.pm.symm⟩
theorem SameL.of {s : Sg} {l m : List Ent} (h : okLib s l = true) (p : l.Perm m) : SameL l m :=
 ⟨(okLib_prts h).2.2.2, (p.map eNm).nodup_iff.1 (okLib_prts h).2.2.2, p⟩
theorem SameL.to {l m : List Ent} (h : SameL l m) {x : ByteArray} {i : Nat} (hi : atN l x = some i) : ∃ j, atN m x = some j ∧ m.getD j default = l.getD i default := by
 obtain ⟨h1, h2⟩ := atN_some hi
 obtain ⟨j, hj, e⟩ := List.getElem_of_mem (h.pm.mem_iff.1 (List.getElem_mem h1))
 refine ⟨j, ?_, by rw [getD_at h1, getD_at hj, e]⟩
 rw [← h2, ← e]
 exact atN_at h.nm hj
theorem SameL.none {l m : List Ent} (h : SameL l m) {x : ByteArray} (hi : atN l x = none) : atN m x = none := by
 cases hm : atN m x with
 | none => rfl
 | some j =>
  obtain ⟨i, hi', -⟩ := h.symm.to hm
  rw [hi] at hi'; cases hi'
theorem SameL.isSome {l m : List Ent} (h : SameL l m) (x : ByteArray) : (atN l x).isSome = (atN m x).isSome := by
 cases hi : atN l x with
 | none => rw [h.none hi]
 | some i => obtain ⟨j, hj, -⟩ := h.to hi; rw [hj]; rfl
theorem SameL.uses {l m : List Ent} (h : SameL l m) : usesN l = usesN m := by
 funext x
 unfold usesN
 cases hi : atN l x with
 | none => rw [h.none hi]
 | some i => obtain ⟨j, hj, e⟩ := h.to hi; rw [hj]; simp only [e]
theorem SameL.rch {l m : List Ent} (h : SameL l m) (may : ByteArray → Bool) (n u : ByteArray) : rchB l may n u = rchB m may n u := by
 unfold rchB; rw [h.uses]
theorem SameL.inA {l m : List Ent} (h : SameL l m) (us : List ByteArray) : inAll l us = inAll m us := by
 unfold inAll
 rw [Bool.eq_iff_iff, List.all_eq_true, List.all_eq_true]
 exact forall_congr' fun u => by rw [h.isSome u]
theorem SameL.giv {l m : List Ent} (h : SameL l m) {us : List ByteArray} (hi : inAll l us = true) : givF l us = givF m us := by
 unfold givF
 refine List.map_congr_left fun u hu => ?_
 unfold inAll at hi
 rw [List.all_eq_true] at hi
 have := hi u hu
 cases hat : atN l u with
 | none => rw [hat] at this; cases this
 | some i => obtain ⟨j, hj, e⟩ := h.to hat; rw [hj]; simp only [Option.getD_some, e]
theorem SameL.hold {s : Sg} {l m : List Ent} (h : SameL l m) {i j : Nat} (e : l.getD i default = m.getD j default) : holdX s l i = holdX s m j := by
 have hs : strX s l i = strX s m j := by
  unfold strX
  rw [e]
  by_cases h0 : ePf (m.getD j default) = []
  ·rw [if_pos h0, if_pos h0]
  ·rw [if_neg h0, if_neg h0, h.inA]
   by_cases h1 : inAll m (eUses (m.getD j default)) = true
   ·rw [if_pos h1, if_pos h1, h.giv (by rw [h.inA]; exact h1)]
   ·rw [if_neg h1, if_neg h1]
 unfold holdX
 rw [hs, e]
theorem SameL.ch {l m : List Ent} (h : SameL l m) {pd qd : Nat → Bool} (hp : ∀ i j, i < l.length → j < m.length → l.getD i default = m.getD j default → pd i = qd j) : chB l pd = chB m qd := by
 funext x
 rw [chB_at h.nl, chB_at h.nm]
 cases hi : atN l x with
 | none => rw [h.none hi]
 | some i =>
  obtain ⟨j, hj, e⟩ := h.to hi
  rw [hj]
  exact hp i j (atN_some hi).1 (atN_some hj).1 e.symm
theorem SameL.mss {l m : List Ent} (h : SameL l m) (u : ByteArray) : mssB l u = mssB m u := by
 unfold mssB
 have e1 : l.any (fun x => memB (eUses x) u) = m.any (fun x => memB (eUses x) u) := by
  rw [Bool.eq_iff_iff, List.any_eq_true, List.any_eq_true]
  exact exists_congr fun x => by rw [h.pm.mem_iff]
 have e2 : (atN l u).isNone = (atN m u).isNone := by
  have := h.isSome u
  cases h1 : atN l u <;> cases h2 : atN m u <;> rw [h1, h2] at this <;> first | rfl | cases this
 rw [e1, e2]
theorem SameL.bad {s : Sg} {l m : List Ent} (h : SameL l m) (u : ByteArray) : badB s l u = badB s m u := by
 unfold badB
 rw [h.mss, h.ch (qd := fun i => !holdX s m i) (fun i j _ _ e => by rw [h.hold e])]
theorem SameL.good {s : Sg} {l m : List Ent} (h : SameL l m) {i j : Nat} (e : l.getD i default = m.getD j default) : goodB s l i = goodB s m j := by
 have en : nmI l i = nmI m j := by unfold nmI; rw [e]
 unfold goodB
 rw [en, h.bad]
 congr 1
 refine decide_eq_decide.2 (forall_congr' fun n => ?_)
 rw [h.rch, h.bad]
theorem erase_perm : ∀ {l : List Ent} {i : Nat} (hi : i < l.length), (l[i] :: l.eraseIdx i).Perm l
 | x :: r, 0, _ => .refl _
 | x :: r, i + 1, hi => by
  have hi' : i < r.length := by simpa using hi
  have h := erase_perm (l := r) (i := i) hi'
  rw [List.getElem_cons_succ, List.eraseIdx_cons_succ]
  exact (List.Perm.swap x r[i] _).trans (h.cons x)
theorem SameL.er {s : Sg} {l m : List Ent} (hok : okLib s l = true) (h : SameL l m) {i j : Nat} (hi : i < l.length) (hj : j < m.length) (e : l.getD i default = m.getD j default) : SameL (l.eraseIdx i) (m.eraseIdx j) := by
 rw [getD_at hi, getD_at hj] at e
 have p1 := (erase_perm hi).trans (h.pm.trans (erase_perm hj).symm)
 rw [e] at p1
 exact SameL.of (erase_ok hok i) p1.cons_inv
theorem CircS.same {l m : List Ent} (h : SameL l m) {first : ByteArray} {out C : List ByteArray} {now : ByteArray} (hc : CircS l first out now C) : CircS m first out now C := by
 have hcand : ∀ out u, candB l first out u = candB m first out u := fun out u => by unfold candB; rw [h.rch]
 induction hc with
 | stop h1 => exact .stop (by rw [← h.uses]; exact h1)
 | step h1 h2 h3 h4 _ ih =>
  refine .step (by rw [← h.uses]; exact h1) (by rw [← h.uses]; exact h2) (by rw [← hcand]; exact h3) (fun u hu hc => h4 u (by rw [h.uses]; exact hu) (by rw [hcand]; exact hc)) ih
theorem CircR.same {l m : List Ent} (h : SameL l m) {C : Option (List ByteArray)} (hc : CircR l C) : CircR m C := by
 have hm : ∀ x, x ∈ m.map eNm ↔ x ∈ l.map eNm := fun x => ((h.pm.map eNm).mem_iff).symm
 have hl : ∀ x, loopB m x = loopB l x := fun x => by unfold loopB; rw [h.rch]
 cases C with
 | none => exact fun x hx => by rw [hl]; exact hc x ((hm x).1 hx)
 | some C =>
  obtain ⟨f, h1, h2, h3, h4⟩ := hc
  exact ⟨f, (hm f).2 h1, by rw [hl]; exact h2, fun x hx hxf => by rw [hl]; exact h3 x ((hm x).1 hx) hxf, h4.same h⟩
end Go.Proofs.YtpmnnoopoblpgaaGreat

/- Walks: what the order asks: is a name taken. -/
namespace Go.Proofs.YtpmnnoopoblpgaaGreat
open Go Go.RowKit Go.Maps

theorem ord3_fn {B tb mb M n : Nat} {w : World} {f : ByteArray → Bool} (ht : tb < B) (hm : mb < B) (hc : w.cell? ⟨tb, 0, none⟩ = some (.map (some mb))) (hS : SSet w mb M n f) :
  MayFn 186 #[.pointer (some ⟨tb, 0, none⟩)] (fun u => !f u) B w := by
 refine ⟨enters_of Tryz.func186 (by kernel_rfl) rfl, fun x hx W hB => ?_⟩
 have q := (hB.cell (p := ⟨tb, 0, none⟩) ht).trans hc
 have hlk := (hS.below hB hm).look (tm := 88) Tryz.underlying88 Tryz.underlying9 Tryz.underlying4 (zBool W) x (big_max hx)
 clear hc hB hS
 go_enter Tryz.func186, Tryz.ntmps186
 go_wp2_with fail
 go_ret
 exact ⟨rfl, .refl _ _⟩
def rdyB (f : ByteArray → Bool) (nm : ByteArray) (us : List ByteArray) : Bool := !f nm && !us.any (fun u => !f u)
set_option maxRecDepth 100000 in
set_option maxHeartbeats 1000000 in
theorem ord2_any {B tb mb M n : Nat} {w : World} {f : ByteArray → Bool} (ht : tb < B) (hm : mb < B) (hc : w.cell? ⟨tb, 0, none⟩ = some (.map (some mb))) (hS : SSet w mb M n f) (W : World) (hB : Below B w W) (hBw : B ≤ w.heap.size)
  {S : Nat → Prop} (nm bn : ByteArray) (us : List ByteArray) (n1 n3 : Nat) (a1 a2 a3 : Option Addr) (c1 c2 c3 : Nat) (hU : Sl strE S W a2 c2 us) (hz : nm.size ≤ big) :
  Calls Tryz.prog 185 #[entV nm bn n1 us.length n3 a1 a2 a3 c1 c2 c3, .pointer (some ⟨tb, 0, none⟩)] W fun e w' => e = .returned (.bool (rdyB f nm us)) ∧ Below W.heap.size W w' := by
 obtain ⟨W1, hW1⟩ : ∃ W1, W.alloc (.cells #[.string nm, .string bn, .slice a1 n1 c1, .slice a2 us.length c2, .slice a3 n3 c3] 37) = W1 := ⟨_, rfl⟩
 have hb1 : Below W.heap.size W W1 := by rw [← hW1]; exact below1 _ _
 have hBs : B ≤ W.heap.size := Nat.le_trans hBw hB.size
 have hB1 : Below B w W1 := hB.trans (hb1.mono hBs)
 have p0 : W1.cell? ⟨W.heap.size, 0, none⟩ = some (.string nm) := by rw [← hW1]; clear hW1; go_simp
 have p3 : W1.cell? ⟨W.heap.size, 3, none⟩ = some (.slice a2 us.length c2) := by rw [← hW1]; clear hW1; go_simp
 have q := (hB1.cell (p := ⟨tb, 0, none⟩) ht).trans hc
 have hlk := (hS.below hB1 hm).look (tm := 88) Tryz.underlying88 Tryz.underlying9 Tryz.underlying4 (zBool W1) nm (big_max hz)
 have hf3 := ord3_fn (f := f) ht hm hc hS
 have hU1 := hU.below hb1
 have vc := ContainsS_any a2 c2 us _ _ hf3.1 (fun u => !f u) W1 hU1 (fun i hi W' hb => hf3.2 us[i] (hU1.str i hi).choose_spec.choose_spec.2.2.2 W' (hB1.trans (hb.mono (Nat.le_trans hBs hb1.size))))
 have mU := hU.le
 have vcH := Lib.hid vc
 have hb1H := Lib.hid hb1
 have hWH := Lib.hid hW1
 obtain ⟨fn, hfn⟩ : ∃ fn, f nm = fn := ⟨_, rfl⟩
 have hlk' : (Instr.lookup 88 (.map (some mb)) (.string nm) false).run Tryz.prog W1 = .ok (.bool fn) W1 := by rw [← hfn]; exact hlk
 have hR : rdyB f nm us = (!fn && !us.any (fun u => !f u)) := by unfold rdyB; rw [hfn]
 have hRH := Lib.hid hR
 rw [← hW1] at q hlk' p0 p3
 clear vc hf3 hU1 hU hlk hS hc hB hB1 hb1 hW1 hfn hR
 generalize us.any (fun u => !f u) = an at *
 cases fn with
 | true =>
  go_enter Tryz.func185, Tryz.ntmps185
  go_wp2_with fail
  try rw [hWH.out]
  try go_wp2_with fail
  go_ret
  exact ⟨ret_bool (by rw [hRH.out]; rfl), hb1H.out⟩
 | false =>
  go_enter Tryz.func185, Tryz.ntmps185
  go_wp2_with fail
  try rw [hWH.out]
  refine vcH.out.mono ?_
  rintro e w2 ⟨rfl, hb2⟩
  have hfin := Lib.hid (bcall hb1H.out hb2)
  clear hb2
  go_wp2_with fail
  go_ret
  exact ⟨ret_bool (by rw [hRH.out]; rfl), hfin.out⟩
end Go.Proofs.YtpmnnoopoblpgaaGreat

/- Walks: slices.IndexFunc over entries with any closure that only answers; the next entry of an order. -/
namespace Go.Proofs.YtpmnnoopoblpgaaGreat
open Go Go.RowKit Go.Maps

def ixP (n : Nat) (pd : Nat → Bool) : Int := match (List.range n).find? pd with | some i => (i : Int) | none => -1
theorem ixP_some {n k : Nat} {pd : Nat → Bool} (hk : k < n) (h1 : ∀ j, j < k → pd j = false) (h2 : pd k = true) : ixP n pd = k := by
 unfold ixP
 have : (List.range n).find? pd = some k := by
  rw [List.find?_eq_some_iff_getElem]
  refine ⟨h2, k, by rw [List.length_range]; exact hk, List.getElem_range _, fun j hj => ?_⟩
  rw [List.getElem_range, h1 j hj]; rfl
 rw [this]
theorem ixP_none {n : Nat} {pd : Nat → Bool} (h : ∀ j, j < n → pd j = false) : ixP n pd = -1 := by
 unfold ixP
 have : (List.range n).find? pd = none := by
  rw [List.find?_eq_none]
  intro x hx
  rw [h x (List.mem_range.1 hx)]; simp
 rw [this]
def FnEnt (g : FuncId) (cb : Array Value) (l : List Ent) (pd : Nat → Bool) (w : World) : Prop :=
 ∀ (i : Nat) (hi : i < l.length) (W : World), Below w.heap.size w W → ∀ (S : Nat → Prop) (n1 n3 : Nat) (a1 a2 a3 : Option Addr) (c1 c2 c3 : Nat), Sl strE S W a2 c2 (eUses l[i]) → (eNm l[i]).size ≤ big →
  Calls Tryz.prog g (#[entV (eNm l[i]) (eBy l[i]) n1 (eUses l[i]).length n3 a1 a2 a3 c1 c2 c3] ++ cb) W fun e w' => e = .returned (.bool (pd i)) ∧ Below W.heap.size W w'
def ixeRel (n : Nat) (pd : Nat → Bool) (w : World) (i : Value) (wr : World) : Prop := ∃ k : Nat, i = .int .i64 k ∧ k ≤ n ∧ (∀ j, j < k → pd j = false) ∧ Below w.heap.size w wr
set_option maxHeartbeats 1000000 in
theorem IndexE_any {S : Nat → Prop} (a : Option Addr) (c : Nat) (l : List Ent) (g : FuncId) (cb : Array Value) (eg : ∀ args w, (callFunc g args).run Tryz.prog w = .ok (.enter g args) w) (pd : Nat → Bool) (w : World) (h : LibL S w a c l) (hf : FnEnt g cb l pd w) :
  Calls Tryz.prog 184 #[.slice a l.length c, .func (.func g) #[] cb] w fun e w' => e = .returned (.int .i64 (ixP l.length pd)) ∧ Below w.heap.size w w' := by
 have m := h.le
 have hH := Lib.hid h
 have hfH := Lib.hid hf
 clear h hf
 go_enter Tryz.func184, Tryz.ntmps184
 go_wp2_with fail
 go_loopw [8] (fun i wr => ixeRel l.length pd w i wr) (fun i _ => l.length - (intOf i).toNat)
 case atStart => exact ⟨0, rfl, Nat.zero_le _, fun j hj => by omega, .refl _ _⟩
 case round =>
  obtain ⟨k, rfl, hk, hno, hB⟩ := hrel
  by_cases hlt : k < l.length
  ·obtain ⟨b, off, a1, c1, a2, c2, a3, c3, rfl, -, p0, p1, p2, p3, p4, z1, z2, hI, hU, hP⟩ := (hH.out.below hB).ent k hlt
   have hc := hfH.out k hlt wr hB _ (eSays l[k]).length (ePf l[k]).length a1 a2 a3 c1 c2 c3 hU z1
   have mU := hU.le
   clear hI hU hP z2
   generalize eNm l[k] = nm at *
   generalize eBy l[k] = bn at *
   generalize (eSays l[k]).length = n1 at *
   generalize (eUses l[k]).length = n2 at *
   generalize (ePf l[k]).length = n3 at *
   cases hp : pd k with
   | true =>
    have hfin := ixP_some hlt hno hp
    have hfinH := Lib.hid hfin
    rw [hp] at hc
    have hcH := Lib.hid hc
    have hBH := Lib.hid hB
    clear hfin hc hp hno hB
    go_wp2_with (first | (go_at_fn g; refine hcH.out.mono ?_; rintro e w2 ⟨rfl, hb⟩) | go_in)
    go_ret
    exact ⟨ret_int hfinH.out.symm, hBH.out.trans (hb.mono hBH.out.size)⟩
   | false =>
    have hno2 : ∀ j, j < k + 1 → pd j = false := fun j hj => by
     by_cases e : j = k
     ·subst e; exact hp
     ·exact hno j (by omega)
    rw [hp] at hc
    have hcH := Lib.hid hc
    have hBH := Lib.hid hB
    have hnoH := Lib.hid hno2
    clear hc hp hno hno2 hB
    go_wp2_with (first | (go_at_fn g; refine hcH.out.mono ?_; rintro e w2 ⟨rfl, hb⟩) | go_in)
    go_roundw
    case rel => exact ⟨k + 1, by go_num, hlt, hnoH.out, hBH.out.trans (hb.mono hBH.out.size)⟩
    case measure => simp [intOf]; omega
  ·have hkk : ((k : Int) < (l.length : Int)) = False := eq_false (by omega)
   have hfin := Lib.hid (ixP_none (n := l.length) (pd := pd) (fun j hj => hno j (by omega)))
   have hBH := Lib.hid hB
   clear hno hB hlt hk
   go_wp2_with fail
   go_ret
   exact ⟨ret_int hfin.out.symm, hBH.out⟩
theorem ord2_fn {tb mb M n : Nat} {w : World} {l : List Ent} {T : List Nat} (ht : tb < w.heap.size) (hc : w.cell? ⟨tb, 0, none⟩ = some (.map (some mb))) (hS : SSet w mb M n (memB (T.map (nmI l)))) :
  FnEnt 185 #[.pointer (some ⟨tb, 0, none⟩)] l (nextO l (T.map (nmI l))) w := by
 intro i hi W hB S n1 n3 a1 a2 a3 c1 c2 c3 hU hz
 refine (ord2_any ht hS.lt hc hS W hB (Nat.le_refl _) (eNm l[i]) (eBy l[i]) (eUses l[i]) n1 n3 a1 a2 a3 c1 c2 c3 hU hz).mono ?_
 rintro e w' ⟨rfl, hb⟩
 refine ⟨ret_bool ?_, hb⟩
 unfold rdyB nextO
 rw [nmI_at hi, usI_at hi]
 congr 1
 rw [Bool.eq_iff_iff, List.all_eq_true, Bool.not_eq_true', List.any_eq_false]
 constructor
 ·intro h u hu
  have := h u hu
  simpa using this
 ·intro h u hu
  rw [h u hu]; simp
end Go.Proofs.YtpmnnoopoblpgaaGreat

/- Walks: the iterator over a library's order. -/
namespace Go.Proofs.YtpmnnoopoblpgaaGreat
open Go Go.RowKit Go.Maps

attribute [local go_sem] Oper.semAt_some

structure KpO (K B0 : Nat) (W W' : World) : Prop where
 low : KpV K W W'
 lv : Leaves B0 W W'
 mp : ∀ (b : Nat) (o : Obj), W.heap[b]? = some o → o.isWalk = true → W'.heap[b]? = some o
theorem KpO.trans {K B0 : Nat} {A B C : World} (h : KpO K B0 A B) (k : KpO K B0 B C) : KpO K B0 A C :=
 ⟨h.low.trans k.low, h.lv.trans k.lv, fun b o hb ho => k.mp b o (h.mp b o hb ho) ho⟩
theorem KpO.of_below {K B0 : Nat} {W W' : World} (h : Below W.heap.size W W') (hK : K ≤ W.heap.size) (hB : B0 < W.heap.size) : KpO K B0 W W' :=
 ⟨.of_below (h.mono hK), .of_below hB h, fun b _ hb _ => (h.block b (Array.getElem?_eq_some_iff.1 hb).1).trans hb⟩
theorem Leaves.mapRow {B0 r : Nat} {W W' : World} (hg : W.grownBy W' (some r)) (hr : B0 < r) (hc : ∃ o, W.heap[r]? = some o ∧ o.isCells = false) (hB : B0 < W.heap.size) : Leaves B0 W W' := by
 have e : rowOf B0 W' = rowOf B0 W := rowOf_same (hg.block B0 hB (fun h => by injection h; omega))
 refine ⟨hg.size, fun b hb => hg.block b hb.2.2.lt (fun h => ?_), .inl e, fun g => ⟨Nat.lt_of_lt_of_le g.1 hg.size, fun q hq => ?_⟩⟩
 ·injection h with h
  subst h
  obtain ⟨o, h1, h2⟩ := hc
  obtain ⟨o2, h3, h4⟩ := hb.2.2
  rw [h1] at h3; cases h3; rw [h2] at h4; cases h4
 ·rw [e] at hq; exact Nat.lt_of_lt_of_le (g.2 q hq) hg.size
theorem SMap.obj {P : Program} {tk te : TypeId} {w : World} {b M n : Nat} {f : ByteArray → Bool} (h : SMap P tk te w b M n f) : ∃ es c, w.heap[b]? = some (.map es c) := by
 obtain ⟨D, ⟨es, clock, hc, -⟩, -⟩ := h
 exact ⟨es, clock, hc⟩
noncomputable def mapN (mb : Nat) (W : World) : Nat := match (Builtin.len_ #[88] 3 #[.map (some mb)]).run Tryz.prog W with
 | .ok (.int _ n) _ => n.toNat
 | _ => 0
theorem mapN_of {W : World} {mb M n : Nat} {f : ByteArray → Bool} (h : SSet W mb M n f) : mapN mb W = n := by
 unfold mapN
 rw [h.len (tm := 88) Tryz.underlying88 3]
 simp
structure OrdW (W0 : World) (K B0 tb mb : Nat) (l : List Ent) (J : List Nat → World → Prop) (T : List Nat) (wr : World) : Prop where
 j : J T wr
 low : KpV K W0 wr
 row : RowLt B0 wr
 sz : W0.heap.size ≤ wr.heap.size
 s : Safe B0 wr tb
 c : wr.cell? ⟨tb, 0, none⟩ = some (.map (some mb))
 m : SSet wr mb T.length T.length (memB (T.map (nmI l)))
section
variable {W0 wr W' : World} {K B0 tb mb : Nat} {l : List Ent} {J : List Nat → World → Prop} {T : List Nat}
theorem OrdW.below (h : OrdW W0 K B0 tb mb l J T wr) (hab : AbidesFrom W0.heap.size J) (hK : K ≤ W0.heap.size) (hb : Below wr.heap.size wr W') : OrdW W0 K B0 tb mb l J T W' := by
 have hl := Leaves.of_below h.row.1 hb
 exact ⟨abides_below hab h.j hb, h.low.trans (.of_below (hb.mono (Nat.le_trans hK h.sz))), hl.lt h.row, Nat.le_trans h.sz hb.size, hl.safe h.s, hl.cell h.s h.c, h.m.below hb h.m.lt⟩
theorem OrdW.turn (h : OrdW W0 K B0 tb mb l J T wr) (hk : KpO K B0 wr W') : (RowLt B0 W' ∧ Safe B0 W' tb ∧ W'.cell? ⟨tb, 0, none⟩ = some (.map (some mb)) ∧ SSet W' mb T.length T.length (memB (T.map (nmI l))) ∧ KpV K W0 W' ∧ W0.heap.size ≤ W'.heap.size) := by
 obtain ⟨es, cl, hm⟩ := h.m.obj
 exact ⟨hk.lv.lt h.row, hk.lv.safe h.s, hk.lv.cell h.s h.c, h.m.same ((hk.mp _ _ hm rfl).trans hm.symm), h.low.trans hk.low, Nat.le_trans h.sz hk.lv.size⟩
end
set_option maxRecDepth 100000 in
set_option maxHeartbeats 4000000 in
theorem ordS_in {s : Sg} (n ly xc xb K B0 : Nat) {a : Option Addr} {c : Nat} {l : List Ent} (J Jx : List Nat → World → Prop) (W : World) (hab : AbidesFrom W.heap.size J)
  (hY : ∀ q pre x W1, J pre W1 → x < l.length → pre.length < l.length → YieldAt Fence.wide q Tryz.prog ly #[.int .i64 (x : Int)] W1 fun e W' => (e = .returned (.bool true) ∧ J (pre ++ [x]) W' ∧ KpO K B0 W1 W') ∨ (e = .returned (.bool false) ∧ Jx (pre ++ [x]) W' ∧ KpO K B0 W1 W'))
  (hK : K ≤ W.heap.size) (hrow : RowLt B0 W) (hxc : xc < K) (hxb : xb < K) (c0 : W.cell? ⟨xc, 0, none⟩ = some (.pointer (some ⟨xb, 0, none⟩))) (c1 : W.cell? ⟨xb, 1, none⟩ = some (.slice a l.length c)) (hL : LibL (fun b => b < K) W a c l) (hok : okLib s l = true) (hJ : J [] W) :
  CallsIn Fence.wide n Tryz.prog 183 #[.func (.yield ly) #[] #[], .pointer (some ⟨xc, 0, none⟩)] W fun e W' => (∃ v, e = .returned v) ∧ ((∃ ys : List Nat, ys = ordL l ∧ J ys W') ∨ (∃ pre, True ∧ Jx pre W')) := by
 have hro : Fence.wide.round = none := rfl
 have hmm := @run_makeMap Tryz.prog
 have mL := hL.le
 have hd := (okLib_parts hok).2.2.2
 have hl60 := (okLib_parts hok).2.1
 have hnz : ∀ i, i < l.length → (nmI l i).size ≤ big := fun i hi => by
  have := (okLib_parts hok).2.2.1 l[i] (List.getElem_mem hi)
  unfold okEnt at this; simp only [Bool.and_eq_true] at this
  have := (nameB_size this.1.1).2
  rw [nmI_at hi]; unfold big; omega
 obtain ⟨Ws, hWs⟩ : ∃ Ws, (W.alloc (.map #[] 0)).alloc (.cells #[.map (some W.heap.size)] 88) = Ws := ⟨_, rfl⟩
 have hb0 : Below W.heap.size W Ws := by rw [← hWs]; exact below2 W _ _
 have h0 : OrdW W K B0 (W.heap.size + 1) W.heap.size l J (itO l 0) Ws := by
  have hl := Leaves.of_below hrow.1 hb0
  have ct : Ws.cell? ⟨W.heap.size + 1, 0, none⟩ = some (.map (some W.heap.size)) := by rw [← hWs]; clear hWs; go_simp
  refine ⟨abides_below hab hJ hb0, .of_below (hb0.mono hK), hl.lt hrow, hb0.size, .fresh hrow hb0 (Nat.le_succ _) (.of_cell ct), ct, ?_⟩
  have := (SMap.made (P := Tryz.prog) (tk := 9) (te := 4) W).below (below1 _ (.cells #[.map (some W.heap.size)] 88)) (by simp)
  rw [hWs] at this
  exact this
 have h0H := Lib.hid h0
 have habH := Lib.hid hab
 have hYH := Lib.hid hY
 have hLH := Lib.hid hL
 have hdH := Lib.hid hd
 have hnzH := Lib.hid hnz
 have hKH := Lib.hid hK
 have hrowH := Lib.hid hrow
 have hWsH := Lib.hid hWs
 have hxcH := Lib.hid hxc
 have hxbH := Lib.hid hxb
 have e0 := Lib.hid c0
 have e1 := Lib.hid c1
 have tz : W.heap.size + 1 ≠ W.heap.size := by omega
 clear h0 hab hY hL hd hnz hK hrow hxc hxb c0 c1 hWs hb0 hok hJ
 refine callsIn_of_wp Tryz.func183 rfl trivial ?_ hro
 simp only [Tryz.ntmps183, List.size_toArray, List.length_cons, List.length_nil, Nat.reduceAdd, Nat.reduceSub, Array.replicate_succ, Array.replicate_zero, List.push_toArray, List.append_toArray, List.nil_append, List.cons_append]
 gi_wp2_with fail
 gi_loopw [] (fun wr => ∃ k : Nat, (itO l k).length = k ∧ OrdW W K B0 (W.heap.size + 1) W.heap.size l J (itO l k) wr) (fun wr => l.length - mapN W.heap.size wr)
 case atStart => exact ⟨0, rfl, by first | exact h0H.out | (rw [hWsH.out]; exact h0H.out)⟩
 case round =>
  obtain ⟨k, hkl, hR⟩ := hrel
  have hS := itO_ord l k
  have hsz := hS.size
  have q0 := (hR.low.cell (o := 0) hxcH.out).trans e0.out
  have q1 := (hR.low.cell (o := 1) hxbH.out).trans e1.out
  have hLr : LibL (fun b => b < K) wr a c l := hLH.out.same (fun b hb _ => hR.low b hb)
  have ix := IndexE_any a c l 185 #[.pointer (some ⟨W.heap.size + 1, 0, none⟩)] (enters_of Tryz.func185 (by kernel_rfl) rfl) _ wr hLr (ord2_fn hR.s.2.2.lt hR.c hR.m)
  have hRH := Lib.hid hR
  have hkH := Lib.hid hkl
  have hSH := Lib.hid hS
  have hszH := Lib.hid hsz
  clear hkl hR hS hsz hLr
  cases hf : findO l (itO l k) with
  | none =>
   rw [ixP_none (findO_none.1 hf)] at ix
   have ixH := Lib.hid ix
   have hfin := Lib.hid (ordL_of hf (by have := hkH.out; have := hszH.out; omega))
   clear ix hf
   gi_wp2_with fail
   refine ⟨trivial, fun h => (by cases h), (callsIn_wide.2 ixH.out).mono ?_⟩
   rintro e w2 ⟨rfl, hb2⟩
   have hR2 := Lib.hid (hRH.out.below habH.out hKH.out hb2)
   clear hb2
   gi_wp2_with fail
   refine ⟨fun f hf => (by cases hf), ?_⟩
   gi_wp2_with fail
   refine bodyPost_ret (results_none rfl _ _ _) rfl ?_
   exact ⟨⟨_, rfl⟩, .inl ⟨_, hfin.out.symm, hR2.out.j⟩⟩
  | some i =>
   obtain ⟨hi, hn1, hn2⟩ := findO_some.1 hf
   rw [ixP_some hi hn2 hn1] at ix
   have ixH := Lib.hid ix
   have hst := stepO_some hf
   have hstH := Lib.hid (show itO l (k + 1) = itO l k ++ [i] from hst)
   have hn1H := Lib.hid hn1
   have hiH := Lib.hid hi
   have hi0 : ((i : Int) < 0) = False := eq_false (by omega)
   clear ix hf hn1 hn2 hst
   gi_wp2_with fail
   refine ⟨trivial, fun h => (by cases h), (callsIn_wide.2 ixH.out).mono ?_⟩
   rintro e w2 ⟨rfl, hb2⟩
   have hR2 := hRH.out.below habH.out hKH.out hb2
   have hlenT : (itO l k).length < l.length := by
    have := (itO_ord l (k + 1)).size
    rw [hstH.out, List.length_append, List.length_singleton] at this
    omega
   obtain ⟨fn, tmps, assign, body, hy, hRR⟩ := hYH.out (n - 1) (itO l k) i w2 hR2.j hiH.out hlenT
   have hR2H := Lib.hid hR2
   have hltH := Lib.hid hlenT
   clear hb2 hR2 hlenT q0 q1
   gi_wp2_with fail
   refine ⟨fun h => (by cases h), ?_⟩
   refine hRR.mono ?_
   clear hRR hy
   rintro e W3 (⟨rfl, hJ3, hk3⟩ | ⟨rfl, hJx, hk3⟩)
   ·obtain ⟨r1, r2, r3, r4, r5, r6⟩ := hR2H.out.turn hk3
    have hbd : Below W3.heap.size W3 W3.drew := Below.drew (.refl _ _)
    have q0 := (r5.cell (o := 0) hxcH.out).trans e0.out
    have q1 := (r5.cell (o := 1) hxbH.out).trans e1.out
    have hL3 : LibL (fun b => b < K) W3 a c l := hLH.out.same (fun b hb _ => r5 b hb)
    obtain ⟨b, off, a1, c1, a2, c2, a3, c3, rfl, -, p0, p1, p2, p3, p4, z1, z2, hI, hU, hP⟩ := hL3.ent i hiH.out
    rw [← nmI_at hiH.out] at p0
    have hnz := hnzH.out i hiH.out
    have r4d := r4.below hbd r4.lt
    obtain ⟨W4, hu1, hu2, hu3⟩ := r4d.store (tm := 88) Tryz.underlying88 Tryz.underlying9 Tryz.underlying4 (by have := hltH.out; unfold maxLen; omega) (nmI l i) (big_max hnz)
    have hno : memB ((itO l k).map (nmI l)) (nmI l i) = false := by
     have := hn1H.out
     unfold nextO at this
     rw [Bool.and_eq_true, Bool.not_eq_true'] at this
     exact this.1
    have hfin : OrdW W K B0 (W.heap.size + 1) W.heap.size l J (itO l (k + 1)) W4 := by
     have hl4 : Leaves B0 W3 W4 := (Leaves.of_below r1.1 hbd).trans (Leaves.mapRow hu3 (by have := hrowH.out.1; omega) (by obtain ⟨es, cl, e⟩ := r4d.obj; exact ⟨_, e, rfl⟩) r1.1)
     have hlow : KpV K W3 W4 := fun b hb => (hu3.block b (by have := hKH.out; have : W3.drew.heap.size = W3.heap.size := rfl; omega) (fun e => by injection e with e; have := hKH.out; omega)).trans (hbd.block b (by have := hKH.out; omega))
     refine ⟨?_, r5.trans hlow, hl4.lt r1, Nat.le_trans r6 hl4.size, hl4.safe r2, hl4.cell r2 r3, ?_⟩
     ·rw [hstH.out]
      exact habH.out _ _ _ _ (abides_below habH.out hJ3 hbd) hu3 (fun r e => by injection e with e; subst e; obtain ⟨es, cl, e⟩ := r4d.obj; exact ⟨Nat.le_refl _, _, e, rfl⟩)
     ·rw [hno, if_neg (by simp), memB_snoc] at hu2
      rw [hstH.out, List.length_append, List.length_singleton, List.map_append, List.map_cons, List.map_nil]
      exact hu2
    have hlen4 : (itO l (k + 1)).length = k + 1 := by rw [hstH.out, List.length_append, List.length_singleton, hkH.out]
    have hmN := mapN_of hfin.m
    rw [hlen4] at hmN
    have hmO := mapN_of hRH.out.m
    rw [hkH.out] at hmO
    have hltk := hltH.out
    rw [hkH.out] at hltk
    have hfinH := Lib.hid (show ∃ k : Nat, (itO l k).length = k ∧ OrdW W K B0 (W.heap.size + 1) W.heap.size l J (itO l k) W4 from ⟨k + 1, hlen4, hfin⟩)
    have hmea := Lib.hid (show l.length - mapN W.heap.size W4 < l.length - mapN W.heap.size wr by omega)
    have hii : (i : Int) < (l.length : Int) := by have := hiH.out; omega
    have hSt : W3.drew.cell? ⟨W.heap.size + 1, 0, none⟩ = some (.map (some W.heap.size)) ∧ W3.drew.cell? ⟨xc, 0, none⟩ = some (.pointer (some ⟨xb, 0, none⟩)) ∧ W3.drew.cell? ⟨xb, 1, none⟩ = some (.slice (some ⟨b, off, none⟩) l.length c) ∧ W3.drew.cell? ⟨b, off + i * 5, none⟩ = some (.string (nmI l i)) := ⟨r3, q0, q1, p0⟩
    have hu1H := Lib.hid hu1
    generalize nmI l i = nm at *
    clear hlen4 hmN hmO hltk hfin hno hu2 hu3 hu1 r4d hnz hI hU hP p0 p1 p2 p3 p4 z1 z2 hL3 r1 r2 r3 r4 r5 r6 q0 q1 hJ3 hk3 hbd
    gi_wp2_with fail
    obtain ⟨t0, t1, t2, t3⟩ := hSt
    have hu1 := hu1H.out
    gi_region
    refine ⟨⟨_, _, _, _, _, _, _, _, _, _, _, _, _, _, _, _, _, _, _, _, _, _, _, _, hfinH.out, rfl⟩, hmea.out⟩


   ·gi_wp2_with fail
    refine bodyPost_ret (results_none rfl _ _ _) rfl ?_
    exact ⟨⟨_, rfl⟩, .inr ⟨_, trivial, hJx⟩⟩
end Go.Proofs.YtpmnnoopoblpgaaGreat

/- Walks: the order, collected. -/
namespace Go.Proofs.YtpmnnoopoblpgaaGreat
open Go Go.RowKit Go.Maps

attribute [local go_sem] Oper.semAt_some

def natI (T : List Nat) : List Int := T.map (fun (i : Nat) => (i : Int))
theorem natI_snoc (T : List Nat) (x : Nat) : natI (T ++ [x]) = natI T ++ [(x : Int)] := by unfold natI; rw [List.map_append]; rfl
theorem natI_len (T : List Nat) : (natI T).length = T.length := by unfold natI; rw [List.length_map]
def encO (x : Nat) : Array Value := #[.int .i64 (x : Int)]
theorem ordS_seq {s : Sg} (n xc xb K B0 : Nat) {a : Option Addr} {c : Nat} {l : List Ent} (w : World)
  (hK : K ≤ w.heap.size) (hrow : RowLt B0 w) (hxc : xc < K) (hxb : xb < K) (c0 : w.cell? ⟨xc, 0, none⟩ = some (.pointer (some ⟨xb, 0, none⟩))) (c1 : w.cell? ⟨xb, 1, none⟩ = some (.slice a l.length c)) (hL : LibL (fun b => b < K) w a c l) (hok : okLib s l = true) :
  SeqRel Fence.wide n Tryz.prog 183 #[.pointer (some ⟨xc, 0, none⟩)] encO (fun x _ => x < l.length) (KpO K B0) (fun ys => ys = ordL l) (fun _ => True) l.length w := fun ly J Jx W hW hJ _ hY h0 => by
 have hl := Leaves.of_below hrow.1 hW
 exact ordS_in n ly xc xb K B0 J Jx W hJ (fun q pre x A h1 h2 h3 => YieldAt.wideAny q (hY pre x A h1 h2 h3)) (Nat.le_trans hK hW.size) (hl.lt hrow) hxc hxb
  ((hW.cell (p := ⟨xc, 0, none⟩) (Nat.lt_of_lt_of_le hxc hK)).trans c0) ((hW.cell (p := ⟨xb, 1, none⟩) (Nat.lt_of_lt_of_le hxb hK)).trans c1) (hL.below hW) hok h0
def OrdOut (w : World) (l : List Ent) (e : Ending) (w' : World) : Prop := ∃ v, e = .returned v ∧ OwnI w' w.heap.size v (natI (ordL l)) ∧ Below w.heap.size w w'
set_option maxRecDepth 100000 in
set_option maxHeartbeats 4000000 in
theorem apO_any {s : Sg} {xc xb : Nat} {a : Option Addr} {c : Nat} {l : List Ent} (w : World) (hxc : xc < w.heap.size) (hxb : xb < w.heap.size) (c0 : w.cell? ⟨xc, 0, none⟩ = some (.pointer (some ⟨xb, 0, none⟩))) (c1 : w.cell? ⟨xb, 1, none⟩ = some (.slice a l.length c))
  (hL : LibL (fun b => b < w.heap.size) w a c l) (hok : okLib s l = true) :
  Calls Tryz.prog 182 #[.slice none 0 0, .func (.func 183) #[] #[.pointer (some ⟨xc, 0, none⟩)]] w (OrdOut w l) := by
 refine (callsIn_wide (n := 6)).1 ?_
 refine callsIn_of_wp_marks Tryz.func182 rfl trivial ?_ rfl
 simp only [Tryz.ntmps182, List.size_toArray, List.length_cons, List.length_nil, Nat.reduceAdd, Nat.reduceSub, Array.replicate_succ, Array.replicate_zero, List.push_toArray, List.append_toArray, List.nil_append, List.cons_append]
 obtain ⟨W0, hW0⟩ : ∃ W0, w.alloc (.cells #[.slice none 0 0] 25) = W0 := ⟨_, rfl⟩
 have hz0 : W0.heap.size = w.heap.size + 1 := by rw [← hW0]; simp
 have hbW : Below w.heap.size w W0 := by rw [← hW0]; exact below1 _ _
 have hbx : BoxL intE w.heap.size 25 w.heap.size 3 (natI []) W0 := by rw [← hW0]; exact BoxL.new w
 have hl60 := (okLib_parts hok).2.1
 have hseq := ordS_seq (6 - 1) xc xb w.heap.size w.heap.size W0 hbW.size hbx.rowLt hxc hxb ((hbW.cell (p := ⟨xc, 0, none⟩) hxc).trans c0) ((hbW.cell (p := ⟨xb, 1, none⟩) hxb).trans c1) (hL.below hbW) hok
 have hbxH := Lib.hid hbx
 have hbWH := Lib.hid hbW
 have hlH := Lib.hid hl60
 have hw0 : w.heap.size ≠ 0 := by omega
 clear hbx hbW hL hok c0 c1 hl60 hxc hxb
 gi_wp2_with fail
 refine range_rel rfl (by omega) (gf := 183) (lb := #[.pointer (some ⟨xc, 0, none⟩)]) rfl trivial (enters_of Tryz.func183 (by kernel_rfl) rfl)
  hseq (fun h k => h.trans k) (fun W ly o o' hl h hc hwk => ⟨fun b hb => World.putObj_heap_other (by omega), Leaves.putObj (by omega) h hc, fun b o2 hb ho => by
   by_cases e : b = ly
   ·subst e; rw [h] at hb; cases hb; rw [hwk] at ho; cases ho
   ·exact (World.putObj_heap_other e).trans hb⟩) (Below.refl _ _) (fun _ => rfl)
  (fun pre W => BoxL intE w.heap.size 25 w.heap.size 3 (natI pre) W ∧ Below w.heap.size w W)
  (fun _ _ _ => False)
  (OwnFrom.and (boxL_own celled_int _ _) (ownFrom_below (Nat.le_refl _) (by omega)))
  (fun _ _ _ _ _ hs _ _ => hs) ⟨hbxH.out, hbWH.out⟩
  (fun x a' _ => a' = { tmps := #[.slice none 0 0, .func (.func 183) #[] #[.pointer (some ⟨xc, 0, none⟩)], .pointer (some ⟨w.heap.size, 0, none⟩), undef, .slice none 0 0, .int .i64 (x : Int), .func (.func 183) #[] #[.pointer (some ⟨xc, 0, none⟩)], .int .i64 (x : Int), undef, undef, undef, undef, undef], defers := [] } ∧ x < l.length)
  (fun x a' => ownFrom_pure _ (fun _ => _)) ?assign ?body ?done ?stop
 case assign =>
  intro ly pre x W K hi hr hK
  dsimp only [encO]
  gi_wp2
  exact hK _ _ (KeepsFrom.refl _ _) ⟨fun b _ => rfl, Leaves.refl _ _, fun b o hb _ => hb⟩ hi ⟨rfl, hr⟩
 case body =>
  rintro ly pre x a' W - - ⟨⟨vv, hv, ho⟩, hB⟩ ⟨rfl, hx⟩ hlen
  have hll := hlH.out
  have hlp := natI_len pre
  have hpu := box_push (P := Tryz.prog) (W1 := W) (t := 25) (ty := 25) (x := (x : Int)) (vs := [.int .i64 (x : Int)]) hv ho (by decide) hB.size (Nat.le_refl _) (Below.refl _ _) Tryz.underlying25 infoInt rfl ⟨rfl, by unfold inRange; omega⟩ (by omega) (by unfold big; omega)
  obtain ⟨a5, cap5, W5, r5, q5, f5, s5, k5, l5, b5⟩ := hpu
  have q4 := hv.cell
  rw [hlp] at r5 s5 k5 l5 b5
  have q5 := q5.out
  have f5 := f5.out
  have r5 := r5.out
  have hBH := Lib.hid hB
  have hsn := natI_snoc pre x
  have hsnH := Lib.hid hsn
  clear hB hv ho hlp hsn hx hll
  gi_wp2_with (gi_at_builtin; refine wpListIn_appendU rfl (.tmp 8) (.tmp 10) 25 rfl rfl rfl r5 ?_)
  have hk5 := k5.out
  exact ⟨⟨hk5.from _, ⟨.of_below b5.out, l5.out, fun b o hb ho => hk5.same b o hb (Obj.not_cells_of_walk ho)⟩⟩, by rw [hsnH.out]; exact s5.out, hBH.out.trans b5.out⟩
 case done =>
  rintro D ys W hD rfl ⟨⟨vv, hv, ho⟩, hB⟩ hK
  have hc := hv.cell
  have hKH := Lib.hid hK
  have hoH := Lib.hid ho
  clear hK ho hv
  gi_wp2_with fail
  refine ⟨by simp, .inl ⟨_, _, rfl, run_takeDeferred hKH.out, ?_⟩⟩
  refine ⟨_, results_tmp rfl _ _ _, _, rfl, ?_, hB.trans (belowK_b (w := w) (Nat.le_refl _) W D _ _ (by omega) hKH.out rfl rfl)⟩
  exact OwnL.putObj hoH.out hKH.out rfl celled_int
 case stop => rintro D c pre W - - h -; exact h.elim
set_option maxHeartbeats 1000000 in
theorem collO_any {s : Sg} {xc xb : Nat} {a : Option Addr} {c : Nat} {l : List Ent} (w : World) (hxc : xc < w.heap.size) (hxb : xb < w.heap.size) (c0 : w.cell? ⟨xc, 0, none⟩ = some (.pointer (some ⟨xb, 0, none⟩))) (c1 : w.cell? ⟨xb, 1, none⟩ = some (.slice a l.length c))
  (hL : LibL (fun b => b < w.heap.size) w a c l) (hok : okLib s l = true) :
  Calls Tryz.prog 155 #[.func (.func 183) #[] #[.pointer (some ⟨xc, 0, none⟩)]] w (OrdOut w l) := by
 have v := Lib.hid (apO_any w hxc hxb c0 c1 hL hok)
 clear hxc hxb c0 c1 hL hok
 go_enter Tryz.func155, Tryz.ntmps155
 go_wp2_with fail
 refine v.out.mono ?_
 rintro e w' ⟨v, rfl, h1, h2⟩
 have hR := Lib.hid (⟨v, rfl, h1, h2⟩ : OrdOut w l (.returned v) w')
 obtain ⟨av, cv, rfl, -⟩ := OwnI.ints h1
 clear h1 h2
 go_wp2_with fail
 go_ret
 exact hR.out
end Go.Proofs.YtpmnnoopoblpgaaGreat

/- Walks: deps.Users, deps.Circle. -/
namespace Go.Proofs.YtpmnnoopoblpgaaGreat
open Go Go.RowKit Go.Maps

end Go.Proofs.YtpmnnoopoblpgaaGreat

/- Walks: ordered of the reference. -/
namespace Go.Proofs.YtpmnnoopoblpgaaGreat
open Go Go.RowKit Go.Maps

def dnL (n : Nat) (T : List Nat) : List Bool := (List.range n).map (fun j => decide (j ∈ T))
theorem dnL_len (n : Nat) (T : List Nat) : (dnL n T).length = n := by unfold dnL; simp
theorem dnL_get {n : Nat} {T : List Nat} {i : Nat} (h : i < (dnL n T).length) : (dnL n T)[i] = decide (i ∈ T) := by simp only [dnL, List.getElem_map, List.getElem_range]
theorem dnL_set {n i : Nat} {T : List Nat} : (dnL n T).set i true = dnL n (T ++ [i]) := by
 apply List.ext_getElem
 ·simp [dnL]
 ·intro j h1 h2
  rw [List.getElem_set, dnL_get]
  by_cases e : i = j
  ·subst e; rw [if_pos rfl, dnL_get]; simp
  ·rw [if_neg e, dnL_get]
   rw [Bool.eq_iff_iff, decide_eq_true_eq, decide_eq_true_eq, List.mem_append, List.mem_singleton]
   exact ⟨.inl, fun h => h.elim id (fun h => (e h.symm).elim)⟩
abbrev dnV (g n : Nat) : Value := .slice (some ⟨g, 0, none⟩) n n
def roRel (l : List Ent) (w : World) (T : List Nat) (v : Value) (wr : World) : Prop := OwnI wr (w.heap.size + 1) v (natI T) ∧ OwnB wr w.heap.size (dnV w.heap.size l.length) (dnL l.length T) ∧ Below w.heap.size w wr ∧ w.heap.size + 1 ≤ wr.heap.size
theorem roRel.step {l : List Ent} {w wr : World} {T : List Nat} {v : Value} {i : Nat} (h : roRel l w T v wr) (hl : T.length ≤ 60) (hi : i < l.length) (hl2 : l.length ≤ 60) :
  ∃ v' W', (Builtin.append_ #[25, 25] 25 #[v, .slice (some ⟨wr.heap.size, 0, none⟩) 1 1]).run Tryz.prog (wr.alloc (.cells #[.int .i64 (i : Int)] 3)) = .ok v' W' ∧
   W'.cell? ⟨w.heap.size, i, none⟩ = some (.bool (decide (i ∈ T))) ∧ W'.frozen? ⟨w.heap.size, i, none⟩ = false ∧ roRel l w (T ++ [i]) v' (W'.setCell ⟨w.heap.size, i, none⟩ (.bool true)) ∧ ∃ a n c, v' = .slice a n c := by
 obtain ⟨h1, h2, h3, h4⟩ := h
 obtain ⟨v', W', hrun, ho, hg, -⟩ := OwnL.push (P := Tryz.prog) (t := 25) (ty := 25) h1 Tryz.underlying25 infoInt rfl (vs := [.int .i64 (i : Int)]) (x := (i : Int)) ⟨rfl, by unfold inRange; omega⟩ (by rw [natI_len]; omega) (by rw [natI_len]; unfold big; omega) h4
 have hne : ∀ k, v.ownBlock = some k → k ≠ w.heap.size := fun k hk e => by have := (OwnL.lt h1 k hk).1; omega
 have h2' : OwnB W' w.heap.size (dnV w.heap.size l.length) (dnL l.length T) := OwnL.grown h2 hg (fun k hk e => by
  have := hne k e
  simp only [Value.ownBlock, Option.some.injEq] at hk
  exact this hk.symm) (fun b hb _ => by cases hb)
 have hc := OwnB.cell h2' (dnL_len _ _).symm i (by rw [dnL_len]; exact hi)
 rw [dnL_get] at hc
 obtain ⟨h5, h6⟩ := OwnB.set h2' (dnL_len _ _).symm i true
 rw [dnL_set] at h5
 have hsz : wr.heap.size ≤ W'.heap.size := hg.size
 have ho2 : OwnI (W'.setCell ⟨w.heap.size, i, none⟩ (.bool true)) (w.heap.size + 1) v' (natI (T ++ [i])) := by
  rw [natI_snoc]
  exact OwnL.grown ho h6 (fun k hk e => by injection e with e; have := (OwnL.lt ho k hk).1; omega) (fun b hb _ => by cases hb)
 obtain ⟨a, c, rfl, -⟩ := OwnI.ints ho
 exact ⟨_, W', hrun, hc.1, hc.2, ⟨ho2, h5, (h3.grown hg (by omega) (fun k e => by have := (OwnL.lt h1 k e).1; omega)).grown h6 (by have := h3.size; omega) (fun k e => by injection e with e; omega), by have := h6.size; omega⟩, a, _, c, rfl⟩
end Go.Proofs.YtpmnnoopoblpgaaGreat

/- Walks: Whole, and Circle and Whole of the reference. -/
namespace Go.Proofs.YtpmnnoopoblpgaaGreat
open Go Go.RowKit Go.Maps

end Go.Proofs.YtpmnnoopoblpgaaGreat

/- Walks: order and Order. -/
namespace Go.Proofs.YtpmnnoopoblpgaaGreat
open Go Go.RowKit Go.Maps

theorem ordered_any (xb : Nat) (w : World) : Calls Tryz.prog 156 #[.pointer (some ⟨xb, 0, none⟩)] w fun e w' => e = .returned (.func (.func 183) #[] #[.pointer (some ⟨w.heap.size, 0, none⟩)]) ∧ w' = w.alloc (.cells #[.pointer (some ⟨xb, 0, none⟩)] 61) := by
 go_enter Tryz.func156, Tryz.ntmps156
 go_wp2_with fail
 go_ret
 exact ⟨rfl, rfl⟩
noncomputable def ordM (l : List Ent) : List Nat × Int := if noneB (misB l) = true then (if (ordL l).length < l.length then ([], 12) else (ordL l, 0)) else ([], 5)
noncomputable def orderE (s : Sg) (l : List Ent) : List Nat × Int := if okLib s l = true then ordM l else ([], 1)
def OrdRet (r : List Nat × Int) (w : World) (e : Ending) (w' : World) : Prop := ∃ v, e = .returned (.tuple #[v, .int .i64 r.2]) ∧ OwnI w' w.heap.size v (natI r.1) ∧ Below w.heap.size w w'
theorem OrdRet.nil {w w' : World} {er : Int} (hb : Below w.heap.size w w') : OrdRet ([], er) w (.returned (.tuple #[.slice none 0 0, .int .i64 er])) w' := ⟨_, rfl, OwnL.nil _ _ _ _ _, hb⟩
set_option maxRecDepth 100000 in
set_option maxHeartbeats 1000000 in
theorem dorder_any {B xb : Nat} {w : World} {s : Sg} {l : List Ent} (h : DLib B w xb s l) : Calls Tryz.prog 111 #[.pointer (some ⟨xb, 0, none⟩)] w (OrdRet (ordM l) w) := by
 have vm := Lib.hid (missing_any h)
 have hH := Lib.hid h
 obtain ⟨r, hr⟩ : ∃ r, ordM l = r := ⟨_, rfl⟩
 rw [hr]
 have hrH := Lib.hid hr
 clear h hr
 go_enter Tryz.func111, Tryz.ntmps111
 go_wp2_with fail
 refine vm.out.mono ?_
 rintro e w1 ⟨ob, M, m, rfl, -, -, -, h4, h5⟩
 have hlen := h4.len (tm := 88) Tryz.underlying88 3
 have hn := SMap.none h4
 have hbH := Lib.hid h5
 have hD1 := Lib.hid (hH.out.call h5)
 clear h4 h5
 cases hz : noneB (misB l) with
 | false =>
  rw [hz] at hn
  have hm1 : 0 < m := by
   have : m ≠ 0 := fun e => by rw [e] at hn; cases hn
   omega
  have hm0 : ((0 : Int) < (m : Int)) = True := eq_true (by omega)
  have hf := Lib.hid (show r = ([], 5) by rw [← hrH.out]; unfold ordM; rw [hz]; rfl)
  clear hz hn
  go_wp2_with fail
  go_ret2
  rw [hf.out]
  exact OrdRet.nil hbH.out
 | true =>
  rw [hz] at hn
  have hm1 : ¬ 0 < m := by rw [beq_iff_eq] at hn; omega
  have hm0 : ((0 : Int) < (m : Int)) = False := eq_false (by omega)
  have vo := ordered_any xb w1
  obtain ⟨W, hW⟩ : ∃ W, w1.alloc (.cells #[.pointer (some ⟨xb, 0, none⟩)] 61) = W := ⟨_, rfl⟩
  have hBW : Below w1.heap.size w1 W := by rw [← hW]; exact below1 w1 _
  have hws1 : w1.heap.size < W.heap.size := by rw [← hW]; simp
  have r4 : W.cell? ⟨w1.heap.size, 0, none⟩ = some (.pointer (some ⟨xb, 0, none⟩)) := by rw [← hW]; clear hW; go_simp
  have hDW := hD1.out.call hBW
  obtain ⟨sa, sc, la, lc, bm, hO⟩ := hDW.op
  have hxb : xb < W.heap.size := Nat.lt_of_lt_of_le hDW.2.1 hDW.1
  have q1 := hO.q1
  have vc := collO_any W hws1 hxb r4 q1 (hO.hL.weak (fun b hb => Nat.lt_of_lt_of_le hb hDW.1)) hO.ok
  rw [hW] at vo
  have voH := Lib.hid vo
  have vcH := Lib.hid vc
  have hBWH := Lib.hid hBW
  have hq1 := Lib.hid q1
  have hzH := Lib.hid hz
  have hxbH := Lib.hid hxb
  have hOl := ordL_len l
  clear hO hDW vc vo hz hn hW r4 hBW q1 hws1 hxb
  go_wp2_with fail
  refine voH.out.mono ?_
  rintro e w2 ⟨rfl, rfl⟩
  go_wp2_with fail
  refine vcH.out.mono ?_
  rintro e w3 ⟨v, rfl, ho, hb3⟩
  obtain ⟨av, cv, rfl, -⟩ := OwnI.ints ho
  have q1 := (hb3.cell (p := ⟨xb, 1, none⟩) hxbH.out).trans hq1.out
  have hb4 := Lib.hid (bcall hbH.out (bcall hBWH.out hb3))
  have hoH := Lib.hid (OwnL.baseMono ho (Nat.le_trans hbH.out.size hBWH.out.size))
  have hnl := natI_len (ordL l)
  rw [hnl]
  rw [hnl] at hoH
  clear hb3 ho hnl
  by_cases hlt : (ordL l).length < l.length
  ·have hlt2 : (((ordL l).length : Int) < (l.length : Int)) = True := eq_true (by omega)
   have hf := Lib.hid (show r = ([], 12) by rw [← hrH.out]; unfold ordM; rw [hzH.out, if_pos rfl, if_pos hlt])
   generalize (ordL l).length = no at *
   clear hlt hOl
   go_wp2_with fail
   go_ret2
   rw [hf.out]
   exact OrdRet.nil hb4.out
  ·have hlt2 : (((ordL l).length : Int) < (l.length : Int)) = False := eq_false (by omega)
   have hf := Lib.hid (show r = (ordL l, 0) by rw [← hrH.out]; unfold ordM; rw [hzH.out, if_pos rfl, if_neg hlt])
   have hfin := Lib.hid (show OrdRet r w (.returned (.tuple #[.slice av (ordL l).length cv, .int .i64 0])) w3 from by rw [hf.out]; exact ⟨_, rfl, hoH.out, hb4.out⟩)
   generalize (ordL l).length = no at *
   clear hlt hOl hoH
   go_wp2_with fail
   go_ret2
   exact hfin.out
set_option maxHeartbeats 1000000 in
theorem DepsOrder_any {S1 S2 : Nat → Prop} (sa la : Option Addr) (sc lc : Nat) (s : Sg) (l : List Ent) (w : World) (h1 : Sign S1 w sa sc s) (h2 : LibL S2 w la lc l) (hl : l.length ≤ 1000) :
  Calls Tryz.prog 60 #[.slice sa s.length sc, .slice la l.length lc] w (OrdRet (orderE s l) w) := by
 have v := open_any sa la sc lc s l w h1 h2 hl
 have m := h2.le
 have m1 := h1.le
 obtain ⟨r, hr⟩ : ∃ r, orderE s l = r := ⟨_, rfl⟩
 rw [hr]
 have vH := Lib.hid v
 have hrH := Lib.hid hr
 clear v h1 h2 hr
 go_enter Tryz.func60, Tryz.ntmps60
 go_wp2_with fail
 refine vH.out.mono ?_
 rintro e w1 ⟨hb, h⟩
 have hbH := Lib.hid hb
 rcases h with ⟨hok, rfl⟩ | ⟨hok, xb, hxb, rfl, hD⟩
 ·have hf := Lib.hid (show r = ([], 1) by rw [← hrH.out]; unfold orderE; rw [hok]; rfl)
  clear hb hok vH
  go_wp2_with fail
  go_ret2
  rw [hf.out]
  exact OrdRet.nil hbH.out
 ·have hf : r = ordM l := by rw [← hrH.out]; unfold orderE; rw [hok]; rfl
  have vo := dorder_any hD
  rw [← hf] at vo
  have voH := Lib.hid vo
  clear hb hok vH hf vo hxb hD
  go_wp2_with fail
  refine voH.out.mono ?_
  rintro e w2 ⟨v, rfl, ho, hb2⟩
  have hfin := Lib.hid (show OrdRet r w (.returned (.tuple #[v, .int .i64 r.2])) w2 from ⟨v, rfl, OwnL.baseMono ho hbH.out.size, bcall hbH.out hb2⟩)
  obtain ⟨av, cv, rfl, -⟩ := OwnI.ints ho
  clear ho hb2
  generalize r.2 = er at *
  go_wp2_with fail
  go_ret2
  exact hfin.out
end Go.Proofs.YtpmnnoopoblpgaaGreat

/- Walks: ordered of the reference, walked; orderly and Order. -/
namespace Go.Proofs.YtpmnnoopoblpgaaGreat
open Go Go.RowKit Go.Maps

end Go.Proofs.YtpmnnoopoblpgaaGreat

/- Walks: orderly and Order of the reference. -/
namespace Go.Proofs.YtpmnnoopoblpgaaGreat
open Go Go.RowKit Go.Maps

theorem misB_none {l : List Ent} (h : noneB (misB l) = true) : ∀ x ∈ l, ∀ u ∈ eUses x, (atN l u).isSome = true := fun x hx u hu => by
 unfold noneB at h
 simp only [decide_eq_true_eq] at h
 have := h u
 unfold misB at this
 rw [show (l.any fun x => memB (eUses x) u) = true from List.any_eq_true.2 ⟨x, hx, memB_iff.2 hu⟩, Bool.true_and] at this
 cases ha : atN l u with
 | none => rw [ha] at this; cases this
 | some k => rfl
theorem ordL_circ {l : List Ent} (hd : (l.map eNm).Nodup) (h : noneB (misB l) = true) {C : Option (List ByteArray)} (hC : CircR l C) : (ordL l).length = l.length ↔ C = none := by
 rw [ordL_whole hd (misB_none h)]
 cases C with
 | none => exact ⟨fun _ => rfl, fun _ ⟨x, hx, hl⟩ => by have := hC x hx; rw [this] at hl; cases hl⟩
 | some M =>
  obtain ⟨f, h1, h2, -⟩ := hC
  exact ⟨fun h => (h ⟨f, h1, h2⟩).elim, fun h => by cases h⟩
theorem ordly_ok {s : Sg} {l : List Ent} (h : okLib s l = true) (h2 : noneB (misB l) = true) (hC : CircR l none) : orderE s l = (ordL l, 0) := by
 have := (ordL_circ (okLib_parts h).2.2.2 h2 hC).2 rfl
 unfold orderE ordM; rw [h, if_pos rfl, h2, if_pos rfl, if_neg (by omega)]
end Go.Proofs.YtpmnnoopoblpgaaGreat
