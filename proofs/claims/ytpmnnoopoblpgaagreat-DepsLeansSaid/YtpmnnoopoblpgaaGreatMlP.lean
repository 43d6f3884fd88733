/- The proof of a statement, some of its texts joined in build order: part P. -/
import Derived.Test.YtpmnnoopoblpgaaGreatRegS
import Derived.Test.YtpmnnoopoblpgaaGreatMlD
import Derived.Lib.SlicesCompact
import Derived.Test.YtpmnnoopoblpgaaGreatMlE
import Derived.Test.YtpmnnoopoblpgaaGreatMlA
import Derived.Test.YtpmnnoopoblpgaaGreatMlB
import Derived.Test.YtpmnnoopoblpgaaGreatWalkL
import Derived.Test.YtpmnnoopoblpgaaGreatMath6
import Derived.Test.YtpmnnoopoblpgaaGreatRegion
import Derived.Deep.Cut
import Derived.Deep.RegionLaw
import Derived.Deep.RegionWith
import Derived.Test.YtpmnnoopoblpgaaGreatWalkE
import Derived.Test.YtpmnnoopoblpgaaGreatLit
import Derived.Test.YtpmnnoopoblpgaaGreatMlI
import Derived.BigQuiet
import Derived.Deep.WholeRow
import Derived.Test.YtpmnnoopoblpgaaGreatWalkJ
import Derived.Laws.CopyOwn
import Derived.Test.YtpmnnoopoblpgaaGreatMlR
import Derived.Maps.RangeWalk
/- Needed steps, counts and heights of proofs by their trees, in plain words. No program is named. -/
namespace Go.Proofs.YtpmnnoopoblpgaaGreat

end Go.Proofs.YtpmnnoopoblpgaaGreat

/- Givens that needed steps cite, in plain words: a sorted list, each once, is what a range is left with. No program is named. -/
namespace Go.Proofs.YtpmnnoopoblpgaaGreat

end Go.Proofs.YtpmnnoopoblpgaaGreat

/- What Needed answers, in plain words. No program is named. -/
namespace Go.Proofs.YtpmnnoopoblpgaaGreat
end Go.Proofs.YtpmnnoopoblpgaaGreat

/- What the reference comes to from an entry: marks and a queue. No program is named. -/
namespace Go.Proofs.YtpmnnoopoblpgaaGreat

def nmI (l : List Ent) (q : Nat) : ByteArray := eNm (l.getD q default)
def usI (l : List Ent) (q : Nat) : List ByteArray := eUses (l.getD q default)
theorem nmI_at {l : List Ent} {i : Nat} (h : i < l.length) : nmI l i = eNm l[i] := by unfold nmI; rw [getD_at h]
theorem usI_at {l : List Ent} {i : Nat} (h : i < l.length) : usI l i = eUses l[i] := by unfold usI; rw [getD_at h]
theorem atN_nmI {l : List Ent} (hd : (l.map eNm).Nodup) {i : Nat} (h : i < l.length) : atN l (nmI l i) = some i := by rw [nmI_at h]; exact atN_at hd h
theorem usesN_nmI {l : List Ent} (hd : (l.map eNm).Nodup) {i : Nat} (h : i < l.length) : usesN l (nmI l i) = usI l i := by unfold usesN; rw [atN_nmI hd h]; rfl
theorem nmI_of {l : List Ent} {u : ByteArray} {n : Nat} (h : atN l u = some n) : n < l.length ∧ nmI l n = u := by
 obtain ⟨h1, h2⟩ := atN_some h
 exact ⟨h1, by rw [nmI_at h1]; exact h2⟩
def CitP (l : List Ent) (free : ByteArray → Prop) (n u : ByteArray) : Prop := u ∈ usesN l n ∨ ∃ m, Rch (usesN l) free n m ∧ u ∈ usesN l m
def opB (l : List Ent) (sh : List Bool) (x : ByteArray) : Bool := match atN l x with | some k => !sh.getD k false | none => false
structure CitS (l : List Ent) (sh : List Bool) (i k j : Nat) (Q : List Nat) (M : List Bool) : Prop where
 len : M.length = l.length
 hd : ∃ T, Q = i :: T
 nd : Q.tail.Nodup
 lt : ∀ q ∈ Q, q < l.length
 tl : ∀ q ∈ Q.tail, M.getD q false = true
 snd : ∀ n, M.getD n false = true → CitP l (fun x => opB l sh x = true) (nmI l i) (nmI l n)
 qs : ∀ q ∈ Q.tail, Rch (usesN l) (fun x => opB l sh x = true) (nmI l i) (nmI l q)
 out : ∀ n, M.getD n false = true → sh.getD n false = false → n ∈ Q.tail
 done : ∀ t, t < k → ∀ u ∈ usI l (Q.getD t 0), ∀ n, atN l u = some n → M.getD n false = true
 part : ∀ u ∈ (usI l (Q.getD k 0)).take j, ∀ n, atN l u = some n → M.getD n false = true
section
variable {l : List Ent} {sh : List Bool} {i k j n : Nat} {Q : List Nat} {M : List Bool}
theorem getD_rep (m n : Nat) : (List.replicate m false).getD n false = false := by
 rw [List.getD_eq_getElem?_getD, List.getElem?_replicate]; split <;> rfl
theorem CitS.start (hi : i < l.length) : CitS l sh i 0 0 [i] (List.replicate l.length false) :=
 ⟨by simp, ⟨[], rfl⟩, by simp, (fun q hq => by rw [List.mem_singleton] at hq; rw [hq]; exact hi), (fun q hq => by simp at hq), (fun n hn => by rw [getD_rep] at hn; cases hn), (fun q hq => by simp at hq),
  (fun n hn => by rw [getD_rep] at hn; cases hn), (fun t ht => by omega), (fun u hu => by simp at hu)⟩
theorem CitS.size (h : CitS l sh i k j Q M) : Q.length ≤ l.length + 1 := by
 obtain ⟨T, rfl⟩ := h.hd
 have h1 := h.nd
 have h2 := h.lt
 simp only [List.tail_cons] at h1
 have : T.length ≤ (List.range l.length).length := nodupLe h1 (fun x hx => List.mem_range.2 (h2 x (by simp [hx])))
 rw [List.length_range] at this
 simp; omega
theorem CitS.qlt (h : CitS l sh i k j Q M) (hk : k < Q.length) : Q.getD k 0 < l.length := by
 rw [List.getD_eq_getElem?_getD, List.getElem?_eq_getElem hk]
 exact h.lt _ (List.getElem_mem hk)
theorem CitS.skip (h : CitS l sh i k j Q M) {u : ByteArray} (hu : (usI l (Q.getD k 0))[j]? = some u) (hs : ∀ n, atN l u = some n → M.getD n false = true) : CitS l sh i k (j + 1) Q M :=
 ⟨h.len, h.hd, h.nd, h.lt, h.tl, h.snd, h.qs, h.out, h.done, (fun v hv n hn => by
   obtain ⟨hj, e⟩ := List.getElem?_eq_some_iff.1 hu
   rcases take_mem hj hv with h1 | h1
   ·exact h.part v h1 n hn
   ·rw [h1, e] at hn; exact hs n hn)⟩
theorem CitS.next (h : CitS l sh i k (usI l (Q.getD k 0)).length Q M) : CitS l sh i (k + 1) 0 Q M :=
 ⟨h.len, h.hd, h.nd, h.lt, h.tl, h.snd, h.qs, h.out, (fun t ht u hu n hn => by
   by_cases e : t = k
   ·subst e; exact h.part u (by rw [List.take_length]; exact hu) n hn
   ·exact h.done t (by omega) u hu n hn), (fun u hu => by simp at hu)⟩
theorem mset_getD {M : List Bool} {n m : Nat} (hn : n < M.length) : (M.set n true).getD m false = true ↔ m = n ∨ M.getD m false = true := by
 rw [List.getD_eq_getElem?_getD, List.getD_eq_getElem?_getD, List.getElem?_set]
 by_cases e : n = m
 ·subst e; rw [if_pos rfl, if_pos hn]; simp
 ·rw [if_neg e]
  constructor
  ·exact fun h => .inr h
  ·rintro (h | h)
   ·exact (e h.symm).elim
   ·exact h
theorem cit_from (hdn : (l.map eNm).Nodup) (h : CitS l sh i k j Q M) (hk : k < Q.length) {u : ByteArray} (hu : u ∈ usI l (Q.getD k 0)) :
  CitP l (fun x => opB l sh x = true) (nmI l i) u ∧ (opB l sh u = true → Rch (usesN l) (fun x => opB l sh x = true) (nmI l i) u) := by
 obtain ⟨T, rfl⟩ := h.hd
 cases k with
 | zero =>
  have hi : i < l.length := h.lt i (by simp)
  have hu' : u ∈ usesN l (nmI l i) := by rw [usesN_nmI hdn hi]; exact hu
  exact ⟨.inl hu', fun h => .one hu' h⟩
 | succ k =>
  have hk' : k < T.length := by simpa using hk
  have e : (i :: T).getD (k + 1) 0 = T[k] := by simp [List.getElem?_eq_getElem hk']
  rw [e] at hu
  have hq := h.qs T[k] (by simp)
  have hu' : u ∈ usesN l (nmI l T[k]) := by rw [usesN_nmI hdn (h.lt T[k] (by simp))]; exact hu
  exact ⟨.inr ⟨_, hq, hu'⟩, fun h => hq.more hu' h⟩
theorem getD_snoc {Q : List Nat} {t m : Nat} (h : t < Q.length) : (Q ++ [m]).getD t 0 = Q.getD t 0 := by
 rw [List.getD_eq_getElem?_getD, List.getD_eq_getElem?_getD, List.getElem?_append_left h]
theorem CitS.mark (hdn : (l.map eNm).Nodup) (h : CitS l sh i k j Q M) (hk : k < Q.length) {u : ByteArray} (hu : (usI l (Q.getD k 0))[j]? = some u) (hat : atN l u = some n) (hs : sh.getD n false = true) : CitS l sh i k (j + 1) Q (M.set n true) := by
 obtain ⟨hj, e⟩ := List.getElem?_eq_some_iff.1 hu
 obtain ⟨hn, en⟩ := nmI_of hat
 have hnM : n < M.length := by rw [h.len]; exact hn
 have hc := cit_from hdn h hk (u := u) (by rw [← e]; exact List.getElem_mem hj)
 refine ⟨by rw [List.length_set]; exact h.len, h.hd, h.nd, h.lt, (fun q hq => (mset_getD hnM).2 (.inr (h.tl q hq))), (fun m hm => ?_), h.qs, (fun m hm hsm => ?_), (fun t ht v hv m hm => (mset_getD hnM).2 (.inr (h.done t ht v hv m hm))), (fun v hv m hm => ?_)⟩
 ·rcases (mset_getD hnM).1 hm with e1 | e1
  ·rw [e1, en]; exact hc.1
  ·exact h.snd m e1
 ·rcases (mset_getD hnM).1 hm with e1 | e1
  ·rw [e1, hs] at hsm; cases hsm
  ·exact h.out m e1 hsm
 ·rcases take_mem hj hv with h1 | h1
  ·exact (mset_getD hnM).2 (.inr (h.part v h1 m hm))
  ·rw [h1, e, hat] at hm
   exact (mset_getD hnM).2 (.inl (by injection hm with hm; exact hm.symm))
theorem CitS.push (hdn : (l.map eNm).Nodup) (h : CitS l sh i k j Q M) (hk : k < Q.length) {u : ByteArray} (hu : (usI l (Q.getD k 0))[j]? = some u) (hat : atN l u = some n) (hM : M.getD n false = false) (hs : sh.getD n false = false) : CitS l sh i k (j + 1) (Q ++ [n]) (M.set n true) := by
 obtain ⟨hj, e⟩ := List.getElem?_eq_some_iff.1 hu
 obtain ⟨hn, en⟩ := nmI_of hat
 have hnM : n < M.length := by rw [h.len]; exact hn
 have hc := cit_from hdn h hk (u := u) (by rw [← e]; exact List.getElem_mem hj)
 have hop : opB l sh u = true := by unfold opB; rw [hat]; simp only; rw [hs]; rfl
 obtain ⟨T, hT⟩ := h.hd
 have htl : (Q ++ [n]).tail = Q.tail ++ [n] := by rw [hT]; simp
 refine ⟨by rw [List.length_set]; exact h.len, ⟨T ++ [n], by rw [hT]; rfl⟩, ?_, (fun q hq => ?_), (fun q hq => ?_), (fun m hm => ?_), (fun q hq => ?_), (fun m hm hsm => ?_), (fun t ht v hv m hm => ?_), (fun v hv m hm => ?_)⟩
 ·rw [htl, List.nodup_append]
  exact ⟨h.nd, by simp, fun a ha b hb e => by rw [List.mem_singleton] at hb; have := h.tl a ha; rw [e, hb, hM] at this; cases this⟩
 ·rcases List.mem_append.1 hq with h1 | h1
  ·exact h.lt q h1
  ·rw [List.mem_singleton] at h1; rw [h1]; exact hn
 ·rw [htl] at hq
  rcases List.mem_append.1 hq with h1 | h1
  ·exact (mset_getD hnM).2 (.inr (h.tl q h1))
  ·rw [List.mem_singleton] at h1; exact (mset_getD hnM).2 (.inl h1)
 ·rcases (mset_getD hnM).1 hm with e1 | e1
  ·rw [e1, en]; exact hc.1
  ·exact h.snd m e1
 ·rw [htl] at hq
  rcases List.mem_append.1 hq with h1 | h1
  ·exact h.qs q h1
  ·rw [List.mem_singleton] at h1; rw [h1, en]; exact hc.2 hop
 ·rw [htl]
  rcases (mset_getD hnM).1 hm with e1 | e1
  ·rw [e1]; simp
  ·exact List.mem_append_left _ (h.out m e1 hsm)
 ·rw [getD_snoc (by omega)] at hv
  exact (mset_getD hnM).2 (.inr (h.done t ht v hv m hm))
 ·rw [getD_snoc hk] at hv
  rcases take_mem hj hv with h1 | h1
  ·exact (mset_getD hnM).2 (.inr (h.part v h1 m hm))
  ·rw [h1, e, hat] at hm
   exact (mset_getD hnM).2 (.inl (by injection hm with hm; exact hm.symm))
theorem getD_of_mem {Q : List Nat} {q : Nat} (h : q ∈ Q) : ∃ t, t < Q.length ∧ Q.getD t 0 = q := by
 obtain ⟨t, ht, e⟩ := List.getElem_of_mem h
 exact ⟨t, ht, by rw [List.getD_eq_getElem?_getD, List.getElem?_eq_getElem ht]; exact e⟩
theorem CitS.fin (hdn : (l.map eNm).Nodup) (h : CitS l sh i Q.length 0 Q M) (hn : n < l.length) : M.getD n false = true ↔ CitP l (fun x => opB l sh x = true) (nmI l i) (nmI l n) := by
 refine ⟨h.snd n, fun hc => ?_⟩
 obtain ⟨T, hT⟩ := h.hd
 have hi : i < l.length := h.lt i (by rw [hT]; simp)
 have hq : ∀ q ∈ Q, ∀ u ∈ usesN l (nmI l q), ∀ m, atN l u = some m → M.getD m false = true := fun q hq u hu m hm => by
  obtain ⟨t, ht, e⟩ := getD_of_mem hq
  rw [usesN_nmI hdn (h.lt q hq)] at hu
  exact h.done t ht u (by rw [e]; exact hu) m hm
 have hqT : ∀ q ∈ Q.tail, q ∈ Q := fun q hq => by rw [hT] at hq ⊢; simp at hq ⊢; exact .inr hq
 have hr : ∀ m, Rch (usesN l) (fun x => opB l sh x = true) (nmI l i) m → ∃ q ∈ Q.tail, nmI l q = m := fun m hr => by
  have key : ∀ p u, p ∈ Q → u ∈ usesN l (nmI l p) → opB l sh u = true → ∃ q ∈ Q.tail, nmI l q = u := fun p u hp hu hop => by
   unfold opB at hop
   cases hat : atN l u with
   | none => rw [hat] at hop; cases hop
   | some m =>
    rw [hat] at hop
    obtain ⟨hm, em⟩ := nmI_of hat
    exact ⟨m, h.out m (hq p hp u hu m hat) (by simpa using hop), em⟩
  induction hr with
  | one h1 h2 => exact key i _ (by rw [hT]; simp) h1 h2
  | more _ h1 h2 ih =>
   obtain ⟨p, hp, e⟩ := ih
   exact key p _ (hqT p hp) (by rw [e]; exact h1) h2
 rcases hc with h1 | ⟨m, h1, h2⟩
 ·exact hq i (by rw [hT]; simp) _ h1 n (atN_nmI hdn hn)
 ·obtain ⟨q, hq1, e⟩ := hr m h1
  exact hq q (hqT q hq1) _ (by rw [e]; exact h2) n (atN_nmI hdn hn)
end
open Classical in
noncomputable def citeB (l : List Ent) (sh : List Bool) (i n : Nat) : Bool := decide (CitP l (fun x => opB l sh x = true) (nmI l i) (nmI l n))
theorem citeB_iff {l : List Ent} {sh : List Bool} {i n : Nat} : citeB l sh i n = true ↔ CitP l (fun x => opB l sh x = true) (nmI l i) (nmI l n) := by unfold citeB; simp
theorem CitS.list {l : List Ent} {sh : List Bool} {i : Nat} {Q : List Nat} {M : List Bool} (hdn : (l.map eNm).Nodup) (h : CitS l sh i Q.length 0 Q M) : M = (List.range l.length).map (citeB l sh i) := by
 apply List.ext_getElem (by simp [h.len])
 intro n h1 h2
 have hn : n < l.length := by rw [h.len] at h1; exact h1
 rw [List.getElem_map, List.getElem_range, Bool.eq_iff_iff, citeB_iff, ← h.fin hdn hn, List.getD_eq_getElem?_getD, List.getElem?_eq_getElem h1, Option.getD_some]
theorem cit_free {l : List Ent} {i n : Nat} (_ : n < l.length) : CitP l (fun x => opB l (List.replicate l.length false) x = true) (nmI l i) (nmI l n) ↔ Rch (usesN l) (fun _ => (true : Bool) = true) (nmI l i) (nmI l n) := by
 have key : ∀ u m, Rch (usesN l) (fun _ => (true : Bool) = true) u m → ∀ v, v ∈ usesN l m → Rch (usesN l) (fun x => opB l (List.replicate l.length false) x = true) u m := fun u m hr v hv => by
  have hin : ∀ m v, v ∈ usesN l m → opB l (List.replicate l.length false) m = true := fun m v hv => by
   unfold usesN at hv
   unfold opB
   cases hat : atN l m with
   | none => rw [hat] at hv; cases hv
   | some k => simp only; rw [getD_rep]; rfl
  induction hr generalizing v with
  | one h1 h2 => exact .one h1 (hin _ _ hv)
  | more _ h1 h2 ih => exact (ih _ h1).more h1 (hin _ _ hv)
 constructor
 ·rintro (h | ⟨m, h1, h2⟩)
  ·exact .one h rfl
  ·exact (h1.mono fun _ _ => rfl).more h2 rfl
 ·intro h
  cases h with
  | one h1 h2 => exact .inl h1
  | more h0 h1 h2 => exact .inr ⟨_, key _ _ h0 _ h1, h1⟩
end Go.Proofs.YtpmnnoopoblpgaaGreat

/- If entries say something more general, what holds goes on holding, where no step becomes too great or has no "if". No program is named. -/
namespace Go.Proofs.YtpmnnoopoblpgaaGreat

end Go.Proofs.YtpmnnoopoblpgaaGreat

/- What is shaken: told by marks and told by names, it is one. No program is named. -/
namespace Go.Proofs.YtpmnnoopoblpgaaGreat

def mssB (l : List Ent) (u : ByteArray) : Bool := l.any (fun x => memB (eUses x) u) && (atN l u).isNone
noncomputable def badB (s : Sg) (l : List Ent) (u : ByteArray) : Bool := mssB l u || chB l (fun i => !holdX s l i) u
open Classical in
noncomputable def goodB (s : Sg) (l : List Ent) (i : Nat) : Bool := !badB s l (nmI l i) && decide (∀ n, rchB l (fun _ => true) (nmI l i) n = true → badB s l n = false)
noncomputable def leanI (l : List Ent) (i n : Nat) : Bool := citeB l (List.replicate l.length false) i n
theorem leanI_iff {l : List Ent} {i n : Nat} (hn : n < l.length) : leanI l i n = true ↔ rchB l (fun _ => true) (nmI l i) (nmI l n) = true := by
 unfold leanI
 rw [citeB_iff, rchB_iff, cit_free hn]
end Go.Proofs.YtpmnnoopoblpgaaGreat

/- The box of the reference's Match in the world; positions in terms. -/
namespace Go.Proofs.YtpmnnoopoblpgaaGreat
open Go Go.RowKit Go.Maps

structure BoxM (w : World) (xb : Nat) (B : Bd) : Prop where
 blk : ∃ vs : List Value, w.heap[xb]? = some (.cells vs.toArray 120 (0, 0)) ∧ vs.length = 12 ∧ ∀ i (h : i < vs.length), SlotW (fun b => b ≠ xb) w (B (-(i : Int) - 1)) vs[i]
section
variable {w w' : World} {xb : Nat} {B : Bd}
theorem BoxM.lt (h : BoxM w xb B) : xb < w.heap.size := by obtain ⟨vs, h1, -⟩ := h.blk; exact (Array.getElem?_eq_some_iff.1 h1).1
theorem BoxM.below (h : BoxM w xb B) (hb : Below w.heap.size w w') : BoxM w' xb B := by
 obtain ⟨vs, h1, h2, h3⟩ := h.blk
 exact ⟨⟨vs, (hb.block xb h.lt).trans h1, h2, fun i hi => (h3 i hi).mono (fun _ _ h => h) (.all hb)⟩⟩
theorem BoxM.frozen (h : BoxM w xb B) (o : Nat) : w.frozen? ⟨xb, o, none⟩ = false := by
 obtain ⟨vs, h1, -⟩ := h.blk
 simp [World.frozen?, h1]
theorem BoxM.set (h : BoxM w xb B) {n : Nat} {q : List Int} {a : Option Addr} {c : Nat} (hq : Ints (fun b => b ≠ xb) w a c q) :
  BoxM (w.setCell ⟨xb, n, none⟩ (.slice a q.length c)) xb (upB B (-(n : Int) - 1) q) := by
 obtain ⟨vs, h1, h2, h3⟩ := h.blk
 have hg := gby_set w xb n (.slice a q.length c)
 have hA : Agree (fun b => b ≠ xb) w (w.setCell ⟨xb, n, none⟩ (.slice a q.length c)) := .of_grown hg (fun b hb e => hb (by cases e; rfl))
 refine ⟨⟨vs.set n (.slice a q.length c), ?_, by simp [h2], fun i hi => ?_⟩⟩
 ·rw [heap_set h1]
  simp
 ·rw [List.length_set] at hi
  rw [List.getElem_set]
  unfold upB
  by_cases e : n = i
  ·rw [if_pos e, if_pos (by omega)]; exact ⟨a, c, rfl, hq.same hA⟩
  ·rw [if_neg e, if_neg (by omega)]; exact (h3 i hi).mono (fun _ _ h => h) hA
theorem BoxM.congr {B' : Bd} (h : BoxM w xb B) (he : B = B') : BoxM w xb B' := he ▸ h
theorem BoxM.new (W : World) : BoxM (W.alloc (.cells #[.slice none 0 0, .slice none 0 0, .slice none 0 0, .slice none 0 0, .slice none 0 0, .slice none 0 0, .slice none 0 0, .slice none 0 0, .slice none 0 0, .slice none 0 0, .slice none 0 0, .slice none 0 0] 120)) W.heap.size (fun _ => none) := by
 refine ⟨⟨List.replicate 12 (.slice none 0 0), ?_, by simp, fun i hi => ?_⟩⟩
 ·rw [heap_alloc_new]; rfl
 ·rw [List.getElem_replicate]; rfl
end
end Go.Proofs.YtpmnnoopoblpgaaGreat

/- Walks of the reference's solver: look. -/
namespace Go.Proofs.YtpmnnoopoblpgaaGreat
open Go Go.RowKit Go.Maps

def LkG (S : Nat → Prop) (w : World) (f : Int → Value) (B : Bd) (p : List Int) (a' : Option Addr) (c' : Nat) : Nat → Option Addr → Nat → List Int → Prop
 | 0, a, c, t => (t = p ∧ a = a' ∧ c = c') ∧ ∀ n r, t = n :: r → n < 0 → B n = none
 | k + 1, _, _, t => ∃ n r u a3 c3, t = n :: r ∧ n < 0 ∧ B n = some u ∧ f n = .slice a3 u.length c3 ∧ Ints S w a3 c3 u ∧ LkG S w f B p a' c' k a3 c3 u
theorem LkG.ex {S : Nat → Prop} {w : World} {f : Int → Value} {B : Bd} {p : List Int} (hr : RgB B) (h3 : ∀ n, n < 0 → -24 ≤ n → SlotW S w (B n) (f n)) :
  ∀ (k : Nat) (t : List Int) (a : Option Addr) (c : Nat), Rg t → Ints S w a c t → LkdN B p k t → ∃ a' c', LkG S w f B p a' c' k a c t ∧ Ints S w a' c' p
 | 0, t, a, c, _, hT, ⟨h1, h2⟩ => ⟨a, c, ⟨⟨h1, rfl, rfl⟩, h2⟩, h1 ▸ hT⟩
 | k + 1, t, a, c, rt, hT, ⟨n, r, u, h1, h2, hB, h4⟩ => by
  have hs := h3 n h2 (rt n (by rw [h1]; simp) h2)
  rw [hB] at hs
  obtain ⟨a3, c3, g1, g2⟩ := hs
  obtain ⟨a', c', g3, g4⟩ := LkG.ex hr h3 k u a3 c3 (hr n u hB).1 g2 h4
  exact ⟨a', c', ⟨n, r, u, a3, c3, h1, h2, hB, g1, g2, g3⟩, g4⟩
theorem SolX.cells {S : Nat → Prop} {w : World} {xb : Nat} {a1 : Option Addr} {c1 : Nat} {s : Sg} {B : Bd} (h : SolX S w xb a1 c1 s B) :
  ∃ f : Int → Value, ∀ n, n < 0 → -24 ≤ n → w.cell? ⟨xb, 1 + (-n - 1).toNat, none⟩ = some (f n) ∧ SlotW S w (B n) (f n) := by
 obtain ⟨vs, h1, h2, h3⟩ := h.blk
 refine ⟨fun n => vs.getD (-n - 1).toNat undef, fun n hn h24 => ?_⟩
 have hi : (-n - 1).toNat < vs.length := by omega
 have hg : vs.getD (-n - 1).toNat undef = vs[(-n - 1).toNat] := by rw [List.getD_eq_getElem?_getD, List.getElem?_eq_getElem hi]; rfl
 simp only [hg]
 refine ⟨?_, ?_⟩
 ·rw [Nat.add_comm]
  simp [World.cell?, h1]
 ·have := h3 _ hi
  rw [show (-(((-n - 1).toNat : Nat) : Int) - 1) = n by omega] at this
  exact this
end Go.Proofs.YtpmnnoopoblpgaaGreat

/- Walks of the reference's solver: occurs. -/
namespace Go.Proofs.YtpmnnoopoblpgaaGreat
open Go Go.RowKit Go.Maps

end Go.Proofs.YtpmnnoopoblpgaaGreat

/- Walks of the reference's solver: Solve. -/
namespace Go.Proofs.YtpmnnoopoblpgaaGreat
open Go Go.RowKit Go.Maps

abbrev Nx (xb : Nat) : Nat → Prop := fun b => b ≠ xb
theorem Lkd.len {B : Bd} {a p : List Int} (h : Lkd B a p) (ha : a.length ≤ 60) (hB : ∀ n u, B n = some u → u.length ≤ 60) : p.length ≤ 60 := by
 induction h with
 | stop _ => exact ha
 | go _ hb _ ih => exact ih (hB _ _ hb)
end Go.Proofs.YtpmnnoopoblpgaaGreat

/- Walks of the reference's solver: Solve of any terms. -/
namespace Go.Proofs.YtpmnnoopoblpgaaGreat
open Go Go.RowKit Go.Maps

theorem Slv2.turn {s : Sg} {B : Bd} {θ : Int → List Int} {ρ : Int → Nat} {a b p q : List Int} {B' : Bd} {θ' : Int → List Int} {ρ' : Int → Nat} (h : Slv s B θ ρ) (ha : W1 s a) (hb : W1 s b) (hp : Lkd B a p) (hq : Lkd B b q) (h2 : Slv2 s B θ ρ q p B' θ' ρ') : Slv2 s B θ ρ a b B' θ' ρ' := by
 refine ⟨h2.slv, h2.rg, fun η hw => ?_, h2.less⟩
 rw [h2.sat η hw]
 constructor
 ·rintro ⟨g1, g2⟩
  refine ⟨g1, ?_⟩
  rw [← hp.eta g1 ha (fun n u hB => (h.wf n u hB).1), ← hq.eta g1 hb (fun n u hB => (h.wf n u hB).1), g2]
 ·rintro ⟨g1, g2⟩
  refine ⟨g1, ?_⟩
  rw [hp.eta g1 ha (fun n u hB => (h.wf n u hB).1), hq.eta g1 hb (fun n u hB => (h.wf n u hB).1), g2]
theorem keep2 {W4 w1 w2 : World} {xb : Nat} {v : Value} (h : w1.cell? ⟨xb, 0, none⟩ = some v ∧ Below W4.heap.size W4 w1) (hb : Below w1.heap.size w1 w2) : w2.cell? ⟨xb, 0, none⟩ = some v ∧ Below W4.heap.size W4 w2 := ⟨cell_later hb h.1, bcall h.2 hb⟩
def S4 (xb : Nat) (v vi vj : Value) (ci cj : Addr) (wr w' : World) : Prop := w'.cell? ⟨xb, 0, none⟩ = some v ∧ w'.cell? ci = some vi ∧ w'.cell? cj = some vj ∧ wr.grownBy w' (some xb)
theorem S4.call {xb : Nat} {v vi vj : Value} {ci cj : Addr} {wr w1 w2 : World} (h : w1.cell? ⟨xb, 0, none⟩ = some v ∧ w1.cell? ci = some vi ∧ w1.cell? cj = some vj ∧ wr.grownBy w1 (some xb)) (hb : Below w1.heap.size w1 w2) : w2.cell? ⟨xb, 0, none⟩ = some v ∧ w2.cell? ci = some vi ∧ w2.cell? cj = some vj ∧ wr.grownBy w2 (some xb) :=
 ⟨cell_later hb h.1, cell_later hb h.2.1, cell_later hb h.2.2.1, gby_trans h.2.2.2 (gby_below hb)⟩
theorem S4.solve {xb : Nat} {vi vj : Value} {ci cj : Addr} {wr w1 w2 : World} {a1 : Option Addr} {c1 : Nat} {s : Sg} {B : Bd} (h : w1.cell? ⟨xb, 0, none⟩ = some (.slice a1 s.length c1) ∧ w1.cell? ci = some vi ∧ w1.cell? cj = some vj ∧ wr.grownBy w1 (some xb)) (hi : ci.block ≠ xb) (hj : cj.block ≠ xb) (hg : w1.grownBy w2 (some xb)) (hs : SolX (Nx xb) w2 xb a1 c1 s B) :
  w2.cell? ⟨xb, 0, none⟩ = some (.slice a1 s.length c1) ∧ w2.cell? ci = some vi ∧ w2.cell? cj = some vj ∧ wr.grownBy w2 (some xb) :=
 ⟨hs.sign, (World.cell?_of_block (hg.block _ (World.block_lt_of_cell? _ _ h.2.1) (fun e => hi (by cases e; rfl)))).trans h.2.1, (World.cell?_of_block (hg.block _ (World.block_lt_of_cell? _ _ h.2.2.1) (fun e => hj (by cases e; rfl)))).trans h.2.2.1, gby_trans h.2.2.2 hg⟩
end Go.Proofs.YtpmnnoopoblpgaaGreat

/- Walks of the reference's solver: Apart. -/
namespace Go.Proofs.YtpmnnoopoblpgaaGreat
open Go Go.RowKit Go.Maps

end Go.Proofs.YtpmnnoopoblpgaaGreat

/- Walks of the reference's solver: size, whole. -/
namespace Go.Proofs.YtpmnnoopoblpgaaGreat
open Go Go.RowKit Go.Maps

end Go.Proofs.YtpmnnoopoblpgaaGreat

/- Walks: lemmaryref02.matched. -/
namespace Go.Proofs.YtpmnnoopoblpgaaGreat
open Go Go.RowKit Go.Maps

theorem keep1 {W4 w1 w2 : World} {p : Addr} {v : Value} (h : Below W4.heap.size W4 w1 ∧ w1.cell? p = some v) (hb : Below w1.heap.size w1 w2) : Below W4.heap.size W4 w2 ∧ w2.cell? p = some v := ⟨bcall h.1 hb, cell_later hb h.2⟩
def S3 (xb : Nat) (vi vj : Value) (ci cj : Addr) (wr w' : World) : Prop := wr.grownBy w' (some xb) ∧ w'.cell? ci = some vi ∧ w'.cell? cj = some vj
end Go.Proofs.YtpmnnoopoblpgaaGreat

/- Walks of the reference's solver: whole. -/
namespace Go.Proofs.YtpmnnoopoblpgaaGreat
open Go Go.RowKit Go.Maps

end Go.Proofs.YtpmnnoopoblpgaaGreat

/- Walks: lemmaryref02.Variable, Match, Instance. -/
namespace Go.Proofs.YtpmnnoopoblpgaaGreat
open Go Go.RowKit Go.Maps

end Go.Proofs.YtpmnnoopoblpgaaGreat

/- Walks of the reference's solver: Whole, Few. -/
namespace Go.Proofs.YtpmnnoopoblpgaaGreat
open Go Go.RowKit Go.Maps

end Go.Proofs.YtpmnnoopoblpgaaGreat

/- Walks: kernel.Detaches. -/
namespace Go.Proofs.YtpmnnoopoblpgaaGreat
open Go Go.RowKit Go.Maps

end Go.Proofs.YtpmnnoopoblpgaaGreat

/- Walks: ValidGivens of the reference. -/
namespace Go.Proofs.YtpmnnoopoblpgaaGreat
open Go Go.RowKit Go.Maps

end Go.Proofs.YtpmnnoopoblpgaaGreat

/- Walks: kernel.up, Count, Height. -/
namespace Go.Proofs.YtpmnnoopoblpgaaGreat
open Go Go.RowKit

end Go.Proofs.YtpmnnoopoblpgaaGreat

/- Walks: kernel.Count, kernel.Height. -/
namespace Go.Proofs.YtpmnnoopoblpgaaGreat
open Go Go.RowKit

end Go.Proofs.YtpmnnoopoblpgaaGreat

/- Lists of bools of a call's own; lists made of zeros. -/
namespace Go.Proofs.YtpmnnoopoblpgaaGreat
open Go Go.RowKit

def boolE : Enc Bool where
 size := 1
 pos := by decide
 R _ _ vs x := vs = [.bool x]
 len h := by rw [h]; rfl
 one h := by rw [h]; simp [Value.oneCell']
 mono h _ _ := h
abbrev OwnB (w : World) (base : Nat) (v : Value) (l : List Bool) : Prop := OwnL boolE (fun _ => False) w base 4 v l
section
variable {w : World} {base : Nat} {v : Value} {l : List Bool}
theorem bools_rows {xs : List (List Value)} {T : Nat → Prop} (hl : xs.length = l.length) (hx : ∀ i (h1 : i < xs.length) (h2 : i < l.length), boolE.R T w xs[i] l[i]) : xs = l.map (fun x => [.bool x]) := by
 apply List.ext_getElem (by simpa using hl)
 intro i h1 h2
 rw [List.getElem_map]
 exact hx i h1 (by omega)
theorem flatten_singleB (l : List Bool) : (l.map (fun x => [Value.bool x])).flatten = l.map Value.bool := by
 induction l with
 | nil => rfl
 | cons x r ih => simp [ih]
theorem OwnB.row (h : OwnB w base v l) : w.ownsRow base 4 1 v l.length (l.map Value.bool) := by
 obtain ⟨xs, ho, hl, hx⟩ := h
 obtain rfl := bools_rows hl hx
 rw [flatten_singleB] at ho
 exact ho
theorem OwnB.of_row (h : w.ownsRow base 4 1 v l.length (l.map Value.bool)) : OwnB w base v l :=
 ⟨l.map (fun x => [.bool x]), by rw [flatten_singleB]; exact h, by simp, fun i h1 h2 => by simp [boolE]⟩
theorem OwnB.bools (h : OwnB w base v l) : ∃ a c, v = .slice a l.length c ∧ Sl boolE (fun b => base ≤ b) w a c l := by
 obtain ⟨a, c, rfl, hI⟩ := OwnL.sl h
 exact ⟨a, c, rfl, hI.weak (fun b hb => hb.elim id False.elim)⟩
theorem Sl.bool {S : Nat → Prop} {a : Option Addr} {c : Nat} (h : Sl boolE S w a c l) (i : Nat) (hi : i < l.length) : ∃ b off, a = some ⟨b, off, none⟩ ∧ S b ∧ w.cell? ⟨b, off + i, none⟩ = some (.bool l[i]) := by
 obtain ⟨b, off, ha, hb, _, vs, _, hv, hr⟩ := h.at1 i hi
 have hr' : vs = [.bool l[i]] := hr
 subst hr'
 have := hv 0 (by simp)
 simp [boolE] at this
 exact ⟨b, off, ha, hb, this⟩
theorem OwnB.cell {g cap n : Nat} (h : OwnB w base (.slice (some ⟨g, 0, none⟩) n cap) l) (hn : n = l.length) (i : Nat) (hi : i < l.length) : w.cell? ⟨g, i, none⟩ = some (.bool l[i]) ∧ w.frozen? ⟨g, i, none⟩ = false := by
 subst hn
 have ho := h.row
 exact ⟨by rw [ho.cellAt i (by omega)]; simp [hi], ho.frozenAt i⟩
theorem OwnB.set {g cap n : Nat} (h : OwnB w base (.slice (some ⟨g, 0, none⟩) n cap) l) (hn : n = l.length) (i : Nat) (x : Bool) :
  OwnB (w.setCell ⟨g, i, none⟩ (.bool x)) base (.slice (some ⟨g, 0, none⟩) n cap) (l.set i x) ∧ w.grownBy (w.setCell ⟨g, i, none⟩ (.bool x)) (some g) := by
 subst hn
 obtain ⟨h1, h2⟩ := h.row.stored i (.bool x)
 exact ⟨.of_row (by rw [List.length_set, List.map_set]; exact h1), h2⟩
theorem OwnB.lit (w : World) (l : List Bool) (hl : l.length ≤ maxLen) : OwnB (w.alloc (.cells (l.map Value.bool).toArray 4)) w.heap.size (.slice (some ⟨w.heap.size, 0, none⟩) l.length l.length) l :=
 .of_row (by have := World.ownsRow_lit (e := 4) (size := 1) w (l.map Value.bool).toArray l.length (Nat.le_refl _) hl (by simp); simpa using this)
end
theorem infoBool : (Tryz.prog.info? 4).map (fun i => (i.zero, i.size, i.bytes)) = some (some (.bool false), 1, 1) := by kernel_rfl
theorem makeFalse {W : World} (n : Nat) (hn : n ≤ 100) : (Instr.makeSlice 94 (.int .i64 (n : Int)) (.int .i64 (n : Int))).run Tryz.prog W = .ok (.slice (some ⟨W.heap.size, 0, none⟩) n n) (W.alloc (.cells (Array.replicate n (.bool false)) 4)) := by
 obtain ⟨i, hi, hz0, hz1, hz2⟩ := info_parts infoBool
 have := run_make (P := Tryz.prog) W 94 4 i (.bool false) Tryz.underlying94 hi hz0 .i64 .i64 n n (by omega) (by omega) (by rw [hz2]; omega) (by omega)
 rw [this, hz1, Int.toNat_natCast, Nat.mul_one]
 have hm : madeCells (Value.bool false).cells n = Array.replicate n (.bool false) := by
  apply Array.ext
  ·simp [madeCells]
  ·intro i h1 h2; simp [madeCells, Value.cells, Nat.mod_one]
 rw [hm]
theorem OwnB.made (w : World) (n : Nat) (hn : n ≤ 100) : OwnB (w.alloc (.cells (Array.replicate n (.bool false)) 4)) w.heap.size (.slice (some ⟨w.heap.size, 0, none⟩) n n) (List.replicate n false) := by
 have h := OwnB.lit w (List.replicate n false) (by rw [List.length_replicate]; unfold maxLen; omega)
 rw [List.length_replicate, List.map_replicate, List.toArray_replicate] at h
 exact h
def retB (w : World) (l : List Bool) (e : Ending) (w' : World) : Prop := ∃ v, e = .returned v ∧ OwnB w' w.heap.size v l ∧ Below w.heap.size w w'
end Go.Proofs.YtpmnnoopoblpgaaGreat

/- Walks: lemmaryref04.detach, Detach, Detaches. -/
namespace Go.Proofs.YtpmnnoopoblpgaaGreat
open Go Go.RowKit Go.Maps

end Go.Proofs.YtpmnnoopoblpgaaGreat

/- Walks: lemmaryref06.Name, Has, Index. -/
namespace Go.Proofs.YtpmnnoopoblpgaaGreat
open Go Go.RowKit Go.Maps

theorem nmRel_next {s : ByteArray} {w : World} {k : Nat} (hk : k < s.size) (h : nmTo s (k + 1) = true) : nmRel s w (.int .i64 ((k : Int) + 1)) w ∧ s.size - (intOf (.int .i64 ((k : Int) + 1))).toNat < s.size - (intOf (.int .i64 (k : Int))).toNat :=
 ⟨⟨k + 1, by simp, hk, h, rfl⟩, by simp only [intOf]; omega⟩
theorem nmRel_one {s : ByteArray} {w : World} (hk : 0 < s.size) (h : nmTo s (0 + 1) = true) : nmRel s w (.int .i64 1) w ∧ s.size - (intOf (.int .i64 1)).toNat < s.size - (intOf (.int .i64 ((0 : Nat) : Int))).toNat :=
 ⟨⟨1, rfl, hk, h, rfl⟩, by simp only [intOf]; omega⟩
set_option maxHeartbeats 4000000 in
theorem rName_any (s : ByteArray) (hs : s.size ≤ big) (w : World) : Calls Tryz.prog 25 #[.string s] w fun e w' => e = .returned (.bool (nameB s)) ∧ w = w' := by
 unfold big at hs
 go_enter Tryz.func25, Tryz.ntmps25
 go_wp2_with fail
 go_loopw [3] (fun i wr => nmRel s w i wr) (fun i _ => s.size - (intOf i).toNat)
 case atStart => exact ⟨0, rfl, Nat.zero_le _, rfl, rfl⟩
 case round =>
  obtain ⟨k, rfl, hk, hn, rfl⟩ := hrel
  by_cases hlt : k < s.size
  ·have hg := getD_byte hlt
   have hsu := nmTo_succ s k
   rw [hn, Bool.true_and, hg] at hsu
   have hbad := fun h => nmTo_bad hlt (by rw [hg]; exact h)
   have hkl : ((k : Int) < (s.size : Int)) = True := eq_true (by omega)
   have hsuH := Lib.hid hsu
   have hbadH := Lib.hid hbad
   clear hg hsu hbad hn
   go_wp2_with fail
   all_goals try subst_vars
   all_goals first
    | (exfalso; omega)
    | (exfalso; simp only [Bool.not_eq_false', Bool.not_eq_true', decide_eq_true_eq, decide_eq_false_iff_not, beq_iff_eq, beq_eq_false_iff_ne, ne_eq] at *; omega)
    | exact nmRel_one hlt (hsuH.out.trans (by simp only [nmC, Bool.or_eq_true, Bool.and_eq_true, decide_eq_true_eq, ne_eq]; (try simp only [Bool.not_eq_true', decide_eq_false_iff_not] at *); omega))
    | exact nmRel_next hlt (hsuH.out.trans (by simp only [nmC, Bool.or_eq_true, Bool.and_eq_true, decide_eq_true_eq, ne_eq]; (try simp only [Bool.not_eq_false', Bool.not_eq_true', decide_eq_true_eq, decide_eq_false_iff_not, beq_iff_eq, beq_eq_false_iff_ne, ne_eq] at *); omega))
    | (go_ret; exact ⟨ret_bool (hbadH.out (by rw [Bool.eq_false_iff]; simp only [nmC, Bool.or_eq_true, Bool.and_eq_true, decide_eq_true_eq, ne_eq]; (try simp only [Bool.not_eq_true', decide_eq_false_iff_not, beq_iff_eq, beq_eq_false_iff_ne, ne_eq] at *); first | omega | (simp; done) | (simp; omega))).symm, rfl⟩)
  ·have hkk : k = s.size := by omega
   rw [hkk] at hn
   have hnb : nameB s = (decide (1 ≤ s.size) && decide (s.size ≤ 16)) := by unfold nameB; rw [hn, Bool.true_and]
   have hkl : ((k : Int) < (s.size : Int)) = False := eq_false (by omega)
   have hnbH := Lib.hid hnb
   have hkkH := Lib.hid hkk
   clear hn hnb hkk hlt hk
   by_cases h1 : 1 ≤ s.size
   ·have h1i : ((1 : Int) ≤ (s.size : Int)) = True := eq_true (by omega)
    by_cases h2 : s.size ≤ 16
    ·have h2i : ((s.size : Int) ≤ 16) = True := eq_true (by omega)
     go_wp2_with fail
     go_ret
     exact ⟨ret_bool (by rw [hnbH.out]; simp; omega), rfl⟩
    ·have h2i : ((s.size : Int) ≤ 16) = False := eq_false (by omega)
     go_wp2_with fail
     go_ret
     exact ⟨ret_bool (by rw [hnbH.out]; simp; omega), rfl⟩
   ·have h1i : ((1 : Int) ≤ (s.size : Int)) = False := eq_false (by omega)
    go_wp2_with fail
    go_ret
    exact ⟨ret_bool (by rw [hnbH.out]; simp; omega), rfl⟩
end Go.Proofs.YtpmnnoopoblpgaaGreat

/- Walks: ValidEntry of the reference. -/
namespace Go.Proofs.YtpmnnoopoblpgaaGreat
open Go Go.RowKit Go.Maps

theorem Sl.pre {α : Type} {E : Enc α} {S : Nat → Prop} {w : World} {a : Option Addr} {c : Nat} {l : List α} (h : Sl E S w a c l) (k : Nat) : Sl E S w a c (l.take k) := by
 refine ⟨by have := h.cap; rw [List.length_take]; omega, h.max, fun e => by obtain ⟨e1, e2⟩ := h.nil e; exact ⟨by rw [e1]; simp, e2⟩, fun hne => ?_⟩
 obtain ⟨b, off, ha, hb, hl, hc⟩ := h.dat (fun e => hne (by rw [e]; simp))
 refine ⟨b, off, ha, hb, hl, fun i hi => ?_⟩
 rw [List.length_take] at hi
 obtain ⟨vs, h1, h2, h3⟩ := hc i (by omega)
 exact ⟨vs, h1, h2, by rw [List.getElem_take]; exact h3⟩
theorem nodup_take {us : List ByteArray} {j : Nat} (hj : j < us.length) (h : (us.take j).Nodup) (hm : memB (us.take j) us[j] = false) : (us.take (j + 1)).Nodup := by
 rw [List.take_succ_eq_append_getElem hj, List.nodup_append]
 refine ⟨h, by simp, fun a ha b hb e => ?_⟩
 rw [List.mem_singleton] at hb
 have : memB (us.take j) us[j] = true := memB_iff.2 (by rw [← hb, ← e]; exact ha)
 rw [hm] at this; cases this
theorem nodup_bad {us : List ByteArray} {j : Nat} (hj : j < us.length) (hm : memB (us.take j) us[j] = true) : ¬ us.Nodup := by
 intro h
 obtain ⟨q, hq, e⟩ := List.getElem_of_mem (memB_iff.1 hm)
 rw [List.length_take] at hq
 rw [List.getElem_take] at e
 have := (List.getElem_inj (xs := us) (h₀ := by omega) (h₁ := hj) h).1 e
 omega
theorem all_take {us : List ByteArray} {j : Nat} (hj : j < us.length) (h : (us.take j).all nameB = true) (hn : nameB us[j] = true) : (us.take (j + 1)).all nameB = true := by
 rw [List.take_succ_eq_append_getElem hj, List.all_append, h]; simpa using hn
theorem all_bad {us : List ByteArray} {j : Nat} (hj : j < us.length) (hn : nameB us[j] = false) : us.all nameB = false := by
 rw [List.all_eq_false]; exact ⟨us[j], List.getElem_mem hj, by rw [hn]; simp⟩
def rvyRel (us : List ByteArray) (w2 : World) (i : Value) (wr : World) : Prop := ∃ j : Nat, i = .int .i64 j ∧ j ≤ us.length ∧ (us.take j).Nodup ∧ (us.take j).all nameB = true ∧ Drew w2 wr
set_option maxHeartbeats 4000000 in
theorem rValidEntry_any {S1 S2 : Nat → Prop} (sa : Option Addr) (sc : Nat) (s : Sg) (x : Ent) (a1 a2 a3 : Option Addr) (c1 c2 c3 : Nat) (w : World) (h1 : Sign S1 w sa sc s) (hn : (eNm x).size ≤ big) (hb : (eBy x).size ≤ big)
  (hI : Ints S2 w a1 c1 (eSays x)) (hU : Sl strE S2 w a2 c2 (eUses x)) (hP : Steps S2 w a3 c3 (ePf x)) :
  Calls Tryz.prog 19 #[.slice sa s.length sc, entV (eNm x) (eBy x) (eSays x).length (eUses x).length (ePf x).length a1 a2 a3 c1 c2 c3] w fun e w' => e = .returned (.bool (okEnt s x)) ∧ Below w.heap.size w w' := by
 have m1 := hI.le
 have m2 := hU.le
 have m3 := hP.le
 have hok : okEnt s x = ((nameB (eNm x) && (nameB (eBy x) && isCanonT s (eSays x))) && ((decide ((eUses x).length ≤ 12) && (decide (eUses x).Nodup && (eUses x).all nameB)) && ((decide (eUses x = []) && decide (ePf x = [])) || proofB (eUses x).length (ePf x)))) := rfl
 obtain ⟨W, hW⟩ : ∃ W, w.alloc (.cells #[.string (eNm x), .string (eBy x), .slice a1 (eSays x).length c1, .slice a2 (eUses x).length c2, .slice a3 (ePf x).length c3] 37) = W := ⟨_, rfl⟩
 have hB : Below w.heap.size w W := by rw [← hW]; exact below1 w _
 have q0 : W.cell? ⟨w.heap.size, 0, none⟩ = some (.string (eNm x)) := by rw [← hW]; clear hW; go_simp
 have q1 : W.cell? ⟨w.heap.size, 1, none⟩ = some (.string (eBy x)) := by rw [← hW]; clear hW; go_simp
 have q2 : W.cell? ⟨w.heap.size, 2, none⟩ = some (.slice a1 (eSays x).length c1) := by rw [← hW]; clear hW; go_simp
 have q3 : W.cell? ⟨w.heap.size, 3, none⟩ = some (.slice a2 (eUses x).length c2) := by rw [← hW]; clear hW; go_simp
 have q4 : W.cell? ⟨w.heap.size, 4, none⟩ = some (.slice a3 (ePf x).length c3) := by rw [← hW]; clear hW; go_simp
 have k1 := rName_any (eNm x) hn W
 have k2 := rName_any (eBy x) hb W
 have kv := rValid_any sa a1 sc c1 s (eSays x) W (h1.below hB) (hI.below hB)
 have k3 := fun W' (hb' : Below W.heap.size W W') => rIsCanonical_any sa a1 sc c1 s (eSays x) W' ((h1.below hB).below hb') ((hI.below hB).below hb')
 have k6 := fun W' (hb' : Below W.heap.size W W') => rValidProof_any ((eUses x).length : Int) a3 c3 (ePf x) W' ((hP.below hB).below hb')
 have hcv : okT s (eSays x) = false → isCanonT s (eSays x) = false := fun h => by unfold isCanonT; rw [h]; rfl
 have hUW := hU.below hB
 have hP0 : ePf x = [] → proofB (eUses x).length (ePf x) = false := fun h => by rw [h]; unfold proofB validP; simp
 clear h1 hI hU hP hn hb
 generalize okEnt s x = OK at hok ⊢
 generalize eNm x = nm at *
 generalize eBy x = bn at *
 generalize (eSays x).length = n1 at *
 generalize isCanonT s (eSays x) = b3 at *
 generalize okT s (eSays x) = bv at *
 generalize eUses x = us at *
 generalize ePf x = pf at *
 generalize proofB (us.length : Int) pf = b6 at *
 have hUH := Lib.hid hUW
 have k6H := Lib.hid k6
 have hokH := Lib.hid hok
 have hBH := Lib.hid hB
 have hP0H := Lib.hid hP0
 clear hUW k6 hok hB hP0
 cases hb1 : nameB nm with
 | false =>
  rw [hb1] at k1 hokH
  have k1H := Lib.hid k1
  clear k1 k2 kv k3 hb1 hcv
  go_enter Tryz.func19, Tryz.ntmps19
  go_wp2_with fail
  try rw [hW]
  refine k1H.out.mono ?_
  rintro e w1 ⟨rfl, rfl⟩
  go_wp2_with fail
  go_ret
  exact ⟨by rw [hokH.out]; rfl, hBH.out⟩
 | true =>
 cases hb2 : nameB bn with
 | false =>
  rw [hb1] at k1 hokH
  rw [hb2] at k2 hokH
  have k1H := Lib.hid k1
  have k2H := Lib.hid k2
  clear k1 k2 kv k3 hb1 hb2 hcv
  go_enter Tryz.func19, Tryz.ntmps19
  go_wp2_with fail
  try rw [hW]
  refine k1H.out.mono ?_
  rintro e w1 ⟨rfl, rfl⟩
  go_wp2_with fail
  refine k2H.out.mono ?_
  rintro e w1 ⟨rfl, rfl⟩
  go_wp2_with fail
  go_ret
  exact ⟨by rw [hokH.out]; rfl, hBH.out⟩
 | true =>
 rw [hb1] at k1 hokH
 rw [hb2] at k2 hokH
 have k1H := Lib.hid k1
 have k2H := Lib.hid k2
 clear k1 k2 hb1 hb2
 cases bv with
 | false =>
  have hc := hcv rfl
  subst hc
  have kvH := Lib.hid kv
  clear kv k3 hcv
  go_enter Tryz.func19, Tryz.ntmps19
  go_wp2_with fail
  try rw [hW]
  refine k1H.out.mono ?_
  rintro e w1 ⟨rfl, rfl⟩
  go_wp2_with fail
  refine k2H.out.mono ?_
  rintro e w1 ⟨rfl, rfl⟩
  go_wp2_with fail
  refine kvH.out.mono ?_
  rintro e w2 ⟨rfl, hd⟩
  have hfin := Lib.hid (bcall hBH.out (hd.below _))
  clear hd
  go_wp2_with fail
  go_ret
  exact ⟨by rw [hokH.out]; rfl, hfin.out⟩
 | true =>
 have kvH := Lib.hid kv
 have k3H := Lib.hid k3
 clear kv k3 hcv
 go_enter Tryz.func19, Tryz.ntmps19
 go_wp2_with fail
 try rw [hW]
 refine k1H.out.mono ?_
 rintro e w1 ⟨rfl, rfl⟩
 go_wp2_with fail
 refine k2H.out.mono ?_
 rintro e w1 ⟨rfl, rfl⟩
 go_wp2_with fail
 refine kvH.out.mono ?_
 rintro e w2 ⟨rfl, hd⟩
 have hb2 := hd.below W.heap.size
 have k3a := Lib.hid (k3H.out w2 hb2)
 have p2 := cell_later hb2 q2
 have p3 := cell_later hb2 q3
 have p4 := cell_later hb2 q4
 have hb2H := Lib.hid hb2
 clear hd hb2 q0 q1 q2 q3 q4
 cases b3 with
 | false =>
  go_wp2_with fail
  refine k3a.out.mono ?_
  rintro e w3 ⟨rfl, hb3⟩
  have hfin := Lib.hid (bcall (bcall hBH.out hb2H.out) hb3)
  clear hb3
  go_wp2_with fail
  go_ret
  exact ⟨by rw [hokH.out]; rfl, hfin.out⟩
 | true =>
 rw [Bool.true_and, Bool.true_and, Bool.true_and] at hokH
 go_wp2_with fail
 refine k3a.out.mono ?_
 rintro e w3 ⟨rfl, hb3⟩
 have r3 := cell_later hb3 p3
 have r4 := cell_later hb3 p4
 have hB3 := Lib.hid (bcall hb2H.out hb3)
 have hBw := Lib.hid (bcall (bcall hBH.out hb2H.out) hb3)
 clear hb3 p2 p3 p4
 by_cases h12 : us.length ≤ 12
 ·have h12i : ((12 : Int) < (us.length : Int)) = False := eq_false (by omega)
  have hok2 := hokH.out
  rw [decide_eq_true h12, Bool.true_and] at hok2
  have hok2H := Lib.hid hok2
  clear hok2
  have hU3 := Lib.hid (hUH.out.below hB3.out)
  clear h12
  go_wp2_with fail
  go_loopw [5] (fun i wr => rvyRel us w3 i wr) (fun i _ => us.length - (intOf i).toNat)
  case atStart => exact ⟨0, rfl, Nat.zero_le _, by simp, rfl, .refl _⟩
  case round =>
   obtain ⟨j, rfl, hj, hnd, hal, hD⟩ := hrel
   have s3 := cell_later (hD.below _) r3
   have s4 := cell_later (hD.below _) r4
   have hUr := Lib.hid (hU3.out.drew hD)
   have hDH := Lib.hid hD
   clear hD
   by_cases hjl : j < us.length
   ·obtain ⟨b2, o2, rfl, -, qu, hzu⟩ := hUr.out.str j hjl
    have hjj : (j : Int) < (us.length : Int) := by omega
    have hjl2 : (j : Int) ≤ (us.length : Int) := by omega
    have hlt2 : (us.take j).length = j := by rw [List.length_take]; omega
    have vn := fun m => rName_any us[j] hzu (wr.drewN m)
    have vh := fun m => rHas_any (some ⟨b2, o2, none⟩) c2 (us.take j) us[j] (wr.drewN m) ((hUr.out.pre j).drewN m)
    simp only [hlt2] at vh
    have hbadn : nameB us[j] = false → us.all nameB = false := all_bad hjl
    have hbadm : memB (us.take j) us[j] = true → ¬ us.Nodup := nodup_bad hjl
    have hnext : nameB us[j] = true → memB (us.take j) us[j] = false → ∀ q, rvyRel us w3 (.int .i64 ((j : Int) + 1)) (wr.drewN q) := fun h1 h2 q => ⟨j + 1, by simp, hjl, nodup_take hjl hnd h2, all_take hjl hal h1, drew_more hDH.out _⟩
    have hbadnH := Lib.hid hbadn
    have hbadmH := Lib.hid hbadm
    have hnextH := Lib.hid hnext
    have vnH := Lib.hid vn
    have vhH := Lib.hid vh
    clear hbadn hbadm hnext vn vh hnd hal hlt2
    generalize memB (us.take j) us[j] = bm at *
    generalize us[j] = u at *
    have hj0 : (0 : Int) ≤ (j : Int) := by omega
    have hcap := hUr.out.cap
    have hjc : (j : Int) ≤ (c2 : Int) := by omega
    have hc0 : ¬ c2 = 0 := by omega
    have hc1 : ¬ 0 = c2 := by omega
    clear hcap
    cases hbn : nameB u with
    | false =>
     have hf := Lib.hid (show OK = false by rw [hok2H.out, hbadnH.out hbn]; simp)
     rw [hbn] at vnH
     clear hbn
     go_wp2_with fail
     go_quiet ((go_at_call 25; (with_reducible exact quiet_left (vnH.out _))))
     all_goals go_wp2_with fail
     all_goals go_ret
     all_goals exact ⟨ret_bool hf.out.symm, below_drewN (bcall hBw.out (hDH.out.below _)) _⟩
    | true =>
     rw [hbn] at vnH
     cases bm with
     | true =>
      have hf := Lib.hid (show OK = false by rw [hok2H.out, decide_eq_false (hbadmH.out rfl)]; simp)
      clear hbn
      go_wp2_with fail
      go_quiet (first | (go_at_call 25; (with_reducible exact quiet_left (vnH.out _))) | (go_at_call 39; (with_reducible exact quiet_left (vhH.out _))))
      all_goals go_wp2_with fail
      all_goals go_ret
      all_goals exact ⟨ret_bool hf.out.symm, below_drewN (bcall hBw.out (hDH.out.below _)) _⟩
     | false =>
      have hf := Lib.hid (hnextH.out hbn rfl)
      clear hbn
      go_wp2_with fail
      go_quiet (first | (go_at_call 25; (with_reducible exact quiet_left (vnH.out _))) | (go_at_call 39; (with_reducible exact quiet_left (vhH.out _))))
      all_goals go_wp2_with fail
      all_goals go_roundw
      case rel => exact hf.out _
      case measure => simp [intOf]; omega
   ·have hjj : ((j : Int) < (us.length : Int)) = False := eq_false (by omega)
    rw [List.take_of_length_le (by omega)] at hnd hal
    have hok3 := hok2H.out
    rw [decide_eq_true hnd, hal, Bool.true_and, Bool.true_and] at hok3
    have k6a := Lib.hid (k6H.out wr (bcall hB3.out (hDH.out.below _)))
    have hBe := Lib.hid (bcall hBw.out (hDH.out.below _))
    clear hnd hal hjl hj
    by_cases hp : pf = []
    ·have hz : ((pf.length : Int) == 0) = true := by rw [hp]; rfl
     have hus : decide (us = []) = ((us.length : Int) == 0) := by rw [Bool.eq_iff_iff, decide_eq_true_eq, beq_iff_eq, ← List.length_eq_zero_iff]; omega
     have hf := Lib.hid (show OK = ((us.length : Int) == 0) by rw [hok3, hP0H.out hp, decide_eq_true hp, Bool.and_true, Bool.or_false, hus])
     clear hok3 hp hus
     go_wp2_with fail
     go_ret
     exact ⟨ret_bool hf.out.symm, hBe.out⟩
    ·have hz : ((pf.length : Int) == 0) = false := by rw [beq_eq_false_iff_ne]; intro e; exact hp (List.length_eq_zero_iff.1 (by omega))
     have hf := Lib.hid (show OK = b6 by rw [hok3, decide_eq_false hp, Bool.and_false, Bool.false_or])
     clear hok3 hp
     go_wp2_with fail
     refine k6a.out.mono ?_
     rintro e w6 ⟨rfl, hb6⟩
     have hfin := Lib.hid (bcall hBe.out hb6)
     clear hb6
     go_wp2_with fail
     go_ret
     exact ⟨ret_bool hf.out.symm, hfin.out⟩
 ·have h12i : ((12 : Int) < (us.length : Int)) = True := eq_true (by omega)
  have hok2 := hokH.out
  rw [decide_eq_false h12] at hok2
  have hok2H := Lib.hid hok2
  clear hok2 h12
  go_wp2_with fail
  go_ret
  exact ⟨by rw [hok2H.out]; rfl, hBw.out⟩
end Go.Proofs.YtpmnnoopoblpgaaGreat

/- A name put in its place in an ascending list: the list, and the cells. -/
namespace Go.Proofs.YtpmnnoopoblpgaaGreat
open Go Go.RowKit Go.Maps

theorem ins_asc {L : List ByteArray} (hA : AscN L) {x : ByteArray} {a : Nat} (hx : x ∉ L) (hlt : ∀ j (hj : j < L.length), j < a → ltN L[j] x) (hge : ∀ h : a < L.length, ¬ ltN L[a] x) : AscN (L.take a ++ x :: L.drop a) := by
 have hgt : ∀ y ∈ L.drop a, ltN x y := fun y hy => by
  obtain ⟨j, hj, rfl⟩ := List.getElem_of_mem hy
  rw [List.length_drop] at hj
  rw [List.getElem_drop]
  have ha : a < L.length := by omega
  have h1 : ltN x L[a] := by
   rcases ltN_tri L[a] x with h | h | h
   ·exact (hge ha h).elim
   ·exact (hx (by rw [← h]; exact List.getElem_mem ha)).elim
   ·exact h
  by_cases e : j = 0
  ·subst e; exact h1
  ·exact ltN_tr _ _ _ h1 ((List.pairwise_iff_getElem.1 hA) a (a + j) ha (by omega) (by omega))
 unfold AscN
 rw [List.pairwise_append]
 refine ⟨List.Pairwise.sublist (List.take_sublist _ _) hA, ?_, fun y hy z hz => ?_⟩
 ·rw [List.pairwise_cons]
  exact ⟨hgt, List.Pairwise.sublist (List.drop_sublist _ _) hA⟩
 ·obtain ⟨j, hj, rfl⟩ := List.getElem_of_mem hy
  rw [List.length_take] at hj
  rw [List.getElem_take]
  have h1 := hlt j (by omega) (by omega)
  rcases List.mem_cons.1 hz with e | e
  ·rw [e]; exact h1
  ·exact ltN_tr _ _ _ h1 (hgt z e)
theorem ins_mem {L : List ByteArray} {x y : ByteArray} {a : Nat} : y ∈ L.take a ++ x :: L.drop a ↔ y = x ∨ y ∈ L := by
 conv => rhs; rw [← List.take_append_drop a L]
 simp only [List.mem_append, List.mem_cons]
 constructor
 ·rintro (h | h | h)
  ·exact .inr (.inl h)
  ·exact .inl h
  ·exact .inr (.inr h)
 ·rintro (h | h | h)
  ·exact .inr (.inl h)
  ·exact .inl h
  ·exact .inr (.inr h)
theorem ins_set {L : List ByteArray} {z x : ByteArray} {a : Nat} (ha : a ≤ L.length) : ((L ++ [z]).take (a + 1) ++ L.drop a).set a x = L.take a ++ x :: L.drop a := by
 have hlen : a < (L ++ [z]).length := by simp; omega
 rw [List.take_succ_eq_append_getElem hlen, List.append_assoc, List.singleton_append, List.take_append_of_le_length ha]
 rw [List.set_append, if_neg (by simp; omega)]
 have : a - (L.take a).length = 0 := by simp; omega
 rw [this]; rfl
theorem OwnS.lifted {w : World} {base g cap : Nat} {L : List ByteArray} {z : ByteArray} (h : OwnS w base (.slice (some ⟨g, 0, none⟩) (L.length + 1) cap) (L ++ [z])) {a : Nat} (ha : a ≤ L.length) :
  ∃ cur : List Value, w.heap[g]? = some (.cells cur.toArray 9 (0, 0)) ∧ base ≤ g ∧ a + 1 + ((L.drop a).map Value.string).length ≤ cur.length ∧ (∀ j v, ((L.drop a).map Value.string)[j]? = some v → w.cell? ⟨g, a + j, none⟩ = some v) ∧
   ∀ w2 : World, w2.heap[g]? = some (.cells (splice cur (a + 1) ((L.drop a).map Value.string)).toArray 9 (0, 0)) → OwnS w2 base (.slice (some ⟨g, 0, none⟩) (L.length + 1) cap) ((L ++ [z]).take (a + 1) ++ L.drop a) := by
 obtain ⟨ho, hr⟩ := OwnS.row h
 have hll : (L ++ [z]).length = L.length + 1 := by simp
 rw [hll] at ho
 have hcell := fun j hj => ho.cellAt (g := g) (cap := cap) j hj
 rcases ho.2 with ⟨h0, -⟩ | ⟨g', cap', cur, hv, hb, hg, h1, h2, h3, h4⟩
 ·cases h0
 ·injection hv with e1 e2 e3
  injection e1 with e1
  injection e1 with e1
  subst e1 e3
  have hcl : cur.toList.length = cap := by rw [Array.length_toList, h3]; omega
  have hdl : ((L.drop a).map Value.string).length = L.length - a := by simp
  refine ⟨cur.toList, hg, hb, by rw [hcl, hdl]; omega, fun j v hjv => ?_, fun w2 h2' => ?_⟩
  ·have hj : j < L.length - a := by have := (List.getElem?_eq_some_iff.1 hjv).1; rw [hdl] at this; exact this
   have := hcell (a + j) (by omega)
   rw [this, ← hjv, List.getElem?_map, List.getElem?_map, List.getElem?_drop, List.getElem?_append_left (by omega)]
  ·refine OwnS.of_row ⟨by simp, .inr ⟨g, cap, (splice cur.toList (a + 1) ((L.drop a).map Value.string)).toArray, ?_, hb, h2', ?_, h2, ?_, ?_⟩⟩ (fun y hy => ?_)
   ·simp; omega
   ·simp; omega
   ·rw [List.size_toArray, length_splice _ _ _ (by rw [hcl, hdl]; omega), hcl]; omega
   ·have e5 : ((L ++ [z]).take (a + 1) ++ L.drop a).length * 1 = a + 1 + (L.length - a) := by simp; omega
    rw [e5, List.toList_toArray]
    unfold splice
    rw [List.map_append, List.map_take, ← h4, Nat.mul_one, List.take_take, show min (a + 1) (L.length + 1) = a + 1 by omega, ← List.append_assoc, List.take_append_of_le_length (by rw [List.length_append, List.length_take, hdl, hcl]; omega)]
    exact List.take_of_length_le (by rw [List.length_append, List.length_take, hdl, hcl]; omega)
   ·rcases List.mem_append.1 hy with k | k
    ·exact hr y (List.mem_of_mem_take k)
    ·exact hr y (List.mem_append_left _ (List.mem_of_mem_drop k))
theorem OwnS.setAt {w : World} {base g cap n : Nat} {L : List ByteArray} (h : OwnS w base (.slice (some ⟨g, 0, none⟩) n cap) L) (hn : n = L.length) (i : Nat) (x : ByteArray) (hx : x.size ≤ big) :
  OwnS (w.setCell ⟨g, i, none⟩ (.string x)) base (.slice (some ⟨g, 0, none⟩) n cap) (L.set i x) ∧ w.grownBy (w.setCell ⟨g, i, none⟩ (.string x)) (some g) := by
 subst hn
 obtain ⟨ho, hr⟩ := OwnS.row h
 obtain ⟨h1, h2⟩ := ho.stored i (.string x)
 refine ⟨OwnS.of_row (by rw [List.length_set, List.map_set]; exact h1) (fun y hy => ?_), h2⟩
 rcases List.mem_or_eq_of_mem_set hy with h | h
 ·exact hr y h
 ·rw [h]; exact hx
theorem OwnS.cellAt {w : World} {base g cap n : Nat} {L : List ByteArray} (h : OwnS w base (.slice (some ⟨g, 0, none⟩) n cap) L) (hn : n = L.length) (i : Nat) (hi : i < L.length) : w.cell? ⟨g, i, none⟩ = some (.string L[i]) ∧ w.frozen? ⟨g, i, none⟩ = false := by
 subst hn
 obtain ⟨ho, _⟩ := OwnS.row h
 exact ⟨by rw [ho.cellAt i (by omega)]; simp [hi], ho.frozenAt i⟩
end Go.Proofs.YtpmnnoopoblpgaaGreat

/- Walks: Sorted of the reference. -/
namespace Go.Proofs.YtpmnnoopoblpgaaGreat
open Go Go.RowKit Go.Maps

theorem bytesLess_ltB2 (x y : ByteArray) : Op.bytesLess x.toList y.toList = ltB x y := by
 unfold ltB
 rw [ByteArray.toList_eq, ByteArray.toList_eq, bytesLess_eq]
def srRel (l : List ByteArray) (w : World) (i v : Value) (wr : World) : Prop :=
 ∃ (k : Nat) (L : List ByteArray), i = .int .i64 k ∧ k ≤ l.length ∧ OwnS wr w.heap.size v L ∧ AscN L ∧ L.length ≤ k ∧ (∀ y, y ∈ L ↔ y ∈ l.take k) ∧ Below w.heap.size w wr
set_option maxRecDepth 100000 in
set_option maxHeartbeats 4000000 in
theorem rSorted_any {S : Nat → Prop} (a : Option Addr) (c : Nat) (l : List ByteArray) (w : World) (h : Sl strE S w a c l) (hl : l.length ≤ 2000) :
  Calls Tryz.prog 103 #[.slice a l.length c] w (SortedOut w (memB l)) := by
 have m := h.le
 have hlH := Lib.hid h
 clear h
 go_enter Tryz.func103, Tryz.ntmps103
 go_wp2_with fail
 go_loopw [4, 3] (fun i v wr => srRel l w i v wr) (fun i _ _ => l.length - (intOf i).toNat)
 case atStart => exact ⟨0, [], rfl, Nat.zero_le _, OwnL.nil _ _ _ _ _, .nil, Nat.le_refl _, by simp, .refl _ _⟩
 case round =>
  obtain ⟨k, L, rfl, hk, hO, hA, hLk, hmem, hB⟩ := hrel
  by_cases hlt : k < l.length
  ·obtain ⟨b, o, rfl, -, qx, hzx⟩ := (hlH.out.below hB).str k hlt
   obtain ⟨aL, cL, rfl, hS⟩ := OwnS.strs hO
   have vh := rHas_any aL cL L l[k] wr hS
   have mS := hS.le
   have hxt : ∀ y, y ∈ l.take (k + 1) ↔ y ∈ l.take k ∨ y = l[k] := fun y => by rw [List.take_succ_eq_append_getElem hlt, List.mem_append, List.mem_singleton]
   obtain ⟨x, hx⟩ : ∃ x, l[k] = x := ⟨_, rfl⟩
   rw [hx] at qx hzx vh
   simp only [hx] at hxt
   have hAH := Lib.hid hA
   have hmemH := Lib.hid hmem
   have hxtH := Lib.hid hxt
   have hOH := Lib.hid hO
   have hSH := Lib.hid hS
   have hzxH := Lib.hid hzx
   have hxH := Lib.hid hx
   cases hmb : memB L x with
   | true =>
    rw [hmb] at vh
    have vhH := Lib.hid vh
    have hxin := memB_iff.1 hmb
    have hfin := Lib.hid (show srRel l w (.int .i64 ((k : Int) + 1)) (.slice aL L.length cL) wr from ⟨k + 1, L, by simp, hlt, hO, hA, by omega, fun y => by rw [hxt y, ← hmem y]; exact ⟨.inl, fun h => h.elim id (fun e => by rw [e]; exact hxin)⟩, hB⟩)
    clear vh hO hA hmem hxt hS hmb hx hzx hB hxin
    go_wp2_with fail
    refine vhH.out.mono ?_
    rintro e w2 ⟨rfl, rfl⟩
    go_wp2_with fail
    go_roundw
    case rel => exact hfin.out
    case measure => simp [intOf]; omega
   | false =>
    rw [hmb] at vh
    have vhH := Lib.hid vh
    have hnxH := Lib.hid (show x ∉ L from fun h => by rw [memB_iff.2 h] at hmb; cases hmb)
    have hBH := Lib.hid hB
    clear vh hO hA hmem hxt hS hmb hx hzx hB
    go_wp2_with fail
    refine vhH.out.mono ?_
    rintro e w2 ⟨rfl, rfl⟩
    go_wp2_with fail
    go_loopw [5] (fun i w3 => ∃ j : Nat, i = .int .i64 j ∧ j ≤ L.length ∧ (∀ q (hq : q < L.length), q < j → ltN L[q] x) ∧ Drew wr w3) (fun i _ => L.length - (intOf i).toNat)
    case atStart => exact ⟨0, rfl, Nat.zero_le _, fun q _ h => by omega, .refl _⟩
    case round =>
     obtain ⟨j, rfl, hj, hjl, n, rfl⟩ := hrel
     by_cases hjt : j < L.length
     ·obtain ⟨b2, o2, rfl, -, q2, -⟩ := hSH.out.str j hjt
      have hjjT : ((j : Int) < (L.length : Int)) = True := eq_true (by omega)
      cases hlx : ltB L[j] x with
      | true =>
       have hq := (bytesLess_ltB2 L[j] x).trans hlx
       have hfin := Lib.hid (show ∀ q (hq : q < L.length), q < j + 1 → ltN L[q] x from fun q hq h => by
        by_cases e : q = j
        ·subst e; exact ltB_iff.1 hlx
        ·exact hjl q hq (by omega))
       clear hjl hlx
       generalize L[j] = y at *
       go_wp2_with fail
       go_quiet (fail)
       all_goals go_wp2_with fail
       all_goals exact ⟨⟨j + 1, by go_num, by omega, hfin.out, .mk _ _⟩, by simp [intOf]; omega⟩
      | false =>
       have hq := (bytesLess_ltB2 L[j] x).trans hlx
       have hjlH := Lib.hid hjl
       have hjgH := Lib.hid (show ∀ h : j < L.length, ¬ ltN L[j] x from fun _ h => by rw [ltB_iff.2 h] at hlx; cases hlx)
       clear hjl hlx
       generalize L[j] = y at q2 hq
       go_wp2_with fail
       go_quiet (fail)
       ·generalize hWg : (wr.drewN n).drewN _ = W2
        have hD2 : Drew wr W2 := by rw [← hWg]; exact .mk2 _ _ _
        clear hWg
        have hO2H := Lib.hid (OwnL.call hOH.out (hD2.below _))
        have hB2H := Lib.hid (bcall hBH.out (hD2.below _))
        obtain ⟨v', W', hrun, ho, hg, -⟩ := OwnL.push (P := Tryz.prog) (t := 29) (ty := 29) hO2H.out Tryz.underlying29 infoStr rfl (vs := [.string ⟨#[]⟩]) (x := ⟨#[]⟩) ⟨rfl, by decide⟩ (by omega) (by unfold big; omega) hB2H.out.size
        obtain ⟨g, cap, rfl, hg1, hg2⟩ := OwnL.form ho (by simp)
        have hll : (L ++ [(⟨#[]⟩ : ByteArray)]).length = L.length + 1 := by simp
        rw [hll] at ho hrun
        obtain ⟨cur, k1, k2, k3, k4, k5⟩ := OwnS.lifted ho hj
        have hcs : ((L.drop j).map Value.string).length = L.length - j := by simp
        obtain ⟨cs, hcsd⟩ : ∃ cs, (L.drop j).map Value.string = cs := ⟨_, rfl⟩
        rw [hcsd] at k3 k4 k5 hcs
        have hone : ∀ u ∈ cs, u.oneCell' = true := fun u hu => by
         rw [← hcsd] at hu
         obtain ⟨y, -, rfl⟩ := List.mem_map.1 hu
         rfl
        have k4' : ∀ q v, cs[q]? = some v → W'.drew.cell? ((⟨g, j, none⟩ : Addr).add q) = some v := fun q v hv => by
         have hadd : (⟨g, j, none⟩ : Addr).add q = ⟨g, j + q, none⟩ := by unfold Addr.add; split <;> simp_all
         rw [hadd]; exact k4 q v hv
        have hcap : L.length + 1 ≤ cap := by
         rcases ho.choose_spec.1.2 with ⟨h0, -⟩ | ⟨g', cap', cur', hv, -, -, h1, -⟩
         ·cases h0
         ·injection hv with e1 e2 e3
          subst e3; simpa using h1
        have hBW : Below w.heap.size w W' := hB2H.out.grown hg hB2H.out.size (fun k e => (OwnL.lt hO2H.out k e).1)
        have hk1 := Lib.hid k1
        have hkW := Lib.hid (fun (w3 : World) (h : Hid (w3.heap[g]? = some (.cells (splice cur (j + 1) cs).toArray 9 (0, 0)))) (hb : Below w.heap.size w w3) => by
         have ho3 := k5 w3 h.out
         have hlen3 : L.length + 1 = ((L ++ [(⟨#[]⟩ : ByteArray)]).take (j + 1) ++ L.drop j).length := by simp; omega
         have hc := OwnS.cellAt ho3 hlen3 j (by rw [← hlen3]; omega)
         have hs := OwnS.setAt ho3 hlen3 j x hzxH.out
         rw [ins_set hj] at hs
         exact show (∃ u, w3.cell? ⟨g, j, none⟩ = some u ∧ w3.frozen? ⟨g, j, none⟩ = false) ∧ srRel l w (.int .i64 ((k : Int) + 1)) (.slice (some ⟨g, 0, none⟩) (L.length + 1) cap) (w3.setCell ⟨g, j, none⟩ (.string x)) from
          ⟨⟨_, hc.1, hc.2⟩, k + 1, L.take j ++ x :: L.drop j, by simp, hlt, hs.1, ins_asc hAH.out hnxH.out hjlH.out hjgH.out, by simp; omega, (fun y => by rw [ins_mem, hmemH.out y, hxtH.out y]; exact Or.comm), hb.grown hs.2 hb.size (fun q e => by injection e with e; omega)⟩)
        clear ho hg k1 k5 hcsd hD2
        go_wp2_with (at_builtin; refine wpList_append_run rfl _ _ _ rfl rfl rfl hrun ?_)
        clear hrun
        have hj2 : j ≤ 2000 := by omega
        have hj3 : (j : Int) + 1 ≤ (L.length : Int) + 1 := by omega
        have hj4 : (j : Int) ≤ (L.length : Int) + 1 := by omega
        have hj5 : 0 ≤ (j : Int) + 1 := by omega
        have hj9 : (j : Int) < (L.length : Int) + 1 := by omega
        have hj6 : 0 ≤ (j : Int) := by omega
        have hj7 : IntKind.i64.wrap ((j : Int) + 1) = (j : Int) + 1 := IntWalk.i64_in _ (by omega)
        have hj8 : ((j : Int) + 1).toNat = j + 1 := by omega
        have hcj : ¬ cap = j := by omega
        have hc1 : ¬ cap = j + 1 := by omega
        go_region_law (refine step_copy_splice rfl (.tmp 41) (.tmp 44) 29 29 rfl 9 Tryz.underlying29 (by kernel_rfl) (some ⟨g, j + 1, none⟩) (some ⟨g, j, none⟩) (L.length + 1 - (j + 1)) (cap - (j + 1)) (L.length + 1 - j) (cap - j) (by simp [Act.eval, Act.put] <;> omega) (by simp [Act.eval, Act.put] <;> omega) g (j + 1) cur 9 hk1.out cs (by rw [hcs]; show L.length - j = min (L.length + 1 - j) (L.length + 1 - (j + 1)); omega) (fun h0 => ⟨rfl, _, rfl, k4'⟩) k3 hone w.heap.size w (Below.drew hBW) k2 ?_; intro w4 hg4 hb4)
        obtain ⟨⟨uu, e1, e2⟩, hf⟩ := hkW.out w4 hg4 hb4
        obtain ⟨b', o', hae, -, qx4, -⟩ := (hlH.out.below hb4).str k hlt
        have hae' : b' = b ∧ o' = o := by simpa using hae.symm
        obtain ⟨rfl, rfl⟩ := hae'
        rw [hxH.out] at qx4
        have hfH := Lib.hid hf
        clear hf hg4 hb4 hkW hk1 k3 k4' hone hcs k4 hBW
        go_wp2_with fail
        go_roundw
        case rel => exact hfH.out
        case measure => simp [intOf]; omega
     ·have hkk : ((j : Int) < (L.length : Int)) = False := eq_false (by omega)
      have hjlH := Lib.hid hjl
      have hjgH := Lib.hid (show ∀ h : j < L.length, ¬ ltN L[j] x from fun h => (hjt h).elim)
      clear hjl
      go_wp2_with fail
      go_quiet (fail)
      ·generalize hWg : (wr.drewN n).drewN _ = W2
       have hD2 : Drew wr W2 := by rw [← hWg]; exact .mk2 _ _ _
       clear hWg
       have hO2H := Lib.hid (OwnL.call hOH.out (hD2.below _))
       have hB2H := Lib.hid (bcall hBH.out (hD2.below _))
       obtain ⟨v', W', hrun, ho, hg, -⟩ := OwnL.push (P := Tryz.prog) (t := 29) (ty := 29) hO2H.out Tryz.underlying29 infoStr rfl (vs := [.string ⟨#[]⟩]) (x := ⟨#[]⟩) ⟨rfl, by decide⟩ (by omega) (by unfold big; omega) hB2H.out.size
       obtain ⟨g, cap, rfl, hg1, hg2⟩ := OwnL.form ho (by simp)
       have hll : (L ++ [(⟨#[]⟩ : ByteArray)]).length = L.length + 1 := by simp
       rw [hll] at ho hrun
       obtain ⟨cur, k1, k2, k3, k4, k5⟩ := OwnS.lifted ho hj
       have hcs : ((L.drop j).map Value.string).length = L.length - j := by simp
       obtain ⟨cs, hcsd⟩ : ∃ cs, (L.drop j).map Value.string = cs := ⟨_, rfl⟩
       rw [hcsd] at k3 k4 k5 hcs
       have hone : ∀ u ∈ cs, u.oneCell' = true := fun u hu => by
        rw [← hcsd] at hu
        obtain ⟨y, -, rfl⟩ := List.mem_map.1 hu
        rfl
       have k4' : ∀ q v, cs[q]? = some v → W'.drew.cell? ((⟨g, j, none⟩ : Addr).add q) = some v := fun q v hv => by
        have hadd : (⟨g, j, none⟩ : Addr).add q = ⟨g, j + q, none⟩ := by unfold Addr.add; split <;> simp_all
        rw [hadd]; exact k4 q v hv
       have hcap : L.length + 1 ≤ cap := by
        rcases ho.choose_spec.1.2 with ⟨h0, -⟩ | ⟨g', cap', cur', hv, -, -, h1, -⟩
        ·cases h0
        ·injection hv with e1 e2 e3
         subst e3; simpa using h1
       have hBW : Below w.heap.size w W' := hB2H.out.grown hg hB2H.out.size (fun k e => (OwnL.lt hO2H.out k e).1)
       have hk1 := Lib.hid k1
       have hkW := Lib.hid (fun (w3 : World) (h : Hid (w3.heap[g]? = some (.cells (splice cur (j + 1) cs).toArray 9 (0, 0)))) (hb : Below w.heap.size w w3) => by
        have ho3 := k5 w3 h.out
        have hlen3 : L.length + 1 = ((L ++ [(⟨#[]⟩ : ByteArray)]).take (j + 1) ++ L.drop j).length := by simp; omega
        have hc := OwnS.cellAt ho3 hlen3 j (by rw [← hlen3]; omega)
        have hs := OwnS.setAt ho3 hlen3 j x hzxH.out
        rw [ins_set hj] at hs
        exact show (∃ u, w3.cell? ⟨g, j, none⟩ = some u ∧ w3.frozen? ⟨g, j, none⟩ = false) ∧ srRel l w (.int .i64 ((k : Int) + 1)) (.slice (some ⟨g, 0, none⟩) (L.length + 1) cap) (w3.setCell ⟨g, j, none⟩ (.string x)) from
         ⟨⟨_, hc.1, hc.2⟩, k + 1, L.take j ++ x :: L.drop j, by simp, hlt, hs.1, ins_asc hAH.out hnxH.out hjlH.out hjgH.out, by simp; omega, (fun y => by rw [ins_mem, hmemH.out y, hxtH.out y]; exact Or.comm), hb.grown hs.2 hb.size (fun q e => by injection e with e; omega)⟩)
       clear ho hg k1 k5 hcsd hD2
       go_wp2_with (at_builtin; refine wpList_append_run rfl _ _ _ rfl rfl rfl hrun ?_)
       clear hrun
       have hj2 : j ≤ 2000 := by omega
       have hj3 : (j : Int) + 1 ≤ (L.length : Int) + 1 := by omega
       have hj4 : (j : Int) ≤ (L.length : Int) + 1 := by omega
       have hj5 : 0 ≤ (j : Int) + 1 := by omega
       have hj9 : (j : Int) < (L.length : Int) + 1 := by omega
       have hj6 : 0 ≤ (j : Int) := by omega
       have hj7 : IntKind.i64.wrap ((j : Int) + 1) = (j : Int) + 1 := IntWalk.i64_in _ (by omega)
       have hj8 : ((j : Int) + 1).toNat = j + 1 := by omega
       have hcj : ¬ cap = j := by omega
       by_cases hc1 : cap = j + 1
       ·subst hc1
        go_region_law (refine step_copy_splice rfl (.tmp 41) (.tmp 44) 29 29 rfl 9 Tryz.underlying29 (by kernel_rfl) (some ⟨g, 0, none⟩) (some ⟨g, j, none⟩) (L.length + 1 - (j + 1)) (j + 1 - (j + 1)) (L.length + 1 - j) (j + 1 - j) (by simp [Act.eval, Act.put] <;> omega) (by simp [Act.eval, Act.put] <;> omega) g (j + 1) cur 9 hk1.out cs (by rw [hcs]; show L.length - j = min (L.length + 1 - j) (L.length + 1 - (j + 1)); omega) (fun h0 => by omega) k3 hone w.heap.size w (Below.drew hBW) k2 ?_; intro w4 hg4 hb4)
        obtain ⟨⟨uu, e1, e2⟩, hf⟩ := hkW.out w4 hg4 hb4
        obtain ⟨b', o', hae, -, qx4, -⟩ := (hlH.out.below hb4).str k hlt
        have hae' : b' = b ∧ o' = o := by simpa using hae.symm
        obtain ⟨rfl, rfl⟩ := hae'
        rw [hxH.out] at qx4
        have hfH := Lib.hid hf
        clear hf hg4 hb4 hkW hk1 k3 k4' hone hcs k4 hBW
        go_wp2_with fail
        go_roundw
        case rel => exact hfH.out
        case measure => simp [intOf]; omega
       ·go_region_law (refine step_copy_splice rfl (.tmp 41) (.tmp 44) 29 29 rfl 9 Tryz.underlying29 (by kernel_rfl) (some ⟨g, j + 1, none⟩) (some ⟨g, j, none⟩) (L.length + 1 - (j + 1)) (cap - (j + 1)) (L.length + 1 - j) (cap - j) (by simp [Act.eval, Act.put] <;> omega) (by simp [Act.eval, Act.put] <;> omega) g (j + 1) cur 9 hk1.out cs (by rw [hcs]; show L.length - j = min (L.length + 1 - j) (L.length + 1 - (j + 1)); omega) (fun h0 => ⟨rfl, _, rfl, k4'⟩) k3 hone w.heap.size w (Below.drew hBW) k2 ?_; intro w4 hg4 hb4)
        obtain ⟨⟨uu, e1, e2⟩, hf⟩ := hkW.out w4 hg4 hb4
        obtain ⟨b', o', hae, -, qx4, -⟩ := (hlH.out.below hb4).str k hlt
        have hae' : b' = b ∧ o' = o := by simpa using hae.symm
        obtain ⟨rfl, rfl⟩ := hae'
        rw [hxH.out] at qx4
        have hfH := Lib.hid hf
        clear hf hg4 hb4 hkW hk1 k3 k4' hone hcs k4 hBW
        go_wp2_with fail
        go_roundw
        case rel => exact hfH.out
        case measure => simp [intOf]; omega
  ·have hkk : ((k : Int) < (l.length : Int)) = False := eq_false (by omega)
   have hkl : k = l.length := by omega
   rw [hkl, List.take_length] at hmem
   have hfin := Lib.hid (fun v (hv : OwnS wr w.heap.size v L) => show SortedOut w (memB l) (.returned v) wr from ⟨v, L, rfl, hv, hA, fun y => by rw [hmem y, memB_iff], hB⟩)
   have hOH := Lib.hid hO
   clear hO hA hmem hB hlt hk hkl
   go_wp2_with fail
   go_ret
   exact hfin.out _ hOH.out
end Go.Proofs.YtpmnnoopoblpgaaGreat


/- Walks: lemmaryref04.run, right, Run, Says. -/
namespace Go.Proofs.YtpmnnoopoblpgaaGreat
open Go Go.RowKit Go.Maps

end Go.Proofs.YtpmnnoopoblpgaaGreat

/- Walks: lemmaryref04.right, Run, Says. -/
namespace Go.Proofs.YtpmnnoopoblpgaaGreat
open Go Go.RowKit Go.Maps

end Go.Proofs.YtpmnnoopoblpgaaGreat

/- Walks: Check and Proves, of package kernel and of the reference. -/
namespace Go.Proofs.YtpmnnoopoblpgaaGreat
open Go Go.RowKit Go.Maps

end Go.Proofs.YtpmnnoopoblpgaaGreat

/- What the reference calls holding is what holds. No program is named. -/
namespace Go.Proofs.YtpmnnoopoblpgaaGreat

end Go.Proofs.YtpmnnoopoblpgaaGreat

/- Walks: Index, Givens of the reference; blocked. -/
namespace Go.Proofs.YtpmnnoopoblpgaaGreat
open Go Go.RowKit Go.Maps

def ixN (l : List Ent) (n : ByteArray) : Int := match atN l n with | some i => (i : Int) | none => -1
theorem ixN_some' {l : List Ent} {n : ByteArray} {j : Nat} (h : atN l n = some j) : ixN l n = j := by unfold ixN; rw [h]
theorem ixN_none' {l : List Ent} {n : ByteArray} (h : atN l n = none) : ixN l n = -1 := by unfold ixN; rw [h]
theorem ixN_idx (l : List Ent) (n : ByteArray) : ixN l n = idxE l (fun x => decide (eNm x = n)) := rfl
def rixRel (l : List Ent) (n : ByteArray) (w : World) (i : Value) (wr : World) : Prop := ∃ k : Nat, i = .int .i64 k ∧ k ≤ l.length ∧ (∀ j (hj : j < k) (hl : j < l.length), eNm l[j] ≠ n) ∧ w = wr
set_option maxHeartbeats 1000000 in
theorem rIndex_any {S : Nat → Prop} (a : Option Addr) (c : Nat) (l : List Ent) (n : ByteArray) (w : World) (h : LibL S w a c l) :
  Calls Tryz.prog 14 #[.slice a l.length c, .string n] w fun e w' => e = .returned (.int .i64 (ixN l n)) ∧ w = w' := by
 have m := h.le
 have hH := Lib.hid h
 clear h
 go_enter Tryz.func14, Tryz.ntmps14
 go_wp2_with fail
 go_loopw [5] (fun i wr => rixRel l n w i wr) (fun i _ => l.length - (intOf i).toNat)
 case atStart => exact ⟨0, rfl, Nat.zero_le _, fun j hj => by omega, rfl⟩
 case round =>
  obtain ⟨k, rfl, hk, hno, rfl⟩ := hrel
  by_cases hlt : k < l.length
  ·obtain ⟨b, off, a1, c1, a2, c2, a3, c3, rfl, hbB, p0, p1, p2, p3, p4, z1, z2, hI, hU, hP⟩ := hH.out.ent k hlt
   clear p1 p2 p3 p4 hI hU hP z2
   obtain ⟨x, hx⟩ : ∃ x, eNm l[k] = x := ⟨_, rfl⟩
   rw [hx] at p0 z1
   by_cases he : x = n
   ·have hq := str_eq he
    have hfin := Lib.hid (show ixN l n = k by rw [ixN_idx]; exact idxE_some hlt (fun j hj => decide_eq_false (hno j hj (by omega))) (decide_eq_true (hx.trans he)))
    clear hno hx he
    go_wp2_with fail
    go_ret
    first | exact ⟨ret_int hfin.out.symm, rfl⟩ | exact ⟨ret_int hfin.out.symm, trivial⟩
   ·have hq := str_neq he
    have hfin := Lib.hid (show rixRel l n w (.int .i64 ((k : Int) + 1)) w from ⟨k + 1, by simp, hlt, fun j hj hl => by
     by_cases e : j = k
     ·subst e; rw [hx]; exact he
     ·exact hno j (by omega) hl, rfl⟩)
    clear hno hx he
    go_wp2_with fail
    go_roundw
    case rel => exact hfin.out
    case measure => simp [intOf]; omega
  ·have hkk : ((k : Int) < (l.length : Int)) = False := eq_false (by omega)
   have hfin := Lib.hid (show ixN l n = -1 by rw [ixN_idx]; exact idxE_none (fun j hj => decide_eq_false (hno j (by omega) hj)))
   clear hno hlt hk
   go_wp2_with fail
   go_ret
   first | exact ⟨ret_int hfin.out.symm, rfl⟩ | exact ⟨ret_int hfin.out.symm, trivial⟩
end Go.Proofs.YtpmnnoopoblpgaaGreat

/- Walks: failing. -/
namespace Go.Proofs.YtpmnnoopoblpgaaGreat
open Go Go.RowKit Go.Maps

noncomputable def faiTo (s : Sg) (l : List Ent) (k : Nat) (u : ByteArray) : Bool := misB l u || (List.range k).any (fun i => !holdX s l i && decide (eNm (l.getD i default) = u))
theorem faiTo_zero (s : Sg) (l : List Ent) : faiTo s l 0 = misB l := by funext u; unfold faiTo; simp
theorem faiTo_ok {s : Sg} {l : List Ent} {k : Nat} (h : holdX s l k = true) : faiTo s l (k + 1) = faiTo s l k := by
 funext u
 unfold faiTo
 rw [List.range_succ, List.any_append]
 simp [h]
theorem faiTo_bad {s : Sg} {l : List Ent} {k : Nat} (hk : k < l.length) (h : holdX s l k = false) : (fun z => if z = eNm l[k] then true else faiTo s l k z) = faiTo s l (k + 1) := by
 funext u
 unfold faiTo
 rw [List.range_succ, List.any_append]
 by_cases e : u = eNm l[k]
 ·subst e; simp [h, List.getElem?_eq_getElem hk]
 ·have : decide (eNm l[k] = u) = false := decide_eq_false (fun h => e h.symm)
  simp [h, e, List.getElem?_eq_getElem hk, this]
noncomputable def faiB (s : Sg) (l : List Ent) (u : ByteArray) : Bool := misB l u || chB l (fun i => !holdX s l i) u
theorem faiTo_all (s : Sg) (l : List Ent) : faiTo s l l.length = faiB s l := rfl
def faRel (s : Sg) (l : List Ent) (w : World) (ob M0 : Nat) (i : Value) (wr : World) : Prop := ∃ k M m : Nat, i = .int .i64 k ∧ k ≤ l.length ∧ M ≤ M0 + k ∧ m ≤ M ∧ SSet wr ob M m (faiTo s l k) ∧ Below w.heap.size w wr
set_option maxHeartbeats 4000000 in
theorem failing_any {B xb : Nat} {w : World} {s : Sg} {l : List Ent} (h : DLib B w xb s l) : Calls Tryz.prog 93 #[.pointer (some ⟨xb, 0, none⟩)] w fun e w' => ∃ ob M m, e = .returned (.map (some ob)) ∧ w.heap.size ≤ ob ∧ M ≤ 1000 ∧ m ≤ M ∧ SSet w' ob M m (faiB s l) ∧ Below w.heap.size w w' := by
 have vm := missing_any h
 have hl60 := (okLib_parts h.2.2.1).2.1
 have vmH := Lib.hid vm
 have hH := Lib.hid h
 clear vm h
 go_enter Tryz.func93, Tryz.ntmps93
 go_wp2_with fail
 refine vmH.out.mono ?_
 rintro e w1 ⟨ob, M0, m0, rfl, hob, hM0, hm0, hS0, hb1⟩
 obtain ⟨sa, sc, la, lc, bm, hO⟩ := (hH.out.call hb1).op
 have ml := hO.hL.le
 have q1 := hO.q1
 have hOH := Lib.hid hO
 have hst := Lib.hid (show faRel s l w ob M0 (.int .i64 0) w1 from ⟨0, M0, m0, rfl, Nat.zero_le _, by omega, hm0, by rw [faiTo_zero]; exact hS0, hb1⟩)
 have hbH := Lib.hid hb1
 clear hO hS0 hb1 hm0
 go_wp2_with fail
 go_loopw [13] (fun i wr => faRel s l w ob M0 i wr) (fun i _ => l.length - (intOf i).toNat)
 case atStart => exact hst.out
 case round =>
  obtain ⟨k, M, m, rfl, hk, hM, hm, hS, hB⟩ := hrel
  by_cases hlt : k < l.length
  ·have hD := hH.out.call hB
   have hBl := hH.out.1
   obtain ⟨b, off, a1, c1, a2, c2, a3, c3, rfl, hbB, p0, p1, p2, p3, p4, z1, z2, hI, hU, hP⟩ := hOH.out.hL.ent k hlt
   have hB1r : Below w.heap.size w wr := hB
   have hbB' : b < w.heap.size := by omega
   have s0 := (hB.cell (p := ⟨b, off + k * 5, none⟩) hbB').trans ((hbH.out.cell (p := ⟨b, off + k * 5, none⟩) hbB').symm.trans p0)
   have s1 := (hB.cell (p := ⟨b, off + k * 5 + 1, none⟩) hbB').trans ((hbH.out.cell (p := ⟨b, off + k * 5 + 1, none⟩) hbB').symm.trans p1)
   have s2 := (hB.cell (p := ⟨b, off + k * 5 + 2, none⟩) hbB').trans ((hbH.out.cell (p := ⟨b, off + k * 5 + 2, none⟩) hbB').symm.trans p2)
   have s3 := (hB.cell (p := ⟨b, off + k * 5 + 3, none⟩) hbB').trans ((hbH.out.cell (p := ⟨b, off + k * 5 + 3, none⟩) hbB').symm.trans p3)
   have s4 := (hB.cell (p := ⟨b, off + k * 5 + 4, none⟩) hbB').trans ((hbH.out.cell (p := ⟨b, off + k * 5 + 4, none⟩) hbB').symm.trans p4)
   obtain ⟨W, hW⟩ : ∃ W, wr.alloc (.cells #[.string (eNm l[k]), .string (eBy l[k]), .slice a1 (eSays l[k]).length c1, .slice a2 (eUses l[k]).length c2, .slice a3 (ePf l[k]).length c3] 37) = W := ⟨_, rfl⟩
   have hBW : Below wr.heap.size wr W := by rw [← hW]; exact below1 wr _
   have q0 : W.cell? ⟨wr.heap.size, 0, none⟩ = some (.string (eNm l[k])) := by rw [← hW]; clear hW; go_simp
   have vh := holds_any (hD.call hBW) k hlt
   have hbad := faiTo_bad (s := s) hlt
   have hok := faiTo_ok (s := s) (l := l) (k := k)
   have hBn := bcall hB hBW
   have hSn := hS.below hBW hS.lt
   have vhH := Lib.hid vh
   have hbadH := Lib.hid hbad
   have hokH := Lib.hid hok
   have hBnH := Lib.hid hBn
   have hSnH := Lib.hid hSn
   have hWH := Lib.hid hW
   clear vh hbad hok hBn hSn hS hB hB1r hD hI hU hP p0 p1 p2 p3 p4 hBW hW
   generalize eNm l[k] = nm at *
   generalize eBy l[k] = bn at *
   generalize (eSays l[k]).length = n1 at *
   generalize (eUses l[k]).length = n2 at *
   generalize (ePf l[k]).length = n3 at *
   cases hx : holdX s l k with
   | true =>
    rw [hx] at vhH
    have hfin := Lib.hid (fun w2 (hb : Below W.heap.size W w2) => show faRel s l w ob M0 (.int .i64 ((k : Int) + 1)) w2 from ⟨k + 1, M, m, by simp, hlt, by omega, hm, by rw [hokH.out hx]; exact hSnH.out.below hb hSnH.out.lt, bcall hBnH.out hb⟩)
    clear hx hM hm
    go_wp2_with fail
    rw [hWH.out]
    refine vhH.out.mono ?_
    rintro e w2 ⟨rfl, hb⟩
    have hf := Lib.hid (hfin.out w2 hb)
    clear hb
    go_wp2_with fail
    go_roundw
    case rel => exact hf.out
    case measure => simp [intOf]; omega
   | false =>
    rw [hx] at vhH
    have hfin : ∀ w2, Below W.heap.size W w2 → ∃ w3, (Instr.mapUpdate 88 (.map (some ob)) (.string nm) (.bool true)).run Tryz.prog w2 = .ok () w3 ∧ faRel s l w ob M0 (.int .i64 ((k : Int) + 1)) w3 := fun w2 hb => by
     obtain ⟨w3, h1, h2, h3⟩ := (hSnH.out.below hb hSnH.out.lt).store (tm := 88) Tryz.underlying88 Tryz.underlying9 Tryz.underlying4 (by unfold maxLen; omega) nm (big_max z1)
     rw [hbadH.out hx] at h2
     refine ⟨w3, h1, k + 1, M + 1, _, by simp, hlt, by omega, ?_, h2, (bcall hBnH.out hb).grown h3 (bcall hBnH.out hb).size (fun j e => by injection e with e; omega)⟩
     split <;> omega
    have hfinH := Lib.hid hfin
    clear hx hM hm hfin
    go_wp2_with fail
    rw [hWH.out]
    refine vhH.out.mono ?_
    rintro e w2 ⟨rfl, hb⟩
    obtain ⟨w3, hup, hf⟩ := hfinH.out w2 hb
    have r0 := cell_later hb q0
    have hfH := Lib.hid hf
    clear hb hf q0
    go_wp2_with fail
    go_roundw
    case rel => exact hfH.out
    case measure => simp [intOf]; omega
  ·have hkk : ((k : Int) < (l.length : Int)) = False := eq_false (by omega)
   have hkl : k = l.length := by omega
   rw [hkl, faiTo_all] at hS
   have hfin := Lib.hid (show ∃ ob' M' m', (Ending.returned (.map (some ob)) : Ending) = .returned (.map (some ob')) ∧ w.heap.size ≤ ob' ∧ M' ≤ 1000 ∧ m' ≤ M' ∧ SSet wr ob' M' m' (faiB s l) ∧ Below w.heap.size w wr from ⟨ob, M, m, rfl, hob, by omega, hm, hS, hB⟩)
   clear hS hB hlt hk hkl hM hm
   go_wp2_with fail
   go_ret
   exact hfin.out
end Go.Proofs.YtpmnnoopoblpgaaGreat

/- Walks: missing of the reference. -/
namespace Go.Proofs.YtpmnnoopoblpgaaGreat
open Go Go.RowKit Go.Maps

def colN (l : List Ent) (us : List ByteArray) : List ByteArray := us.filter (fun u => (atN l u).isNone)
theorem colN_no {l : List Ent} {P us : List ByteArray} {j : Nat} (hj : j < us.length) {i : Nat} (h : atN l us[j] = some i) : colN l (P ++ us.take (j + 1)) = colN l (P ++ us.take j) := by
 unfold colN
 rw [List.take_succ_eq_append_getElem hj, ← List.append_assoc, List.filter_append (l₁ := P ++ us.take j), List.filter_cons_of_neg (by rw [h]; simp), List.filter_nil, List.append_nil]
theorem colN_yes {l : List Ent} {P us : List ByteArray} {j : Nat} (hj : j < us.length) (h : atN l us[j] = none) : colN l (P ++ us.take (j + 1)) = colN l (P ++ us.take j) ++ [us[j]] := by
 unfold colN
 rw [List.take_succ_eq_append_getElem hj, ← List.append_assoc, List.filter_append (l₁ := P ++ us.take j), List.filter_cons_of_pos (by rw [h]; rfl), List.filter_nil]
theorem flat_take {l : List Ent} {k : Nat} (hk : k < l.length) : (l.take (k + 1)).flatMap eUses = (l.take k).flatMap eUses ++ eUses l[k] := by
 rw [List.take_succ_eq_append_getElem hk, List.flatMap_append]; simp
theorem flat_len {l : List Ent} {k : Nat} : ((l.take k).flatMap eUses).length ≤ (allUses l).length := by
 unfold allUses
 conv => rhs; rw [← List.take_append_drop k l]
 rw [List.flatMap_append, List.length_append]; omega
theorem colN_mem {l : List Ent} : memB (colN l (allUses l)) = misB l := by
 funext u
 rw [Bool.eq_iff_iff, memB_iff]
 unfold colN misB allUses
 rw [List.mem_filter, List.mem_flatMap, Bool.and_eq_true, List.any_eq_true]
 constructor
 ·rintro ⟨⟨x, hx, h⟩, h2⟩; exact ⟨⟨x, hx, memB_iff.2 h⟩, h2⟩
 ·rintro ⟨⟨x, hx, h⟩, h2⟩; exact ⟨⟨x, hx, memB_iff.1 h⟩, h2⟩
def rm1Rel (l : List Ent) (w : World) (i v : Value) (wr : World) : Prop := ∃ k : Nat, i = .int .i64 k ∧ k ≤ l.length ∧ OwnS wr w.heap.size v (colN l ((l.take k).flatMap eUses)) ∧ Below w.heap.size w wr
def rm2Rel (l : List Ent) (P us : List ByteArray) (w : World) (i v : Value) (wr : World) : Prop := ∃ j : Nat, i = .int .i64 j ∧ j ≤ us.length ∧ OwnS wr w.heap.size v (colN l (P ++ us.take j)) ∧ Below w.heap.size w wr
set_option maxHeartbeats 4000000 in
theorem rmissing_any {S : Nat → Prop} (a : Option Addr) (c : Nat) (s : Sg) (l : List Ent) (w : World) (h : LibL S w a c l) (hok : okLib s l = true) :
  Calls Tryz.prog 84 #[.slice a l.length c] w (SortedOut w (misB l)) := by
 have m := h.le
 have hH := Lib.hid h
 have hokH := Lib.hid hok
 have hUl := allUses_len hok
 clear h hok
 go_enter Tryz.func84, Tryz.ntmps84
 go_wp2_with fail
 go_loopw [4, 3] (fun i v wr => rm1Rel l w i v wr) (fun i _ _ => l.length - (intOf i).toNat)
 case atStart => exact ⟨0, rfl, Nat.zero_le _, OwnL.nil _ _ _ _ _, .refl _ _⟩
 case round =>
  obtain ⟨k, rfl, hk, hO, hB⟩ := hrel
  by_cases hlt : k < l.length
  ·have hst := Lib.hid (show rm2Rel l ((l.take k).flatMap eUses) (eUses l[k]) w (.int .i64 0) _ wr from ⟨0, rfl, Nat.zero_le _, by rw [List.take_zero, List.append_nil]; exact hO, hB⟩)
   have hftH := Lib.hid (flat_take hlt)
   have hflH := Lib.hid (flat_len (l := l) (k := k + 1))
   clear hO hB
   go_wp2_with fail
   go_loopw [5, 3] (fun i v w2 => rm2Rel l ((l.take k).flatMap eUses) (eUses l[k]) w i v w2) (fun i _ _ => (eUses l[k]).length - (intOf i).toNat)
   case atStart => exact hst.out
   case round =>
    obtain ⟨j, rfl, hj, hO, hB⟩ := hrel
    obtain ⟨b, off, a1, c1, a2, c2, a3, c3, rfl, -, s0, s1, s2, s3, s4, z1, z2, hI, hU, hP⟩ := (hH.out.below hB).ent k hlt
    clear s0 s1 s2 s4 hI hP z1 z2
    have hft := hftH.out
    have hfl := hflH.out
    rw [hft, List.length_append] at hfl
    obtain ⟨us, hus⟩ : ∃ us, eUses l[k] = us := ⟨_, rfl⟩
    rw [hus] at hU s3 hj hO hft hfl
    have husH := Lib.hid hus
    have mU := hU.le
    by_cases hjl : j < us.length
    ·obtain ⟨b2, o2, rfl, -, qu, hzu⟩ := hU.str j hjl
     have vi := rIndex_any (some ⟨b, off, none⟩) c l us[j] _ (hH.out.below hB)
     cases hat : atN l us[j] with
     | some i =>
      rw [ixN_some' hat] at vi
      have hi0 : ((i : Int) < 0) = False := eq_false (by omega)
      rw [← colN_no hjl hat] at hO
      have viH := Lib.hid vi
      have hfin := Lib.hid (show ∀ v, OwnS _ w.heap.size v (colN l ((l.take k).flatMap eUses ++ us.take (j + 1))) → rm2Rel l ((l.take k).flatMap eUses) (eUses l[k]) w (.int .i64 ((j : Int) + 1)) v _ from fun v hv => ⟨j + 1, by simp, by rw [husH.out]; exact hjl, by rw [husH.out]; exact hv, hB⟩)
      have hOH := Lib.hid hO
      clear vi hO hB hat hft hfl hU hus
      generalize us[j] = u at *
      go_wp2_with fail
      refine viH.out.mono ?_
      rintro e w3 ⟨rfl, rfl⟩
      go_wp2_with fail
      go_roundw
      case rel => exact hfin.out _ hOH.out
      case measure => rw [husH.out]; simp [intOf]; omega
     | none =>
      rw [ixN_none' hat] at vi
      have hcl : (colN l ((l.take k).flatMap eUses ++ us.take j)).length ≤ 720 := by
       have : (colN l ((l.take k).flatMap eUses ++ us.take j)).length ≤ ((l.take k).flatMap eUses ++ us.take j).length := List.length_filter_le _ _
       rw [List.length_append, List.length_take] at this
       omega
      have hcy := colN_yes (P := (l.take k).flatMap eUses) hjl hat
      obtain ⟨v', W', hrun, ho, hg, -⟩ := OwnL.push (P := Tryz.prog) (t := 29) (ty := 29) hO Tryz.underlying29 infoStr rfl (vs := [.string us[j]]) (x := us[j]) ⟨rfl, hzu⟩ (by omega) (by unfold big; omega) hB.size
      rw [← hcy] at ho
      have viH := Lib.hid vi
      have hfin := Lib.hid (show rm2Rel l ((l.take k).flatMap eUses) (eUses l[k]) w (.int .i64 ((j : Int) + 1)) v' W' from ⟨j + 1, by simp, by rw [husH.out]; exact hjl, by rw [husH.out]; exact ho, hB.grown hg hB.size (fun q e => (OwnL.lt hO q e).1)⟩)
      clear vi hO hB hat hft hfl hU hus ho hg hcy hcl
      generalize us[j] = u at *
      go_wp2_with fail
      refine viH.out.mono ?_
      rintro e w3 ⟨rfl, rfl⟩
      go_wp2_with (at_builtin; refine wpList_append_run rfl _ _ _ rfl rfl rfl hrun ?_)
      go_roundw
      case rel => exact hfin.out
      case measure => rw [husH.out]; simp [intOf]; omega
    ·have hjj : ((j : Int) < (us.length : Int)) = False := eq_false (by omega)
     have etk : us.take j = us := List.take_of_length_le (by omega)
     rw [etk, ← hft] at hO
     clear etk
     have hfin := Lib.hid (show ∀ v, OwnS _ w.heap.size v (colN l ((l.take (k + 1)).flatMap eUses)) → rm1Rel l w (.int .i64 ((k : Int) + 1)) v _ from fun v hv => ⟨k + 1, by simp, hlt, hv, hB⟩)
     have hOH := Lib.hid hO
     clear hO hB hft hfl hU hus hjl hj
     go_wp2_with fail
     go_roundw
     case rel => exact hfin.out _ hOH.out
     case measure => simp [intOf]; omega
  ·have hkk : ((k : Int) < (l.length : Int)) = False := eq_false (by omega)
   have hkl : k = l.length := by omega
   rw [hkl, List.take_length] at hO
   have hO' : OwnS wr w.heap.size _ (colN l (allUses l)) := hO
   obtain ⟨av, cv, rfl, hS⟩ := OwnS.strs hO'
   have hcl : (colN l (allUses l)).length ≤ 720 := Nat.le_trans (List.length_filter_le _ _) hUl
   have vs := rSorted_any av cv (colN l (allUses l)) wr hS (by omega)
   rw [colN_mem] at vs
   have vsH := Lib.hid vs
   have hBH := Lib.hid hB
   clear vs hS hO' hO hB hlt hk hkl
   go_wp2_with fail
   refine vsH.out.mono ?_
   rintro e w2 ⟨v, L, rfl, h1, h2, h3, h4⟩
   have hfin := Lib.hid (show SortedOut w (misB l) (.returned v) w2 from ⟨v, L, rfl, OwnS.base h1 hBH.out.size, h2, h3, bcall hBH.out h4⟩)
   clear h1 h2 h3 h4
   go_wp2_with fail
   go_ret
   exact hfin.out
end Go.Proofs.YtpmnnoopoblpgaaGreat

/- If an entry says something more general, nothing breaks but itself. No program is named. -/
namespace Go.Proofs.YtpmnnoopoblpgaaGreat

end Go.Proofs.YtpmnnoopoblpgaaGreat

/- Walks: Valid, Find, Missing of the reference. -/
namespace Go.Proofs.YtpmnnoopoblpgaaGreat
open Go Go.RowKit Go.Maps

def rvlRel (s : Sg) (l : List Ent) (w : World) (i : Value) (wr : World) : Prop := ∃ k : Nat, i = .int .i64 k ∧ k ≤ l.length ∧ (l.take k).all (okEnt s) = true ∧ ((l.take k).map eNm).Nodup ∧ Below w.heap.size w wr
theorem okLib_bad1 {s : Sg} {l : List Ent} {k : Nat} (hk : k < l.length) (h : okEnt s l[k] = false) : okLib s l = false := by
 have : l.all (okEnt s) = false := by rw [List.all_eq_false]; exact ⟨l[k], List.getElem_mem hk, by rw [h]; simp⟩
 unfold okLib; rw [this]; simp
theorem okLib_bad2 {s : Sg} {l : List Ent} {k j : Nat} (hk : k < l.length) (h : atN (l.take k) (eNm l[k]) = some j) : okLib s l = false := by
 obtain ⟨hj, e⟩ := atN_some h
 rw [List.length_take] at hj
 rw [List.getElem_take] at e
 have : ¬ (l.map eNm).Nodup := fun hd => by
  have := (List.getElem_inj (xs := l.map eNm) (i := j) (j := k) (h₀ := by rw [List.length_map]; omega) (h₁ := by rw [List.length_map]; exact hk) hd).1 (by rw [List.getElem_map, List.getElem_map]; exact e)
  omega
 unfold okLib; rw [decide_eq_false this]; simp
theorem okLib_next {s : Sg} {l : List Ent} {k : Nat} (hk : k < l.length) (hall : (l.take k).all (okEnt s) = true) (hnd : ((l.take k).map eNm).Nodup) (h : okEnt s l[k] = true) (hat : atN (l.take k) (eNm l[k]) = none) :
  (l.take (k + 1)).all (okEnt s) = true ∧ ((l.take (k + 1)).map eNm).Nodup := by
 rw [List.take_succ_eq_append_getElem hk, List.all_append, hall, List.map_append]
 refine ⟨by simpa using h, ?_⟩
 rw [List.nodup_append]
 refine ⟨hnd, by simp, fun a ha b hb e => ?_⟩
 obtain ⟨x, hx, e1⟩ := List.mem_map.1 ha
 simp at hb
 exact atN_none hat x hx (by rw [e1, e, hb])
set_option maxRecDepth 100000 in
set_option maxHeartbeats 8000000 in
theorem rVld_any {S1 S2 : Nat → Prop} (sa la : Option Addr) (sc lc : Nat) (s : Sg) (l : List Ent) (w : World) (h1 : Sign S1 w sa sc s) (h2 : LibL S2 w la lc l) :
  Calls Tryz.prog 27 #[.slice sa s.length sc, .slice la l.length lc] w fun e w' => e = .returned (.bool (okLib s l)) ∧ Below w.heap.size w w' := by
 have m := h2.le
 have m1 := h1.le
 have vs := rValidSign_any sa sc s w h1
 have h1H := Lib.hid h1
 have h2H := Lib.hid h2
 clear h1 h2
 cases hs : okSign s with
 | false =>
  rw [hs] at vs
  have vsH := Lib.hid vs
  have hf := Lib.hid (show okLib s l = false by unfold okLib; rw [hs]; rfl)
  clear vs hs
  go_enter Tryz.func27, Tryz.ntmps27
  go_wp2_with fail
  refine vsH.out.mono ?_
  rintro e w1 ⟨rfl, hd⟩
  have hB := Lib.hid (hd.below w.heap.size)
  clear hd
  go_wp2_with fail
  go_ret
  exact ⟨ret_bool hf.out.symm, hB.out⟩
 | true =>
 rw [hs] at vs
 have vsH := Lib.hid vs
 have hsH := Lib.hid hs
 clear vs hs
 by_cases h60 : l.length ≤ 60
 ·have h60i : ((60 : Int) < (l.length : Int)) = False := eq_false (by omega)
  go_enter Tryz.func27, Tryz.ntmps27
  go_wp2_with fail
  refine vsH.out.mono ?_
  rintro e w1 ⟨rfl, hd⟩
  have hB := Lib.hid (hd.below w.heap.size)
  clear hd
  go_wp2_with fail
  go_loopw [5] (fun i wr => rvlRel s l w i wr) (fun i _ => l.length - (intOf i).toNat)
  case atStart => exact ⟨0, rfl, Nat.zero_le _, rfl, by simp, hB.out⟩
  case round =>
   obtain ⟨k, rfl, hk, hall, hnd, hBr⟩ := hrel
   by_cases hlt : k < l.length
   ·obtain ⟨b, off, a1, c1, a2, c2, a3, c3, rfl, -, p0, p1, p2, p3, p4, z1, z2, hI, hU, hP⟩ := (h2H.out.below hBr).ent k hlt
    have hcap := h2H.out.cap
    have hkc : (k : Int) ≤ (lc : Int) := by omega
    have hlc0 : ¬ lc = 0 := by omega
    have hkk : (k : Int) < (l.length : Int) := by omega
    have hk0 : (0 : Int) ≤ (k : Int) := by omega
    have hlt2 : (l.take k).length = k := by rw [List.length_take]; omega
    have ve := fun W (hb : Below wr.heap.size wr W) => rValidEntry_any sa sc s l[k] a1 a2 a3 c1 c2 c3 W ((h1H.out.below hBr).below hb) z1 z2 (hI.below hb) (hU.below hb) (hP.below hb)
    have vi := fun W (hb : Below wr.heap.size wr W) => rIndex_any (some ⟨b, off, none⟩) lc (l.take k) (eNm l[k]) W (((h2H.out.pre k).below hBr).below hb)
    simp only [hlt2] at vi
    have hbad := okLib_bad1 (s := s) hlt
    have hbad2 := fun j => okLib_bad2 (s := s) (j := j) hlt
    have hnx := fun h hat => okLib_next hlt hall hnd h hat
    have hixs := fun j (h : atN (l.take k) (eNm l[k]) = some j) => ixN_some' h
    have hixn := fun (h : atN (l.take k) (eNm l[k]) = none) => ixN_none' h
    have hbd : Below wr.heap.size wr wr.drew := Below.drew (.refl _ _)
    have hS0 := (⟨cell_later hbd p0, cell_later hbd p1, cell_later hbd p2, cell_later hbd p3, cell_later hbd p4⟩ : wr.drew.cell? ⟨b, off + k * 5, none⟩ = some (.string (eNm l[k])) ∧ wr.drew.cell? ⟨b, off + k * 5 + 1, none⟩ = some (.string (eBy l[k])) ∧ wr.drew.cell? ⟨b, off + k * 5 + 2, none⟩ = some (.slice a1 (eSays l[k]).length c1) ∧ wr.drew.cell? ⟨b, off + k * 5 + 3, none⟩ = some (.slice a2 (eUses l[k]).length c2) ∧ wr.drew.cell? ⟨b, off + k * 5 + 4, none⟩ = some (.slice a3 (ePf l[k]).length c3))
    have hBrH := Lib.hid hBr
    have hixsH := Lib.hid hixs
    have hixnH := Lib.hid hixn
    have hnxH := Lib.hid hnx
    have hbadH := Lib.hid hbad
    have hbad2H := Lib.hid hbad2
    have viF := Lib.hid vi
    have veH := Lib.hid ve
    clear hall hnd hBr hI hU hP z1 z2 ve vi hbad hbad2 hnx hixs hixn p0 p1 p2 p3 p4 hlt2 hcap
    generalize atN (l.take k) (eNm l[k]) = at_ at *
    generalize ixN (l.take k) (eNm l[k]) = ix at *
    generalize okEnt s l[k] = ok at *
    generalize eNm l[k] = nm at *
    generalize eBy l[k] = bn at *
    generalize (eSays l[k]).length = n1 at *
    generalize (eUses l[k]).length = n2 at *
    generalize (ePf l[k]).length = n3 at *
    cases ok with
    | false =>
     go_wp2_with fail
     refine wp_region_held_drew (S := fun w' => w'.cell? ⟨b, off + k * 5, none⟩ = some (.string nm) ∧ w'.cell? ⟨b, off + k * 5 + 1, none⟩ = some (.string bn) ∧ w'.cell? ⟨b, off + k * 5 + 2, none⟩ = some (.slice a1 n1 c1) ∧ w'.cell? ⟨b, off + k * 5 + 3, none⟩ = some (.slice a2 n2 c2) ∧ w'.cell? ⟨b, off + k * 5 + 4, none⟩ = some (.slice a3 n3 c3)) (by kernel_rfl) hS0 (fun hS => ?_)
     refine rtk 0 20 (v := ?_) hS ?_ ?_; rotate_left; · (intro w9 hS9; obtain ⟨z0, z1, z2, z3, z4⟩ := hS9; go_simp; try (with_reducible rfl))
     refine rtk 1 21 (v := ?_) hS ?_ ?_; rotate_left; · (intro w9 hS9; obtain ⟨z0, z1, z2, z3, z4⟩ := hS9; go_simp; try (with_reducible rfl))
     refine rtk 2 22 (v := ?_) hS ?_ ?_; rotate_left; · (intro w9 hS9; obtain ⟨z0, z1, z2, z3, z4⟩ := hS9; go_simp; try (with_reducible rfl))
     refine rtk 3 23 (v := ?_) hS ?_ ?_; rotate_left; · (intro w9 hS9; obtain ⟨z0, z1, z2, z3, z4⟩ := hS9; go_simp; try (with_reducible rfl))
     refine rtk 4 24 (v := ?_) hS ?_ ?_; rotate_left; · (intro w9 hS9; obtain ⟨z0, z1, z2, z3, z4⟩ := hS9; go_simp; try (with_reducible rfl))
     refine region_call 5 rfl (by kernel_rfl) (fun K hK => ?_)
     go_simp
     (with_reducible refine (veH.out _ hbd).mono ?_)
     rintro e w5 ⟨rfl, hb5⟩
     go_simp
     refine hK.out _ _ ⟨cell_later hb5 hS.1, cell_later hb5 hS.2.1, cell_later hb5 hS.2.2.1, cell_later hb5 hS.2.2.2.1, cell_later hb5 hS.2.2.2.2⟩ ?_
     clear hK hS K
     intro hS
     try simp only [Act.put, List.setIfInBounds_toArray, List.set_cons_zero, List.set_cons_succ]
     have hB5 := Lib.hid (bcall hBrH.out (bcall hbd hb5))
     have hW5 := Lib.hid (bcall hbd hb5)
     clear hb5
     refine rtk 6 26 (v := ?_) hS ?_ ?_; rotate_left; · (intro w9 hS9; obtain ⟨z0, z1, z2, z3, z4⟩ := hS9; go_simp; try (with_reducible rfl))
     refine rtk 7 27 (v := ?_) hS ?_ ?_; rotate_left; · (intro w9 hS9; obtain ⟨z0, z1, z2, z3, z4⟩ := hS9; go_simp; try (with_reducible rfl))
     refine rsk 8 28 hS ?_
     refine rsk 9 29 hS ?_
     refine rsk 10 30 hS ?_
     refine rsk 11 31 hS ?_
     refine rsk 12 32 hS ?_
     refine rsk 13 33 hS ?_
     refine rsk 14 34 hS ?_
     refine rsk 15 35 hS ?_
     refine rsk 16 36 hS ?_
     refine rsk 17 37 hS ?_
     refine rtk 18 38 (v := ?_) hS ?_ ?_; rotate_left; · (intro w9 hS9; obtain ⟨z0, z1, z2, z3, z4⟩ := hS9; go_simp; try (with_reducible rfl))
     refine wpAnyH_done (by kernel_rfl) ?_ _
     clear hS
     go_wp2_with fail
     go_ret
     exact ⟨ret_bool (hbadH.out (by simp)).symm, hB5.out⟩
    | true =>
     cases at_ with
     | none =>
      have hix := hixnH.out rfl
      subst hix
      have hnx := Lib.hid (fun W hb => (show rvlRel s l w (.int .i64 ((k : Int) + 1)) W from ⟨k + 1, by simp, hlt, (hnxH.out rfl rfl).1, (hnxH.out rfl rfl).2, hb⟩))
      clear hixsH hixnH hnxH hbad2H hbadH
      go_wp2_with fail
      refine wp_region_held_drew (S := fun w' => w'.cell? ⟨b, off + k * 5, none⟩ = some (.string nm) ∧ w'.cell? ⟨b, off + k * 5 + 1, none⟩ = some (.string bn) ∧ w'.cell? ⟨b, off + k * 5 + 2, none⟩ = some (.slice a1 n1 c1) ∧ w'.cell? ⟨b, off + k * 5 + 3, none⟩ = some (.slice a2 n2 c2) ∧ w'.cell? ⟨b, off + k * 5 + 4, none⟩ = some (.slice a3 n3 c3)) (by kernel_rfl) hS0 (fun hS => ?_)
      refine rtk 0 20 (v := ?_) hS ?_ ?_; rotate_left; · (intro w9 hS9; obtain ⟨z0, z1, z2, z3, z4⟩ := hS9; go_simp; try (with_reducible rfl))
      refine rtk 1 21 (v := ?_) hS ?_ ?_; rotate_left; · (intro w9 hS9; obtain ⟨z0, z1, z2, z3, z4⟩ := hS9; go_simp; try (with_reducible rfl))
      refine rtk 2 22 (v := ?_) hS ?_ ?_; rotate_left; · (intro w9 hS9; obtain ⟨z0, z1, z2, z3, z4⟩ := hS9; go_simp; try (with_reducible rfl))
      refine rtk 3 23 (v := ?_) hS ?_ ?_; rotate_left; · (intro w9 hS9; obtain ⟨z0, z1, z2, z3, z4⟩ := hS9; go_simp; try (with_reducible rfl))
      refine rtk 4 24 (v := ?_) hS ?_ ?_; rotate_left; · (intro w9 hS9; obtain ⟨z0, z1, z2, z3, z4⟩ := hS9; go_simp; try (with_reducible rfl))
      refine region_call 5 rfl (by kernel_rfl) (fun K hK => ?_)
      go_simp
      (with_reducible refine (veH.out _ hbd).mono ?_)
      rintro e w5 ⟨rfl, hb5⟩
      go_simp
      refine hK.out _ _ ⟨cell_later hb5 hS.1, cell_later hb5 hS.2.1, cell_later hb5 hS.2.2.1, cell_later hb5 hS.2.2.2.1, cell_later hb5 hS.2.2.2.2⟩ ?_
      clear hK hS K
      intro hS
      try simp only [Act.put, List.setIfInBounds_toArray, List.set_cons_zero, List.set_cons_succ]
      have hB5 := Lib.hid (bcall hBrH.out (bcall hbd hb5))
      have hW5 := Lib.hid (bcall hbd hb5)
      clear hb5
      refine rtk 6 26 (v := ?_) hS ?_ ?_; rotate_left; · (intro w9 hS9; obtain ⟨z0, z1, z2, z3, z4⟩ := hS9; go_simp; try (with_reducible rfl))
      refine rtk 7 27 (v := ?_) hS ?_ ?_; rotate_left; · (intro w9 hS9; obtain ⟨z0, z1, z2, z3, z4⟩ := hS9; go_simp; try (with_reducible rfl))
      refine rtk 8 28 (v := ?_) hS ?_ ?_; rotate_left; · (intro w9 hS9; obtain ⟨z0, z1, z2, z3, z4⟩ := hS9; go_simp; try (with_reducible rfl))
      refine rtk 9 29 (v := ?_) hS ?_ ?_; rotate_left; · (intro w9 hS9; obtain ⟨z0, z1, z2, z3, z4⟩ := hS9; go_simp; try (with_reducible rfl))
      refine rtk 10 30 (v := ?_) hS ?_ ?_; rotate_left; · (intro w9 hS9; obtain ⟨z0, z1, z2, z3, z4⟩ := hS9; go_simp; try (with_reducible rfl))
      refine rtk 11 31 (v := ?_) hS ?_ ?_; rotate_left; · (intro w9 hS9; obtain ⟨z0, z1, z2, z3, z4⟩ := hS9; go_simp; try (with_reducible rfl))
      refine rtk 12 32 (v := ?_) hS ?_ ?_; rotate_left; · (intro w9 hS9; obtain ⟨z0, z1, z2, z3, z4⟩ := hS9; go_simp; try (with_reducible rfl))
      refine rtk 13 33 (v := ?_) hS ?_ ?_; rotate_left; · (intro w9 hS9; obtain ⟨z0, z1, z2, z3, z4⟩ := hS9; go_simp; try (with_reducible rfl))
      refine rtk 14 34 (v := ?_) hS ?_ ?_; rotate_left; · (intro w9 hS9; obtain ⟨z0, z1, z2, z3, z4⟩ := hS9; go_simp; try (with_reducible rfl))
      refine rtk 15 35 (v := ?_) hS ?_ ?_; rotate_left; · (intro w9 hS9; obtain ⟨z0, z1, z2, z3, z4⟩ := hS9; go_simp; try (with_reducible rfl))
      have viH := Lib.hid (viF.out w5 hW5.out)
      refine region_call 16 rfl (by kernel_rfl) (fun K hK => ?_)
      go_simp
      (with_reducible refine viH.out.mono ?_)
      rintro e w6 ⟨rfl, rfl⟩
      go_simp
      refine hK.out _ _ hS ?_
      clear hK hS K
      intro hS
      try simp only [Act.put, List.setIfInBounds_toArray, List.set_cons_zero, List.set_cons_succ]
      refine rtk 17 37 (v := ?_) hS ?_ ?_; rotate_left; · (intro w9 hS9; obtain ⟨z0, z1, z2, z3, z4⟩ := hS9; go_simp; try (with_reducible rfl))
      refine rtk 18 38 (v := ?_) hS ?_ ?_; rotate_left; · (intro w9 hS9; obtain ⟨z0, z1, z2, z3, z4⟩ := hS9; go_simp; try (with_reducible rfl))
      refine wpAnyH_done (by kernel_rfl) ?_ _
      clear hS
      go_wp2_with fail
      go_roundw
      case rel => exact hnx.out _ hB5.out
      case measure => simp [intOf]; omega
     | some j =>
      have hix := hixsH.out j rfl
      subst hix
      have hbd2 := Lib.hid (hbad2H.out j rfl)
      have hjj : (0 : Int) ≤ (j : Int) := by omega
      clear hixsH hixnH hnxH hbad2H hbadH
      go_wp2_with fail
      refine wp_region_held_drew (S := fun w' => w'.cell? ⟨b, off + k * 5, none⟩ = some (.string nm) ∧ w'.cell? ⟨b, off + k * 5 + 1, none⟩ = some (.string bn) ∧ w'.cell? ⟨b, off + k * 5 + 2, none⟩ = some (.slice a1 n1 c1) ∧ w'.cell? ⟨b, off + k * 5 + 3, none⟩ = some (.slice a2 n2 c2) ∧ w'.cell? ⟨b, off + k * 5 + 4, none⟩ = some (.slice a3 n3 c3)) (by kernel_rfl) hS0 (fun hS => ?_)
      refine rtk 0 20 (v := ?_) hS ?_ ?_; rotate_left; · (intro w9 hS9; obtain ⟨z0, z1, z2, z3, z4⟩ := hS9; go_simp; try (with_reducible rfl))
      refine rtk 1 21 (v := ?_) hS ?_ ?_; rotate_left; · (intro w9 hS9; obtain ⟨z0, z1, z2, z3, z4⟩ := hS9; go_simp; try (with_reducible rfl))
      refine rtk 2 22 (v := ?_) hS ?_ ?_; rotate_left; · (intro w9 hS9; obtain ⟨z0, z1, z2, z3, z4⟩ := hS9; go_simp; try (with_reducible rfl))
      refine rtk 3 23 (v := ?_) hS ?_ ?_; rotate_left; · (intro w9 hS9; obtain ⟨z0, z1, z2, z3, z4⟩ := hS9; go_simp; try (with_reducible rfl))
      refine rtk 4 24 (v := ?_) hS ?_ ?_; rotate_left; · (intro w9 hS9; obtain ⟨z0, z1, z2, z3, z4⟩ := hS9; go_simp; try (with_reducible rfl))
      refine region_call 5 rfl (by kernel_rfl) (fun K hK => ?_)
      go_simp
      (with_reducible refine (veH.out _ hbd).mono ?_)
      rintro e w5 ⟨rfl, hb5⟩
      go_simp
      refine hK.out _ _ ⟨cell_later hb5 hS.1, cell_later hb5 hS.2.1, cell_later hb5 hS.2.2.1, cell_later hb5 hS.2.2.2.1, cell_later hb5 hS.2.2.2.2⟩ ?_
      clear hK hS K
      intro hS
      try simp only [Act.put, List.setIfInBounds_toArray, List.set_cons_zero, List.set_cons_succ]
      have hB5 := Lib.hid (bcall hBrH.out (bcall hbd hb5))
      have hW5 := Lib.hid (bcall hbd hb5)
      clear hb5
      refine rtk 6 26 (v := ?_) hS ?_ ?_; rotate_left; · (intro w9 hS9; obtain ⟨z0, z1, z2, z3, z4⟩ := hS9; go_simp; try (with_reducible rfl))
      refine rtk 7 27 (v := ?_) hS ?_ ?_; rotate_left; · (intro w9 hS9; obtain ⟨z0, z1, z2, z3, z4⟩ := hS9; go_simp; try (with_reducible rfl))
      refine rtk 8 28 (v := ?_) hS ?_ ?_; rotate_left; · (intro w9 hS9; obtain ⟨z0, z1, z2, z3, z4⟩ := hS9; go_simp; try (with_reducible rfl))
      refine rtk 9 29 (v := ?_) hS ?_ ?_; rotate_left; · (intro w9 hS9; obtain ⟨z0, z1, z2, z3, z4⟩ := hS9; go_simp; try (with_reducible rfl))
      refine rtk 10 30 (v := ?_) hS ?_ ?_; rotate_left; · (intro w9 hS9; obtain ⟨z0, z1, z2, z3, z4⟩ := hS9; go_simp; try (with_reducible rfl))
      refine rtk 11 31 (v := ?_) hS ?_ ?_; rotate_left; · (intro w9 hS9; obtain ⟨z0, z1, z2, z3, z4⟩ := hS9; go_simp; try (with_reducible rfl))
      refine rtk 12 32 (v := ?_) hS ?_ ?_; rotate_left; · (intro w9 hS9; obtain ⟨z0, z1, z2, z3, z4⟩ := hS9; go_simp; try (with_reducible rfl))
      refine rtk 13 33 (v := ?_) hS ?_ ?_; rotate_left; · (intro w9 hS9; obtain ⟨z0, z1, z2, z3, z4⟩ := hS9; go_simp; try (with_reducible rfl))
      refine rtk 14 34 (v := ?_) hS ?_ ?_; rotate_left; · (intro w9 hS9; obtain ⟨z0, z1, z2, z3, z4⟩ := hS9; go_simp; try (with_reducible rfl))
      refine rtk 15 35 (v := ?_) hS ?_ ?_; rotate_left; · (intro w9 hS9; obtain ⟨z0, z1, z2, z3, z4⟩ := hS9; go_simp; try (with_reducible rfl))
      have viH := Lib.hid (viF.out w5 hW5.out)
      refine region_call 16 rfl (by kernel_rfl) (fun K hK => ?_)
      go_simp
      (with_reducible refine viH.out.mono ?_)
      rintro e w6 ⟨rfl, rfl⟩
      go_simp
      refine hK.out _ _ hS ?_
      clear hK hS K
      intro hS
      try simp only [Act.put, List.setIfInBounds_toArray, List.set_cons_zero, List.set_cons_succ]
      refine rtk 17 37 (v := ?_) hS ?_ ?_; rotate_left; · (intro w9 hS9; obtain ⟨z0, z1, z2, z3, z4⟩ := hS9; go_simp; try (with_reducible rfl))
      refine rtk 18 38 (v := ?_) hS ?_ ?_; rotate_left; · (intro w9 hS9; obtain ⟨z0, z1, z2, z3, z4⟩ := hS9; go_simp; try (with_reducible rfl))
      refine wpAnyH_done (by kernel_rfl) ?_ _
      clear hS
      go_wp2_with fail
      go_ret
      exact ⟨ret_bool hbd2.out.symm, hB5.out⟩
   ·have hkk : ((k : Int) < (l.length : Int)) = False := eq_false (by omega)
    rw [List.take_of_length_le (by omega)] at hall hnd
    have hf := Lib.hid (show okLib s l = true by unfold okLib; rw [hsH.out, hall, decide_eq_true h60, decide_eq_true hnd]; rfl)
    have hBH := Lib.hid hBr
    clear hall hnd hBr hlt hk
    go_wp2_with fail
    go_ret
    exact ⟨ret_bool hf.out.symm, hBH.out⟩
 ·have h60i : ((60 : Int) < (l.length : Int)) = True := eq_true (by omega)
  have hf := Lib.hid (show okLib s l = false by unfold okLib; rw [decide_eq_false h60]; simp)
  clear h60
  go_enter Tryz.func27, Tryz.ntmps27
  go_wp2_with fail
  refine vsH.out.mono ?_
  rintro e w1 ⟨rfl, hd⟩
  have hB := Lib.hid (hd.below w.heap.size)
  clear hd
  go_wp2_with fail
  go_ret
  exact ⟨ret_bool hf.out.symm, hB.out⟩
end Go.Proofs.YtpmnnoopoblpgaaGreat

/- Walks: Givens of the reference; blocked. -/
namespace Go.Proofs.YtpmnnoopoblpgaaGreat
open Go Go.RowKit Go.Maps

end Go.Proofs.YtpmnnoopoblpgaaGreat

/- Walks: Find, Missing of the reference. -/
namespace Go.Proofs.YtpmnnoopoblpgaaGreat
open Go Go.RowKit Go.Maps

set_option maxHeartbeats 1000000 in
theorem rFind_any {S1 S2 : Nat → Prop} (sa la : Option Addr) (sc lc : Nat) (s : Sg) (l : List Ent) (n : ByteArray) (w : World) (h1 : Sign S1 w sa sc s) (h2 : LibL S2 w la lc l) :
  Calls Tryz.prog 21 #[.slice sa s.length sc, .slice la l.length lc, .string n] w fun e w' => e = .returned (.tuple #[.int .i64 (findE s l n).1, .int .i64 (findE s l n).2]) ∧ Below w.heap.size w w' := by
 have v := rVld_any sa la sc lc s l w h1 h2
 have vi := fun W (hb : Below w.heap.size w W) => rIndex_any la lc l n W (h2.below hb)
 have vH := Lib.hid v
 have viH := Lib.hid vi
 clear v vi h1 h2
 cases hok : okLib s l with
 | false =>
  rw [hok] at vH
  have hf := Lib.hid (show findE s l n = (0, 1) by unfold findE; rw [hok]; rfl)
  clear hok
  go_enter Tryz.func21, Tryz.ntmps21
  go_wp2_with fail
  refine vH.out.mono ?_
  rintro e w1 ⟨rfl, hb⟩
  have hbH := Lib.hid hb
  clear hb
  go_wp2_with fail
  go_ret2
  rw [hf.out]
  exact ⟨rfl, hbH.out⟩
 | true =>
  rw [hok] at vH
  cases hat : atN l n with
  | none =>
   have hf := Lib.hid (show findE s l n = (0, 5) by unfold findE; rw [hok, hat]; rfl)
   have hix := Lib.hid (ixN_none' hat)
   clear hok hat
   go_enter Tryz.func21, Tryz.ntmps21
   go_wp2_with fail
   refine vH.out.mono ?_
   rintro e w1 ⟨rfl, hb⟩
   have vi1 := viH.out w1 hb
   rw [hix.out] at vi1
   have vi1H := Lib.hid vi1
   have hbH := Lib.hid hb
   clear hb vi1
   go_wp2_with fail
   refine vi1H.out.mono ?_
   rintro e w2 ⟨rfl, rfl⟩
   go_wp2_with fail
   go_ret2
   rw [hf.out]
   exact ⟨rfl, hbH.out⟩
  | some i =>
   have hf := Lib.hid (show findE s l n = ((i : Int), 0) by unfold findE; rw [hok, hat]; rfl)
   have hix := Lib.hid (ixN_some' hat)
   have hi0 : ((i : Int) < 0) = False := eq_false (by omega)
   clear hok hat
   go_enter Tryz.func21, Tryz.ntmps21
   go_wp2_with fail
   refine vH.out.mono ?_
   rintro e w1 ⟨rfl, hb⟩
   have vi1 := viH.out w1 hb
   rw [hix.out] at vi1
   have vi1H := Lib.hid vi1
   have hbH := Lib.hid hb
   clear hb vi1
   go_wp2_with fail
   refine vi1H.out.mono ?_
   rintro e w2 ⟨rfl, rfl⟩
   go_wp2_with fail
   go_ret2
   rw [hf.out]
   exact ⟨rfl, hbH.out⟩
end Go.Proofs.YtpmnnoopoblpgaaGreat

/- Walks: good. -/
namespace Go.Proofs.YtpmnnoopoblpgaaGreat
open Go Go.RowKit Go.Maps

end Go.Proofs.YtpmnnoopoblpgaaGreat

/- Walks: Failing, Shaken, Holds, Strongest. -/
namespace Go.Proofs.YtpmnnoopoblpgaaGreat
open Go Go.RowKit Go.Maps

end Go.Proofs.YtpmnnoopoblpgaaGreat

/- Walks: axiom, holds, holding, opposite, chosen, Failing of the reference. -/
namespace Go.Proofs.YtpmnnoopoblpgaaGreat
open Go Go.RowKit Go.Maps

theorem raxiom_any (a1 a2 a3 : Option Addr) (c1 c2 c3 n1 n2 : Nat) (nm bn : ByteArray) (n3 : Nat) (w : World) :
  Calls Tryz.prog 99 #[entV nm bn n1 n2 n3 a1 a2 a3 c1 c2 c3] w fun e w' => e = .returned (.bool ((n3 : Int) == 0)) ∧ Below w.heap.size w w' := by
 obtain ⟨W, hW⟩ : ∃ W, w.alloc (.cells #[.string nm, .string bn, .slice a1 n1 c1, .slice a2 n2 c2, .slice a3 n3 c3] 37) = W := ⟨_, rfl⟩
 have hB := Lib.hid (show Below w.heap.size w W by rw [← hW]; exact below1 w _)
 have q4 : W.cell? ⟨w.heap.size, 4, none⟩ = some (.slice a3 n3 c3) := by rw [← hW]; clear hW; go_simp
 go_enter Tryz.func99, Tryz.ntmps99
 go_wp2_with fail
 go_ret
 try rw [hW]
 exact ⟨rfl, hB.out⟩
end Go.Proofs.YtpmnnoopoblpgaaGreat

/- Walks: holding, opposite, chosen, Failing of the reference. -/
namespace Go.Proofs.YtpmnnoopoblpgaaGreat
open Go Go.RowKit Go.Maps

def filL (n : Nat) (f : Nat → Bool) (k : Nat) : List Bool := (List.range n).map (fun j => decide (j < k) && f j)
theorem filL_len (n : Nat) (f : Nat → Bool) (k : Nat) : (filL n f k).length = n := by simp [filL]
theorem filL_zero (n : Nat) (f : Nat → Bool) : filL n f 0 = List.replicate n false := by
 apply List.ext_getElem
 ·simp [filL]
 ·intro i h1 h2; simp [filL]
theorem filL_all (n : Nat) (f : Nat → Bool) : filL n f n = (List.range n).map f := by
 apply List.ext_getElem
 ·simp [filL]
 ·intro i h1 h2
  have : i < n := by simpa [filL] using h1
  simp [filL, this]
theorem filL_set {n : Nat} {f : Nat → Bool} {k : Nat} : (filL n f k).set k (f k) = filL n f (k + 1) := by
 apply List.ext_getElem
 ·simp [filL]
 ·intro i h1 h2
  have hi : i < n := by simpa [filL] using h2
  rw [List.getElem_set]
  by_cases e : k = i
  ·subst e; simp [filL]
  ·rw [if_neg e]
   have : decide (i < k) = decide (i < k + 1) := by rw [Bool.eq_iff_iff, decide_eq_true_eq, decide_eq_true_eq]; omega
   simp only [filL, List.getElem_map, List.getElem_range, this]
def flRel (n : Nat) (f : Nat → Bool) (w : World) (base g : Nat) (i : Value) (wr : World) : Prop := ∃ k : Nat, i = .int .i64 k ∧ k ≤ n ∧ OwnB wr base (.slice (some ⟨g, 0, none⟩) n n) (filL n f k) ∧ Below w.heap.size w wr
def rcRel (l : List Ent) (pd : Nat → Bool) (w : World) (i v : Value) (wr : World) : Prop := ∃ k : Nat, i = .int .i64 k ∧ k ≤ l.length ∧ OwnS wr w.heap.size v (chT l pd k) ∧ Below w.heap.size w wr
set_option maxHeartbeats 4000000 in
theorem rchosen_any {S1 S2 : Nat → Prop} (la ia : Option Addr) (lc ic : Nat) (l : List Ent) (pd : Nat → Bool) (w : World) (h1 : LibL S1 w la lc l) (h2 : Sl boolE S2 w ia ic ((List.range l.length).map pd)) (hl : l.length ≤ 1000) :
  Calls Tryz.prog 89 #[.slice la l.length lc, .slice ia l.length ic] w (SortedOut w (chB l pd)) := by
 have m := h1.le
 have h1H := Lib.hid h1
 have h2H := Lib.hid h2.lt
 clear h1 h2
 go_enter Tryz.func89, Tryz.ntmps89
 go_wp2_with fail
 go_loopw [6, 5] (fun i v wr => rcRel l pd w i v wr) (fun i _ _ => l.length - (intOf i).toNat)
 case atStart => exact ⟨0, rfl, Nat.zero_le _, OwnL.nil _ _ _ _ _, .refl _ _⟩
 case round =>
  obtain ⟨k, rfl, hk, hO, hB⟩ := hrel
  by_cases hlt : k < l.length
  ·obtain ⟨b, off, a1, c1, a2, c2, a3, c3, rfl, -, p0, p1, p2, p3, p4, z1, z2, hI, hU, hP⟩ := (h1H.out.below hB).ent k hlt
   obtain ⟨ib, io, rfl, -, qi⟩ := (h2H.out.below hB).bool k (by simp; exact hlt)
   simp only [List.getElem_map, List.getElem_range] at qi
   have hkk : (k : Int) < (l.length : Int) := by omega
   have hsu := chT_succ (pd := pd) hlt
   have hcl := chT_len l pd k
   clear p1 p2 p3 p4 hI hU hP z2
   cases hpd : pd k with
   | false =>
    rw [hpd] at qi hsu
    have hfin := Lib.hid (show ∀ v, OwnS wr w.heap.size v (chT l pd k) → rcRel l pd w (.int .i64 ((k : Int) + 1)) v wr from fun v hv => ⟨k + 1, by simp, hlt, by rw [hsu]; exact hv, hB⟩)
    have hOH := Lib.hid hO
    clear hsu hO hB hpd hcl
    go_wp2_with fail
    go_roundw
    case rel => exact hfin.out _ hOH.out
    case measure => simp [intOf]; omega
   | true =>
    rw [hpd] at qi hsu
    rw [if_pos rfl] at hsu
    obtain ⟨v', W', hrun, ho, hg, -⟩ := OwnL.push (P := Tryz.prog) (t := 29) (ty := 29) hO Tryz.underlying29 infoStr rfl (vs := [.string (eNm l[k])]) (x := eNm l[k]) ⟨rfl, z1⟩ (by omega) (by unfold big; omega) hB.size
    rw [← hsu] at ho
    have hfin := Lib.hid (show rcRel l pd w (.int .i64 ((k : Int) + 1)) v' W' from ⟨k + 1, by simp, hlt, ho, hB.grown hg hB.size (fun q e => (OwnL.lt hO q e).1)⟩)
    clear hsu hO hB hpd ho hg hcl
    generalize eNm l[k] = nm at *
    go_wp2_with (at_builtin; refine wpList_append_run rfl _ _ _ rfl rfl rfl hrun ?_)
    go_roundw
    case rel => exact hfin.out
    case measure => simp [intOf]; omega
  ·have hkk : ((k : Int) < (l.length : Int)) = False := eq_false (by omega)
   have hkl : k = l.length := by omega
   rw [hkl] at hO
   obtain ⟨av, cv, rfl, hS⟩ := OwnS.strs hO
   have hcl := chT_len l pd l.length
   have vs := rSorted_any av cv (chT l pd l.length) wr hS (by omega)
   have hfe : memB (chT l pd l.length) = chB l pd := by funext x; rw [Bool.eq_iff_iff, memB_iff]; exact chT_mem
   rw [hfe] at vs
   have vsH := Lib.hid vs
   have hBH := Lib.hid hB
   clear vs hS hO hB hlt hk hkl hcl hfe
   go_wp2_with fail
   refine vsH.out.mono ?_
   rintro e w2 ⟨v, L, rfl, h1, h2, h3, h4⟩
   have hfin := Lib.hid (show SortedOut w (chB l pd) (.returned v) w2 from ⟨v, L, rfl, OwnS.base h1 hBH.out.size, h2, h3, bcall hBH.out h4⟩)
   clear h1 h2 h3 h4
   go_wp2_with fail
   go_ret
   exact hfin.out
end Go.Proofs.YtpmnnoopoblpgaaGreat

/- Walks: cited, leaned, lacking of the reference. -/
namespace Go.Proofs.YtpmnnoopoblpgaaGreat
open Go Go.RowKit Go.Maps

def zsN (Q : List Nat) : List Int := Q.map (fun q : Nat => (q : Int))
theorem zsN_len (Q : List Nat) : (zsN Q).length = Q.length := by simp [zsN]
theorem zsN_snoc (Q : List Nat) (n : Nat) : zsN (Q ++ [n]) = zsN Q ++ [(n : Int)] := by simp [zsN]
theorem zsN_get {Q : List Nat} {k : Nat} (hk : k < Q.length) (h : k < (zsN Q).length) : (zsN Q)[k] = ((Q.getD k 0 : Nat) : Int) := by
 simp [zsN, List.getElem?_eq_getElem hk]
abbrev OwnQ (w : World) (base : Nat) (v : Value) (Q : List Nat) : Prop := OwnL intE (fun _ => False) w base 3 v (zsN Q)
structure CtW (l : List Ent) (sh : List Bool) (i k j : Nat) (w : World) (Q : List Nat) (M : List Bool) (v : Value) (wr : World) : Prop where
 st : CitS l sh i k j Q M
 q : OwnQ wr (w.heap.size + 1) v Q
 m : OwnB wr w.heap.size (.slice (some ⟨w.heap.size, 0, none⟩) l.length l.length) M
 b : Below w.heap.size w wr
def ct1Rel (l : List Ent) (sh : List Bool) (i : Nat) (w : World) (kv v : Value) (wr : World) : Prop := ∃ k Q M, kv = .int .i64 (k : Nat) ∧ k ≤ Q.length ∧ CtW l sh i k 0 w Q M v wr
def ct2Rel (l : List Ent) (sh : List Bool) (i k q : Nat) (us : List ByteArray) (w : World) (jv v : Value) (wr : World) : Prop := ∃ j Q M, jv = .int .i64 (j : Nat) ∧ j ≤ us.length ∧ k < Q.length ∧ Q.getD k 0 = q ∧ CtW l sh i k j w Q M v wr
theorem ct2_next {l : List Ent} {sh : List Bool} {i k q j : Nat} {us : List ByteArray} {w wr : World} {Q : List Nat} {M : List Bool} {v : Value} (hj : j < us.length) (hk : k < Q.length) (hq : Q.getD k 0 = q) (h : CtW l sh i k (j + 1) w Q M v wr) :
  ct2Rel l sh i k q us w (.int .i64 ((j : Int) + 1)) v wr := ⟨j + 1, Q, M, by simp, hj, hk, hq, h⟩
set_option maxRecDepth 100000 in
set_option maxHeartbeats 8000000 in
theorem rcited_any {S1 S2 : Nat → Prop} {s : Sg} (la ia : Option Addr) (lc ic : Nat) (l : List Ent) (sh : List Bool) (w : World) (h : LibL S1 w la lc l) (hok : okLib s l = true) (hs : Sl boolE S2 w ia ic sh) (hsl : sh.length = l.length) (i : Nat) (hi : i < l.length) :
  Calls Tryz.prog 154 #[.slice la l.length lc, .int .i64 i, .slice ia l.length ic] w (retB w ((List.range l.length).map (citeB l sh i))) := by
 have m := h.le
 have hp := okLib_parts hok
 have hl60 := hp.2.1
 have hdn := hp.2.2.2
 have hms := fun W => makeFalse (W := W) l.length (by omega)
 have hst := Lib.hid (show ct1Rel l sh i w (.int .i64 0) (.slice (some ⟨w.heap.size + 1, 0, none⟩) 1 1) ((w.alloc (.cells (Array.replicate l.length (.bool false)) 4)).alloc (.cells #[.int .i64 i] 3)) from
  ⟨0, [i], List.replicate l.length false, rfl, Nat.zero_le _, CitS.start hi, by
   have := OwnL.lit (S := fun _ => False) (w.alloc (.cells (Array.replicate l.length (.bool false)) 4)) [(i : Int)] 3 (by intro x hx; rw [List.mem_singleton] at hx; rw [hx]; unfold inRange; omega) (by unfold maxLen; simp)
   rw [World.size_alloc] at this
   exact this, OwnL.call (OwnB.made w l.length (by omega)) (below1 _ _), below2 w _ _⟩)
 have hH := Lib.hid h.lt
 have hsH := Lib.hid hs.lt
 have hdnH := Lib.hid hdn
 have hokH := Lib.hid hok
 have hslH := Lib.hid hsl
 have hiH := Lib.hid hi
 clear h hs hok hp hdn hsl
 go_enter Tryz.func154, Tryz.ntmps154
 go_wp2_with fail
 go_loopw [9, 8] (fun kv v wr => ct1Rel l sh i w kv v wr) (fun kv _ _ => l.length + 1 - (intOf kv).toNat)
 case atStart => exact hst.out
 case round =>
  obtain ⟨k, Q, M, rfl, hk, hC⟩ := hrel
  have hQs := hC.st.size
  by_cases hlt : k < Q.length
  ·obtain ⟨q, hq⟩ : ∃ q, Q.getD k 0 = q := ⟨_, rfl⟩
   have hqlt := hC.st.qlt hlt
   rw [hq] at hqlt
   have hCH := Lib.hid hC
   have hqH := Lib.hid hq
   obtain ⟨gq, cq, rfl, hg1, hg2⟩ := OwnL.form hC.q (by intro e; have := zsN_len Q; rw [e] at this; simp at this; omega)
   rw [zsN_len] at *
   obtain ⟨qc, -⟩ := OwnL.cellInt hC.q (by rw [zsN_len]) k (by rw [zsN_len]; exact hlt)
   rw [zsN_get hlt, hq] at qc
   obtain ⟨b, off, a1, c1, a2, c2, a3, c3, rfl, hbB, p0, p1, p2, p3, p4, z1, z2, hI, hU, hP⟩ := hH.out.ent q hqlt
   have hu12 := (okLib_uses hokH.out (List.getElem_mem hqlt)).1
   have husI := usI_at hqlt
   obtain ⟨us, hus⟩ : ∃ us, eUses l[q] = us := ⟨_, rfl⟩
   rw [hus] at p3 hU hu12 husI
   have husH := Lib.hid husI
   have hkk : (k : Int) < (Q.length : Int) := by omega
   have hqq : (q : Int) < (l.length : Int) := by omega
   have mU := hU.le
   have hUH := Lib.hid hU
   have s3 := cell_later hC.b p3
   have hst2 := Lib.hid (show ct2Rel l sh i k q us w (.int .i64 0) (.slice (some ⟨gq, 0, none⟩) Q.length cq) wr from ⟨0, Q, M, rfl, Nat.zero_le _, hlt, hq, hC⟩)
   clear hC hq hI hU hP p0 p1 p2 p3 p4 z1 z2 hus husI
   go_wp2_with fail
   go_loopw [11, 8] (fun jv v wr => ct2Rel l sh i k q us w jv v wr) (fun jv _ _ => us.length - (intOf jv).toNat)
   case atStart => exact hst2.out
   case round =>
    obtain ⟨j, Q2, M2, rfl, hj, hk2, hq2, hC2⟩ := hrel
    by_cases hjl : j < us.length
    ·obtain ⟨b2, o2, rfl, -, qu, hzu⟩ := (hUH.out.below hC2.b).str j hjl
     have vi := rIndex_any (some ⟨b, off, none⟩) lc l us[j] _ (hH.out.below hC2.b)
     have hju : (usI l (Q2.getD k 0))[j]? = some us[j] := by rw [hq2, husH.out, List.getElem?_eq_getElem hjl]
     have hjj : (j : Int) < (us.length : Int) := by omega
     have hQs2 := hC2.st.size
     cases hat : atN l us[j] with
     | none =>
      rw [ixN_none' hat] at vi
      have viH := Lib.hid vi
      have hfin := Lib.hid (fun v (hv : OwnQ _ (w.heap.size + 1) v Q2) => ct2_next (us := us) hjl hk2 hq2 (⟨hC2.st.skip hju (fun n hn => by rw [hat] at hn; cases hn), hv, hC2.m, hC2.b⟩ : CtW l sh i k (j + 1) w Q2 M2 v _))
      have hQH := Lib.hid hC2.q
      clear vi hC2 hat hju
      generalize us[j] = u at *
      go_wp2_with fail
      refine viH.out.mono ?_
      rintro e w3 ⟨rfl, rfl⟩
      go_wp2_with fail
      go_roundw
      case rel => exact hfin.out _ hQH.out
      case measure => simp [intOf]; omega
     | some n =>
      rw [ixN_some' hat] at vi
      have viH := Lib.hid vi
      obtain ⟨hn, -⟩ := nmI_of hat
      have hn0 : ((n : Int) < 0) = False := eq_false (by omega)
      have hnn : (n : Int) < (l.length : Int) := by omega
      have hML := hC2.st.len
      obtain ⟨mc, mf⟩ := OwnB.cell hC2.m hML.symm n (by rw [hML]; exact hn)
      have hgm : M2.getD n false = M2[n]'(by rw [hML]; exact hn) := by rw [List.getD_eq_getElem?_getD, List.getElem?_eq_getElem (by rw [hML]; exact hn)]; rfl
      rw [← hgm] at mc
      cases hmk : M2.getD n false with
      | true =>
       rw [hmk] at mc
       have hfin := Lib.hid (fun v (hv : OwnQ _ (w.heap.size + 1) v Q2) => ct2_next (us := us) hjl hk2 hq2 (⟨hC2.st.skip hju (fun n' hn' => by rw [hat] at hn'; injection hn' with hn'; rw [← hn']; exact hmk), hv, hC2.m, hC2.b⟩ : CtW l sh i k (j + 1) w Q2 M2 v _))
       have hQH := Lib.hid hC2.q
       clear vi hC2 hat hju hML hgm hmk
       generalize us[j] = u at *
       go_wp2_with fail
       refine viH.out.mono ?_
       rintro e w3 ⟨rfl, rfl⟩
       go_wp2_with fail
       go_roundw
       case rel => exact hfin.out _ hQH.out
       case measure => simp [intOf]; omega
      | false =>
       rw [hmk] at mc
       obtain ⟨sb, so, hie, hsb, sc⟩ := (hsH.out.below hC2.b).bool n (by rw [hslH.out]; exact hn)
       have hgs : sh.getD n false = sh[n]'(by rw [hslH.out]; exact hn) := by rw [List.getD_eq_getElem?_getD, List.getElem?_eq_getElem (by rw [hslH.out]; exact hn)]; rfl
       rw [← hgs] at sc
       obtain ⟨hm2, hmg⟩ := OwnB.set hC2.m hML.symm n true
       have hqk := OwnL.lt hC2.q
       have hQ3 := OwnL.grown hC2.q hmg (fun kk hkk e => by have := (hqk kk hkk).1; injection e with e; omega) (fun bb hbb _ => hbb.elim)
       have hB3 := hC2.b.grown hmg hC2.b.size (fun kk e => by injection e with e; omega)
       have sc3 := hmg.cell sc (by intro e; injection e with e; have := hsb.2; simp at e; omega)
       have hmlt := (OwnL.lt hC2.m w.heap.size rfl).2
       cases hss : sh.getD n false with
       | true =>
        rw [hss] at sc sc3
        have hfin := Lib.hid (fun v (hv : OwnQ _ (w.heap.size + 1) v Q2) => ct2_next (us := us) hjl hk2 hq2 (⟨hC2.st.mark hdnH.out hk2 hju hat hss, hv, hm2, hB3⟩ : CtW l sh i k (j + 1) w Q2 (M2.set n true) v _))
        have hQH := Lib.hid hQ3
        clear vi hC2 hat hju hML hgm hmk hgs hss hm2 hmg hqk hQ3 hB3
        generalize us[j] = u at *
        subst hie
        go_wp2_with fail
        refine viH.out.mono ?_
        rintro e w3 ⟨rfl, rfl⟩
        go_wp2_with fail
        go_roundw
        case rel => exact hfin.out _ hQH.out
        case measure => simp [intOf]; omega
       | false =>
        rw [hss] at sc sc3
        have hzl := zsN_len Q2
        obtain ⟨v', W', hrun, ho, hg, -⟩ := OwnL.push (P := Tryz.prog) (t := 25) (ty := 25) hQ3 Tryz.underlying25 infoInt rfl (vs := [.int .i64 n]) (x := (n : Int)) ⟨rfl, by unfold inRange; omega⟩ (by omega) (by unfold big; omega) (by have := hB3.size; have := hmg.size; omega)
        rw [← zsN_snoc] at ho
        simp only [World.size_setCell] at hrun
        have hm4 := OwnL.grown hm2 hg (fun kk hkk e => by have := (OwnL.lt hQ3 kk e).1; simp [Value.ownBlock] at hkk; try omega) (fun bb hbb _ => hbb.elim)
        have hB4 := hB3.grown hg hB3.size (fun kk e => by have := (OwnL.lt hQ3 kk e).1; omega)
        have hfin := Lib.hid (ct2_next (us := us) (q := q) (Q := Q2 ++ [n]) hjl (by rw [List.length_append]; omega) (by rw [getD_snoc hk2]; exact hq2) (⟨hC2.st.push hdnH.out hk2 hju hat hmk hss, ho, hm4, hB4⟩ : CtW l sh i k (j + 1) w (Q2 ++ [n]) (M2.set n true) v' W'))
        clear vi hC2 hat hju hML hgm hmk hgs hss hm2 hmg hqk hQ3 hB3 hm4 hB4 ho hg hzl
        generalize us[j] = u at *
        subst hie
        go_wp2_with fail
        refine viH.out.mono ?_
        rintro e w3 ⟨rfl, rfl⟩
        go_wp2_with (at_builtin; refine wpList_append_run rfl _ _ _ rfl rfl rfl hrun ?_)
        go_roundw
        case rel => exact hfin.out
        case measure => simp [intOf]; omega
    ·have hjj : ((j : Int) < (us.length : Int)) = False := eq_false (by omega)
     have hjl2 : j = (usI l (Q2.getD k 0)).length := by rw [hq2, husH.out]; omega
     have hfin := Lib.hid (fun v (hv : OwnQ _ (w.heap.size + 1) v Q2) => (⟨k + 1, Q2, M2, by simp, hk2, (⟨(show CitS l sh i k (usI l (Q2.getD k 0)).length Q2 M2 by rw [← hjl2]; exact hC2.st).next, hv, hC2.m, hC2.b⟩ : CtW l sh i (k + 1) 0 w Q2 M2 v _)⟩ : ct1Rel l sh i w (.int .i64 ((k : Int) + 1)) v _))
     have hQs2 := hC2.st.size
     have hQH := Lib.hid hC2.q
     clear hC2 hjl2 hjl hj
     go_wp2_with fail
     go_roundw
     case rel => exact hfin.out _ hQH.out
     case measure => simp [intOf]; omega
  ·have hkl : k = Q.length := by omega
   subst hkl
   have hML := CitS.list hdnH.out hC.st
   have hQH := Lib.hid hC.q
   have hmm := hC.m
   rw [hML] at hmm
   have hfin := Lib.hid (show retB w ((List.range l.length).map (citeB l sh i)) (.returned (.slice (some ⟨w.heap.size, 0, none⟩) l.length l.length)) wr from ⟨_, rfl, hmm, hC.b⟩)
   obtain ⟨T, hT⟩ := hC.st.hd
   obtain ⟨gq, cq, rfl, -, -⟩ := OwnL.form hC.q (by intro e; have := zsN_len Q; rw [e, hT] at this; simp at this)
   rw [zsN_len] at *
   have hkk : ((Q.length : Int) < (Q.length : Int)) = False := eq_false (by omega)
   clear hC hML hmm hlt hk hT hQH
   go_wp2_with fail
   go_ret
   exact hfin.out
end Go.Proofs.YtpmnnoopoblpgaaGreat

/- Walks: leaned, lacking, shaken of the reference. -/
namespace Go.Proofs.YtpmnnoopoblpgaaGreat
open Go Go.RowKit Go.Maps

theorem rleaned_any {S1 : Nat → Prop} {s : Sg} (la : Option Addr) (lc : Nat) (l : List Ent) (w : World) (h : LibL S1 w la lc l) (hok : okLib s l = true) (i : Nat) (hi : i < l.length) :
  Calls Tryz.prog 106 #[.slice la l.length lc, .int .i64 i] w (retB w ((List.range l.length).map (leanI l i))) := by
 have m := h.le
 have hl60 := (okLib_parts hok).2.1
 have hms := fun W => makeFalse (W := W) l.length (by omega)
 have hB := below1 w (.cells (Array.replicate l.length (.bool false)) 4)
 obtain ⟨a0, c0, e0, hS0⟩ := OwnB.bools (OwnB.made w l.length (by omega))
 rw [List.length_replicate] at e0
 injection e0 with e1 _ e2
 subst e1 e2
 have v := rcited_any la (some ⟨w.heap.size, 0, none⟩) lc l.length l (List.replicate l.length false) (w.alloc (.cells (Array.replicate l.length (.bool false)) 4)) (h.below hB) hok hS0 (by simp) i hi
 have vH := Lib.hid v
 have hBH := Lib.hid hB
 clear v hB hS0 h hok
 go_enter Tryz.func106, Tryz.ntmps106
 go_wp2_with fail
 refine vH.out.mono ?_
 rintro e w2 ⟨v, rfl, hO, hb⟩
 have hfin := Lib.hid (show retB w ((List.range l.length).map (leanI l i)) (.returned v) w2 from ⟨v, rfl, OwnL.baseMono hO hBH.out.size, bcall hBH.out hb⟩)
 clear hO hb
 go_wp2_with fail
 go_ret
 exact hfin.out
end Go.Proofs.YtpmnnoopoblpgaaGreat
