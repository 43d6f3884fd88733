/- The proof of a statement, some of its texts joined in build order: part P. -/
import Derived.Test.YtpmnnoopoblpgaaGreatRegS
import Derived.Test.YtpmnnoopoblpgaaGreatMuD
import Derived.Lib.SlicesCompact
import Derived.Test.YtpmnnoopoblpgaaGreatMuE
import Derived.Test.YtpmnnoopoblpgaaGreatMuA
import Derived.Test.YtpmnnoopoblpgaaGreatMuB
import Derived.Test.YtpmnnoopoblpgaaGreatWalkL
import Derived.Test.YtpmnnoopoblpgaaGreatMath6
import Derived.Test.YtpmnnoopoblpgaaGreatRegion
import Derived.Deep.Cut
import Derived.Deep.RegionLaw
import Derived.Deep.RegionWith
import Derived.Test.YtpmnnoopoblpgaaGreatWalkE
import Derived.Test.YtpmnnoopoblpgaaGreatLit
import Derived.Test.YtpmnnoopoblpgaaGreatMuI
import Derived.BigQuiet
import Derived.Deep.WholeRow
import Derived.Test.YtpmnnoopoblpgaaGreatWalkJ
import Derived.Laws.CopyOwn
import Derived.Test.YtpmnnoopoblpgaaGreatMuR
import Derived.Maps.RangeWalk
/- Needed steps, counts and heights of proofs by their trees, in plain words. No program is named. -/
namespace Go.Proofs.YtpmnnoopoblpgaaGreat

end Go.Proofs.YtpmnnoopoblpgaaGreat

/- Givens that needed steps cite, in plain words: a sorted list, each once, is what a range is left with. No program is named. -/
namespace Go.Proofs.YtpmnnoopoblpgaaGreat

end Go.Proofs.YtpmnnoopoblpgaaGreat

/- What Needed answers, in plain words. No program is named. -/
namespace Go.Proofs.YtpmnnoopoblpgaaGreat
end Go.Proofs.YtpmnnoopoblpgaaGreat

/- What the reference comes to from an entry: marks and a queue. No program is named. -/
namespace Go.Proofs.YtpmnnoopoblpgaaGreat

def nmI (l : List Ent) (q : Nat) : ByteArray := eNm (l.getD q default)
def usI (l : List Ent) (q : Nat) : List ByteArray := eUses (l.getD q default)
theorem nmI_at {l : List Ent} {i : Nat} (h : i < l.length) : nmI l i = eNm l[i] := by unfold nmI; rw [getD_at h]
theorem usI_at {l : List Ent} {i : Nat} (h : i < l.length) : usI l i = eUses l[i] := by unfold usI; rw [getD_at h]
theorem atN_nmI {l : List Ent} (hd : (l.map eNm).Nodup) {i : Nat} (h : i < l.length) : atN l (nmI l i) = some i := by rw [nmI_at h]; exact atN_at hd h
theorem usesN_nmI {l : List Ent} (hd : (l.map eNm).Nodup) {i : Nat} (h : i < l.length) : usesN l (nmI l i) = usI l i := by unfold usesN; rw [atN_nmI hd h]; rfl
theorem nmI_of {l : List Ent} {u : ByteArray} {n : Nat} (h : atN l u = some n) : n < l.length ∧ nmI l n = u := by
 obtain ⟨h1, h2⟩ := atN_some h
 exact ⟨h1, by rw [nmI_at h1]; exact h2⟩
def CitP (l : List Ent) (free : ByteArray → Prop) (n u : ByteArray) : Prop := u ∈ usesN l n ∨ ∃ m, Rch (usesN l) free n m ∧ u ∈ usesN l m
def opB (l : List Ent) (sh : List Bool) (x : ByteArray) : Bool := match atN l x with | some k => !sh.getD k false | none => false
structure CitS (l : List Ent) (sh : List Bool) (i k j : Nat) (Q : List Nat) (M : List Bool) : Prop where
 len : M.length = l.length
 hd : ∃ T, Q = i :: T
 nd : Q.tail.Nodup
 lt : ∀ q ∈ Q, q < l.length
 tl : ∀ q ∈ Q.tail, M.getD q false = true
 snd : ∀ n, M.getD n false = true → CitP l (fun x => opB l sh x = true) (nmI l i) (nmI l n)
 qs : ∀ q ∈ Q.tail, Rch (usesN l) (fun x => opB l sh x = true) (nmI l i) (nmI l q)
 out : ∀ n, M.getD n false = true → sh.getD n false = false → n ∈ Q.tail
 done : ∀ t, t < k → ∀ u ∈ usI l (Q.getD t 0), ∀ n, atN l u = some n → M.getD n false = true
 part : ∀ u ∈ (usI l (Q.getD k 0)).take j, ∀ n, atN l u = some n → M.getD n false = true
section
variable {l : List Ent} {sh : List Bool} {i k j n : Nat} {Q : List Nat} {M : List Bool}
theorem getD_rep (m n : Nat) : (List.replicate m false).getD n false = false := by
 rw [List.getD_eq_getElem?_getD, List.getElem?_replicate]; split <;> rfl
theorem CitS.start (hi : i < l.length) : CitS l sh i 0 0 [i] (List.replicate l.length false) :=
 ⟨by simp, ⟨[], rfl⟩, by simp, (fun q hq => by rw [List.mem_singleton] at hq; rw [hq]; exact hi), (fun q hq => by simp at hq), (fun n hn => by rw [getD_rep] at hn; cases hn), (fun q hq => by simp at hq),
  (fun n hn => by rw [getD_rep] at hn; cases hn), (fun t ht => by omega), (fun u hu => by simp at hu)⟩
theorem CitS.size (h : CitS l sh i k j Q M) : Q.length ≤ l.length + 1 := by
 obtain ⟨T, rfl⟩ := h.hd
 have h1 := h.nd
 have h2 := h.lt
 simp only [List.tail_cons] at h1
 have : T.length ≤ (List.range l.length).length := nodupLe h1 (fun x hx => List.mem_range.2 (h2 x (by simp [hx])))
 rw [List.length_range] at this
 simp; omega
theorem CitS.skip (h : CitS l sh i k j Q M) {u : ByteArray} (hu : (usI l (Q.getD k 0))[j]? = some u) (hs : ∀ n, atN l u = some n → M.getD n false = true) : CitS l sh i k (j + 1) Q M :=
 ⟨h.len, h.hd, h.nd, h.lt, h.tl, h.snd, h.qs, h.out, h.done, (fun v hv n hn => by
   obtain ⟨hj, e⟩ := List.getElem?_eq_some_iff.1 hu
   rcases take_mem hj hv with h1 | h1
   ·exact h.part v h1 n hn
   ·rw [h1, e] at hn; exact hs n hn)⟩
theorem CitS.next (h : CitS l sh i k (usI l (Q.getD k 0)).length Q M) : CitS l sh i (k + 1) 0 Q M :=
 ⟨h.len, h.hd, h.nd, h.lt, h.tl, h.snd, h.qs, h.out, (fun t ht u hu n hn => by
   by_cases e : t = k
   ·subst e; exact h.part u (by rw [List.take_length]; exact hu) n hn
   ·exact h.done t (by omega) u hu n hn), (fun u hu => by simp at hu)⟩
theorem mset_getD {M : List Bool} {n m : Nat} (hn : n < M.length) : (M.set n true).getD m false = true ↔ m = n ∨ M.getD m false = true := by
 rw [List.getD_eq_getElem?_getD, List.getD_eq_getElem?_getD, List.getElem?_set]
 by_cases e : n = m
 ·subst e; rw [if_pos rfl, if_pos hn]; simp
 ·rw [if_neg e]
  constructor
  ·exact fun h => .inr h
  ·rintro (h | h)
   ·exact (e h.symm).elim
   ·exact h
theorem cit_from (hdn : (l.map eNm).Nodup) (h : CitS l sh i k j Q M) (hk : k < Q.length) {u : ByteArray} (hu : u ∈ usI l (Q.getD k 0)) :
  CitP l (fun x => opB l sh x = true) (nmI l i) u ∧ (opB l sh u = true → Rch (usesN l) (fun x => opB l sh x = true) (nmI l i) u) := by
 obtain ⟨T, rfl⟩ := h.hd
 cases k with
 | zero =>
  have hi : i < l.length := h.lt i (by simp)
  have hu' : u ∈ usesN l (nmI l i) := by rw [usesN_nmI hdn hi]; exact hu
  exact ⟨.inl hu', fun h => .one hu' h⟩
 | succ k =>
  have hk' : k < T.length := by simpa using hk
  have e : (i :: T).getD (k + 1) 0 = T[k] := by simp [List.getElem?_eq_getElem hk']
  rw [e] at hu
  have hq := h.qs T[k] (by simp)
  have hu' : u ∈ usesN l (nmI l T[k]) := by rw [usesN_nmI hdn (h.lt T[k] (by simp))]; exact hu
  exact ⟨.inr ⟨_, hq, hu'⟩, fun h => hq.more hu' h⟩
theorem getD_snoc {Q : List Nat} {t m : Nat} (h : t < Q.length) : (Q ++ [m]).getD t 0 = Q.getD t 0 := by
 rw [List.getD_eq_getElem?_getD, List.getD_eq_getElem?_getD, List.getElem?_append_left h]
theorem CitS.push (hdn : (l.map eNm).Nodup) (h : CitS l sh i k j Q M) (hk : k < Q.length) {u : ByteArray} (hu : (usI l (Q.getD k 0))[j]? = some u) (hat : atN l u = some n) (hM : M.getD n false = false) (hs : sh.getD n false = false) : CitS l sh i k (j + 1) (Q ++ [n]) (M.set n true) := by
 obtain ⟨hj, e⟩ := List.getElem?_eq_some_iff.1 hu
 obtain ⟨hn, en⟩ := nmI_of hat
 have hnM : n < M.length := by rw [h.len]; exact hn
 have hc := cit_from hdn h hk (u := u) (by rw [← e]; exact List.getElem_mem hj)
 have hop : opB l sh u = true := by unfold opB; rw [hat]; simp only; rw [hs]; rfl
 obtain ⟨T, hT⟩ := h.hd
 have htl : (Q ++ [n]).tail = Q.tail ++ [n] := by rw [hT]; simp
 refine ⟨by rw [List.length_set]; exact h.len, ⟨T ++ [n], by rw [hT]; rfl⟩, ?_, (fun q hq => ?_), (fun q hq => ?_), (fun m hm => ?_), (fun q hq => ?_), (fun m hm hsm => ?_), (fun t ht v hv m hm => ?_), (fun v hv m hm => ?_)⟩
 ·rw [htl, List.nodup_append]
  exact ⟨h.nd, by simp, fun a ha b hb e => by rw [List.mem_singleton] at hb; have := h.tl a ha; rw [e, hb, hM] at this; cases this⟩
 ·rcases List.mem_append.1 hq with h1 | h1
  ·exact h.lt q h1
  ·rw [List.mem_singleton] at h1; rw [h1]; exact hn
 ·rw [htl] at hq
  rcases List.mem_append.1 hq with h1 | h1
  ·exact (mset_getD hnM).2 (.inr (h.tl q h1))
  ·rw [List.mem_singleton] at h1; exact (mset_getD hnM).2 (.inl h1)
 ·rcases (mset_getD hnM).1 hm with e1 | e1
  ·rw [e1, en]; exact hc.1
  ·exact h.snd m e1
 ·rw [htl] at hq
  rcases List.mem_append.1 hq with h1 | h1
  ·exact h.qs q h1
  ·rw [List.mem_singleton] at h1; rw [h1, en]; exact hc.2 hop
 ·rw [htl]
  rcases (mset_getD hnM).1 hm with e1 | e1
  ·rw [e1]; simp
  ·exact List.mem_append_left _ (h.out m e1 hsm)
 ·rw [getD_snoc (by omega)] at hv
  exact (mset_getD hnM).2 (.inr (h.done t ht v hv m hm))
 ·rw [getD_snoc hk] at hv
  rcases take_mem hj hv with h1 | h1
  ·exact (mset_getD hnM).2 (.inr (h.part v h1 m hm))
  ·rw [h1, e, hat] at hm
   exact (mset_getD hnM).2 (.inl (by injection hm with hm; exact hm.symm))
theorem getD_of_mem {Q : List Nat} {q : Nat} (h : q ∈ Q) : ∃ t, t < Q.length ∧ Q.getD t 0 = q := by
 obtain ⟨t, ht, e⟩ := List.getElem_of_mem h
 exact ⟨t, ht, by rw [List.getD_eq_getElem?_getD, List.getElem?_eq_getElem ht]; exact e⟩
theorem CitS.fin (hdn : (l.map eNm).Nodup) (h : CitS l sh i Q.length 0 Q M) (hn : n < l.length) : M.getD n false = true ↔ CitP l (fun x => opB l sh x = true) (nmI l i) (nmI l n) := by
 refine ⟨h.snd n, fun hc => ?_⟩
 obtain ⟨T, hT⟩ := h.hd
 have hi : i < l.length := h.lt i (by rw [hT]; simp)
 have hq : ∀ q ∈ Q, ∀ u ∈ usesN l (nmI l q), ∀ m, atN l u = some m → M.getD m false = true := fun q hq u hu m hm => by
  obtain ⟨t, ht, e⟩ := getD_of_mem hq
  rw [usesN_nmI hdn (h.lt q hq)] at hu
  exact h.done t ht u (by rw [e]; exact hu) m hm
 have hqT : ∀ q ∈ Q.tail, q ∈ Q := fun q hq => by rw [hT] at hq ⊢; simp at hq ⊢; exact .inr hq
 have hr : ∀ m, Rch (usesN l) (fun x => opB l sh x = true) (nmI l i) m → ∃ q ∈ Q.tail, nmI l q = m := fun m hr => by
  have key : ∀ p u, p ∈ Q → u ∈ usesN l (nmI l p) → opB l sh u = true → ∃ q ∈ Q.tail, nmI l q = u := fun p u hp hu hop => by
   unfold opB at hop
   cases hat : atN l u with
   | none => rw [hat] at hop; cases hop
   | some m =>
    rw [hat] at hop
    obtain ⟨hm, em⟩ := nmI_of hat
    exact ⟨m, h.out m (hq p hp u hu m hat) (by simpa using hop), em⟩
  induction hr with
  | one h1 h2 => exact key i _ (by rw [hT]; simp) h1 h2
  | more _ h1 h2 ih =>
   obtain ⟨p, hp, e⟩ := ih
   exact key p _ (hqT p hp) (by rw [e]; exact h1) h2
 rcases hc with h1 | ⟨m, h1, h2⟩
 ·exact hq i (by rw [hT]; simp) _ h1 n (atN_nmI hdn hn)
 ·obtain ⟨q, hq1, e⟩ := hr m h1
  exact hq q (hqT q hq1) _ (by rw [e]; exact h2) n (atN_nmI hdn hn)
end
open Classical in
noncomputable def citeB (l : List Ent) (sh : List Bool) (i n : Nat) : Bool := decide (CitP l (fun x => opB l sh x = true) (nmI l i) (nmI l n))
theorem citeB_iff {l : List Ent} {sh : List Bool} {i n : Nat} : citeB l sh i n = true ↔ CitP l (fun x => opB l sh x = true) (nmI l i) (nmI l n) := by unfold citeB; simp
theorem CitS.list {l : List Ent} {sh : List Bool} {i : Nat} {Q : List Nat} {M : List Bool} (hdn : (l.map eNm).Nodup) (h : CitS l sh i Q.length 0 Q M) : M = (List.range l.length).map (citeB l sh i) := by
 apply List.ext_getElem (by simp [h.len])
 intro n h1 h2
 have hn : n < l.length := by rw [h.len] at h1; exact h1
 rw [List.getElem_map, List.getElem_range, Bool.eq_iff_iff, citeB_iff, ← h.fin hdn hn, List.getD_eq_getElem?_getD, List.getElem?_eq_getElem h1, Option.getD_some]
end Go.Proofs.YtpmnnoopoblpgaaGreat

/- If entries say something more general, what holds goes on holding, where no step becomes too great or has no "if". No program is named. -/
namespace Go.Proofs.YtpmnnoopoblpgaaGreat

theorem insTrans {s : Sg} {a b c : List Int} (h : Ins s a b) (k : Ins s b c) : Ins s a c := by
 obtain ⟨η, h1, h2⟩ := h
 obtain ⟨ζ, k1, k2⟩ := k
 exact ⟨fun n => ap ζ (η n), fun n hn => (h1 n hn).ap k1, by rw [← ap_ap, h2, k2]⟩
theorem insSelf {s : Sg} (a : List Int) : Ins s a a := ⟨fun n => [n], fun _ hn => W1.var hn, ap_id (fun _ _ _ => rfl)⟩
theorem lstD_getD {L : List (List Int)} : L.getLastD [] = L.getD (L.length - 1) [] := by
 rw [List.getLastD_eq_getLast?, List.getLast?_eq_getElem?, List.getD_eq_getElem?_getD]
theorem okEnt_says' {s : Sg} {x : Ent} (h : okEnt s x = true) : okT s (eSays x) = true := by
 unfold okEnt at h
 simp only [Bool.and_eq_true] at h
 have h2 := h.1.2.2
 unfold isCanonT at h2
 rw [Bool.and_eq_true] at h2
 exact h2.1
theorem atN_map {l l' : List Ent} (h : l.map eNm = l'.map eNm) (n : ByteArray) : atN l n = atN l' n := by
 unfold atN
 have e : ∀ m : List Ent, m.findIdx? (fun x => decide (eNm x = n)) = (m.map eNm).findIdx? (fun y => decide (y = n)) := fun m => by
  rw [List.findIdx?_map]; rfl
 rw [e l, e l', h]
theorem inAll_map {l l' : List Ent} (h : l.map eNm = l'.map eNm) (us : List ByteArray) : inAll l us = inAll l' us := by
 unfold inAll
 congr 1
 funext u
 rw [atN_map h]
theorem inAll_lt {l : List Ent} {us : List ByteArray} (h : inAll l us = true) {u : ByteArray} (hu : u ∈ us) : (atN l u).getD 0 < l.length := by
 unfold inAll at h
 rw [List.all_eq_true] at h
 have := h u hu
 cases hat : atN l u with
 | none => rw [hat] at this; cases this
 | some i => exact (atN_some hat).1
theorem givF_okT {s : Sg} {l : List Ent} {us : List ByteArray} (hok : ∀ x ∈ l, okEnt s x = true) (hin : inAll l us = true) : ∀ t ∈ givF l us, okT s t = true := by
 intro t ht
 unfold givF at ht
 obtain ⟨u, hu, rfl⟩ := List.mem_map.1 ht
 have := inAll_lt hin hu
 rw [getD_at this]
 exact okEnt_says' (hok _ (List.getElem_mem this))
end Go.Proofs.YtpmnnoopoblpgaaGreat

/- What is shaken: told by marks and told by names, it is one. No program is named. -/
namespace Go.Proofs.YtpmnnoopoblpgaaGreat

def mssB (l : List Ent) (u : ByteArray) : Bool := l.any (fun x => memB (eUses x) u) && (atN l u).isNone
noncomputable def badB (s : Sg) (l : List Ent) (u : ByteArray) : Bool := mssB l u || chB l (fun i => !holdX s l i) u
open Classical in
noncomputable def goodB (s : Sg) (l : List Ent) (i : Nat) : Bool := !badB s l (nmI l i) && decide (∀ n, rchB l (fun _ => true) (nmI l i) n = true → badB s l n = false)
end Go.Proofs.YtpmnnoopoblpgaaGreat

/- The box of the reference's Match in the world; positions in terms. -/
namespace Go.Proofs.YtpmnnoopoblpgaaGreat
open Go Go.RowKit Go.Maps

theorem skip_at {s : Sg} {k p : Nat} {t r : List Int} (h : skip s k (t.drop p) = some r) (hp : p ≤ t.length) : r = t.drop (t.length - r.length) ∧ p + k ≤ t.length - r.length := by
 obtain ⟨u, e, _, hl⟩ := skip_split s k _ _ h
 have hlen : t.length - p = u.length + r.length := by have := congrArg List.length e; simpa using this
 have h2 : r = t.drop (p + u.length) := by
  rw [← List.drop_drop, e, List.drop_append_of_le_length (Nat.le_refl _), List.drop_length, List.nil_append]
 refine ⟨?_, by omega⟩
 rw [show t.length - r.length = p + u.length by omega]
 exact h2
theorem part_same {s : Sg} {l r : List Int} (h : skip s 1 l = some r) : partAt s l = partW s l := by
 unfold partAt partW; rw [h, skw_of_skip h]
theorem skip_next {s : Sg} {k m : Nat} {l l' r : List Int} (h : skip s k l = some l') (ht : skip s m l = some r) (hk : k < m) : ∃ l2, skip s 1 l' = some l2 ∧ skip s (k + 1) l = some l2 := by
 rw [show m = k + (m - k) by omega, skip_add, h, Option.bind_some, show m - k = (m - k - 1) + 1 by omega] at ht
 obtain ⟨l2, h1, -⟩ := skip_one ht
 exact ⟨l2, h1, by rw [skip_add, h, Option.bind_some, h1]⟩
structure BoxM (w : World) (xb : Nat) (B : Bd) : Prop where
 blk : ∃ vs : List Value, w.heap[xb]? = some (.cells vs.toArray 120 (0, 0)) ∧ vs.length = 12 ∧ ∀ i (h : i < vs.length), SlotW (fun b => b ≠ xb) w (B (-(i : Int) - 1)) vs[i]
section
variable {w w' : World} {xb : Nat} {B : Bd}
theorem BoxM.lt (h : BoxM w xb B) : xb < w.heap.size := by obtain ⟨vs, h1, -⟩ := h.blk; exact (Array.getElem?_eq_some_iff.1 h1).1
theorem BoxM.below (h : BoxM w xb B) (hb : Below w.heap.size w w') : BoxM w' xb B := by
 obtain ⟨vs, h1, h2, h3⟩ := h.blk
 exact ⟨⟨vs, (hb.block xb h.lt).trans h1, h2, fun i hi => (h3 i hi).mono (fun _ _ h => h) (.all hb)⟩⟩
theorem BoxM.slot (h : BoxM w xb B) {n : Nat} (hn : n < 12) : ∃ v, w.cell? ⟨xb, n, none⟩ = some v ∧ SlotW (fun b => b ≠ xb) w (B (-(n : Int) - 1)) v := by
 obtain ⟨vs, h1, h2, h3⟩ := h.blk
 have hi : n < vs.length := by omega
 exact ⟨vs[n], by simp [World.cell?, h1, hi], h3 _ hi⟩
theorem BoxM.frozen (h : BoxM w xb B) (o : Nat) : w.frozen? ⟨xb, o, none⟩ = false := by
 obtain ⟨vs, h1, -⟩ := h.blk
 simp [World.frozen?, h1]
theorem BoxM.set (h : BoxM w xb B) {n : Nat} {q : List Int} {a : Option Addr} {c : Nat} (hq : Ints (fun b => b ≠ xb) w a c q) :
  BoxM (w.setCell ⟨xb, n, none⟩ (.slice a q.length c)) xb (upB B (-(n : Int) - 1) q) := by
 obtain ⟨vs, h1, h2, h3⟩ := h.blk
 have hg := gby_set w xb n (.slice a q.length c)
 have hA : Agree (fun b => b ≠ xb) w (w.setCell ⟨xb, n, none⟩ (.slice a q.length c)) := .of_grown hg (fun b hb e => hb (by cases e; rfl))
 refine ⟨⟨vs.set n (.slice a q.length c), ?_, by simp [h2], fun i hi => ?_⟩⟩
 ·rw [heap_set h1]
  simp
 ·rw [List.length_set] at hi
  rw [List.getElem_set]
  unfold upB
  by_cases e : n = i
  ·rw [if_pos e, if_pos (by omega)]; exact ⟨a, c, rfl, hq.same hA⟩
  ·rw [if_neg e, if_neg (by omega)]; exact (h3 i hi).mono (fun _ _ h => h) hA
theorem BoxM.congr {B' : Bd} (h : BoxM w xb B) (he : B = B') : BoxM w xb B' := he ▸ h
theorem BoxM.new (W : World) : BoxM (W.alloc (.cells #[.slice none 0 0, .slice none 0 0, .slice none 0 0, .slice none 0 0, .slice none 0 0, .slice none 0 0, .slice none 0 0, .slice none 0 0, .slice none 0 0, .slice none 0 0, .slice none 0 0, .slice none 0 0] 120)) W.heap.size (fun _ => none) := by
 refine ⟨⟨List.replicate 12 (.slice none 0 0), ?_, by simp, fun i hi => ?_⟩⟩
 ·rw [heap_alloc_new]; rfl
 ·rw [List.getElem_replicate]; rfl
end
end Go.Proofs.YtpmnnoopoblpgaaGreat

/- Walks of the reference's solver: look. -/
namespace Go.Proofs.YtpmnnoopoblpgaaGreat
open Go Go.RowKit Go.Maps

def LkG (S : Nat → Prop) (w : World) (f : Int → Value) (B : Bd) (p : List Int) (a' : Option Addr) (c' : Nat) : Nat → Option Addr → Nat → List Int → Prop
 | 0, a, c, t => (t = p ∧ a = a' ∧ c = c') ∧ ∀ n r, t = n :: r → n < 0 → B n = none
 | k + 1, _, _, t => ∃ n r u a3 c3, t = n :: r ∧ n < 0 ∧ B n = some u ∧ f n = .slice a3 u.length c3 ∧ Ints S w a3 c3 u ∧ LkG S w f B p a' c' k a3 c3 u
theorem LkG.ex {S : Nat → Prop} {w : World} {f : Int → Value} {B : Bd} {p : List Int} (hr : RgB B) (h3 : ∀ n, n < 0 → -24 ≤ n → SlotW S w (B n) (f n)) :
  ∀ (k : Nat) (t : List Int) (a : Option Addr) (c : Nat), Rg t → Ints S w a c t → LkdN B p k t → ∃ a' c', LkG S w f B p a' c' k a c t ∧ Ints S w a' c' p
 | 0, t, a, c, _, hT, ⟨h1, h2⟩ => ⟨a, c, ⟨⟨h1, rfl, rfl⟩, h2⟩, h1 ▸ hT⟩
 | k + 1, t, a, c, rt, hT, ⟨n, r, u, h1, h2, hB, h4⟩ => by
  have hs := h3 n h2 (rt n (by rw [h1]; simp) h2)
  rw [hB] at hs
  obtain ⟨a3, c3, g1, g2⟩ := hs
  obtain ⟨a', c', g3, g4⟩ := LkG.ex hr h3 k u a3 c3 (hr n u hB).1 g2 h4
  exact ⟨a', c', ⟨n, r, u, a3, c3, h1, h2, hB, g1, g2, g3⟩, g4⟩
theorem SolX.cells {S : Nat → Prop} {w : World} {xb : Nat} {a1 : Option Addr} {c1 : Nat} {s : Sg} {B : Bd} (h : SolX S w xb a1 c1 s B) :
  ∃ f : Int → Value, ∀ n, n < 0 → -24 ≤ n → w.cell? ⟨xb, 1 + (-n - 1).toNat, none⟩ = some (f n) ∧ SlotW S w (B n) (f n) := by
 obtain ⟨vs, h1, h2, h3⟩ := h.blk
 refine ⟨fun n => vs.getD (-n - 1).toNat undef, fun n hn h24 => ?_⟩
 have hi : (-n - 1).toNat < vs.length := by omega
 have hg : vs.getD (-n - 1).toNat undef = vs[(-n - 1).toNat] := by rw [List.getD_eq_getElem?_getD, List.getElem?_eq_getElem hi]; rfl
 simp only [hg]
 refine ⟨?_, ?_⟩
 ·rw [Nat.add_comm]
  simp [World.cell?, h1]
 ·have := h3 _ hi
  rw [show (-(((-n - 1).toNat : Nat) : Int) - 1) = n by omega] at this
  exact this
end Go.Proofs.YtpmnnoopoblpgaaGreat

/- Walks of the reference's solver: occurs. -/
namespace Go.Proofs.YtpmnnoopoblpgaaGreat
open Go Go.RowKit Go.Maps

end Go.Proofs.YtpmnnoopoblpgaaGreat

/- Walks of the reference's solver: Solve. -/
namespace Go.Proofs.YtpmnnoopoblpgaaGreat
open Go Go.RowKit Go.Maps

abbrev Nx (xb : Nat) : Nat → Prop := fun b => b ≠ xb
theorem drew_trans {a b c : World} (h : Drew a b) (k : Drew b c) : Drew a c := by obtain ⟨n, rfl⟩ := h; obtain ⟨m, rfl⟩ := k; exact Drew.mk2 _ _ _
theorem Lkd.len {B : Bd} {a p : List Int} (h : Lkd B a p) (ha : a.length ≤ 60) (hB : ∀ n u, B n = some u → u.length ≤ 60) : p.length ≤ 60 := by
 induction h with
 | stop _ => exact ha
 | go _ hb _ ih => exact ih (hB _ _ hb)
end Go.Proofs.YtpmnnoopoblpgaaGreat

/- Walks of the reference's solver: Solve of any terms. -/
namespace Go.Proofs.YtpmnnoopoblpgaaGreat
open Go Go.RowKit Go.Maps

theorem Slv2.turn {s : Sg} {B : Bd} {θ : Int → List Int} {ρ : Int → Nat} {a b p q : List Int} {B' : Bd} {θ' : Int → List Int} {ρ' : Int → Nat} (h : Slv s B θ ρ) (ha : W1 s a) (hb : W1 s b) (hp : Lkd B a p) (hq : Lkd B b q) (h2 : Slv2 s B θ ρ q p B' θ' ρ') : Slv2 s B θ ρ a b B' θ' ρ' := by
 refine ⟨h2.slv, h2.rg, fun η hw => ?_, h2.less⟩
 rw [h2.sat η hw]
 constructor
 ·rintro ⟨g1, g2⟩
  refine ⟨g1, ?_⟩
  rw [← hp.eta g1 ha (fun n u hB => (h.wf n u hB).1), ← hq.eta g1 hb (fun n u hB => (h.wf n u hB).1), g2]
 ·rintro ⟨g1, g2⟩
  refine ⟨g1, ?_⟩
  rw [hp.eta g1 ha (fun n u hB => (h.wf n u hB).1), hq.eta g1 hb (fun n u hB => (h.wf n u hB).1), g2]
def S4 (xb : Nat) (v vi vj : Value) (ci cj : Addr) (wr w' : World) : Prop := w'.cell? ⟨xb, 0, none⟩ = some v ∧ w'.cell? ci = some vi ∧ w'.cell? cj = some vj ∧ wr.grownBy w' (some xb)
theorem S4.call {xb : Nat} {v vi vj : Value} {ci cj : Addr} {wr w1 w2 : World} (h : w1.cell? ⟨xb, 0, none⟩ = some v ∧ w1.cell? ci = some vi ∧ w1.cell? cj = some vj ∧ wr.grownBy w1 (some xb)) (hb : Below w1.heap.size w1 w2) : w2.cell? ⟨xb, 0, none⟩ = some v ∧ w2.cell? ci = some vi ∧ w2.cell? cj = some vj ∧ wr.grownBy w2 (some xb) :=
 ⟨cell_later hb h.1, cell_later hb h.2.1, cell_later hb h.2.2.1, gby_trans h.2.2.2 (gby_below hb)⟩
theorem S4.solve {xb : Nat} {vi vj : Value} {ci cj : Addr} {wr w1 w2 : World} {a1 : Option Addr} {c1 : Nat} {s : Sg} {B : Bd} (h : w1.cell? ⟨xb, 0, none⟩ = some (.slice a1 s.length c1) ∧ w1.cell? ci = some vi ∧ w1.cell? cj = some vj ∧ wr.grownBy w1 (some xb)) (hi : ci.block ≠ xb) (hj : cj.block ≠ xb) (hg : w1.grownBy w2 (some xb)) (hs : SolX (Nx xb) w2 xb a1 c1 s B) :
  w2.cell? ⟨xb, 0, none⟩ = some (.slice a1 s.length c1) ∧ w2.cell? ci = some vi ∧ w2.cell? cj = some vj ∧ wr.grownBy w2 (some xb) :=
 ⟨hs.sign, (World.cell?_of_block (hg.block _ (World.block_lt_of_cell? _ _ h.2.1) (fun e => hi (by cases e; rfl)))).trans h.2.1, (World.cell?_of_block (hg.block _ (World.block_lt_of_cell? _ _ h.2.2.1) (fun e => hj (by cases e; rfl)))).trans h.2.2.1, gby_trans h.2.2.2 hg⟩
end Go.Proofs.YtpmnnoopoblpgaaGreat

/- Walks of the reference's solver: Apart. -/
namespace Go.Proofs.YtpmnnoopoblpgaaGreat
open Go Go.RowKit Go.Maps

end Go.Proofs.YtpmnnoopoblpgaaGreat

/- Walks of the reference's solver: size, whole. -/
namespace Go.Proofs.YtpmnnoopoblpgaaGreat
open Go Go.RowKit Go.Maps

end Go.Proofs.YtpmnnoopoblpgaaGreat

/- Walks: lemmaryref02.matched. -/
namespace Go.Proofs.YtpmnnoopoblpgaaGreat
open Go Go.RowKit Go.Maps

def matchRet (w : World) (xb : Nat) (s : Sg) (a b ra rb : List Int) (e : Ending) (w' : World) : Prop :=
 ∃ (r : Bool) (B' : Bd), e = .returned (.bool r) ∧ w.grownBy w' (some xb) ∧ BoxM w' xb B' ∧ (r = false → instB s a b = false) ∧ (r = true → MRel s a b (a.length - ra.length) (b.length - rb.length) B')
def MatchAt (xb : Nat) (a1 : Option Addr) (c1 : Nat) (s : Sg) (a b : List Int) (i j : Nat) (B : Bd) (ra rb : List Int) : Prop :=
 ∀ (w : World) (a2 a3 : Option Addr) (c2 c3 : Nat), BoxM w xb B → Sign (Nx xb) w a1 c1 s → Ints (Nx xb) w a2 c2 a → Ints (Nx xb) w a3 c3 b →
  Calls Tryz.prog 124 #[.slice a1 s.length c1, .slice a2 a.length c2, .slice a3 b.length c3, .int .i64 i, .int .i64 j, .pointer (some ⟨xb, 0, none⟩)] w (matchRet w xb s a b ra rb)
theorem eql_nil (W : World) : Sem.run Tryz.prog (binOp BinOp.eql 26 (Value.slice none 0 0) (Value.slice none 0 0)) W = .ok (.bool true) W := by kernel_rfl
theorem eql_some (b o n c : Nat) (W : World) : Sem.run Tryz.prog (binOp BinOp.eql 26 (Value.slice (some ⟨b, o, none⟩) n c) (Value.slice none 0 0)) W = .ok (.bool false) W := by kernel_rfl
theorem keep1 {W4 w1 w2 : World} {p : Addr} {v : Value} (h : Below W4.heap.size W4 w1 ∧ w1.cell? p = some v) (hb : Below w1.heap.size w1 w2) : Below W4.heap.size W4 w2 ∧ w2.cell? p = some v := ⟨bcall h.1 hb, cell_later hb h.2⟩
set_option maxRecDepth 20000 in
set_option maxHeartbeats 4000000 in
theorem match_var {xb : Nat} {a1 : Option Addr} {c1 : Nat} {s : Sg} {a b : List Int} {i j : Nat} {B : Bd} {ra rb : List Int} (hok : okSign s = true) (la : a.length ≤ 60) (lb : b.length ≤ 60)
  (hra : skip s 1 (a.drop i) = some ra) (hrb : skip s 1 (b.drop j) = some rb) (hM : MRel s a b i j B) (hi : i < a.length) (hn : a[i] < 0) : MatchAt xb a1 c1 s a b i j B ra rb := by
 intro w a2 a3 c2 c3 hB h1 ta tb
 obtain ⟨hi', hca, hsa⟩ := skip_drop (k := 0) hra
 have h12 : -12 ≤ a[i] := by
  simp only [codeOk, Bool.or_eq_true, decide_eq_true_eq] at hca
  omega
 obtain ⟨hj, -, -⟩ := skip_drop (k := 0) hrb
 have hrw : ra = a.drop (i + 1) := by
  have : ar s a[i] = 0 := by unfold ar arC; rw [if_pos ⟨h12, by omega⟩]; rfl
  rw [this] at hsa
  rw [Nat.add_zero, skip_zero] at hsa
  exact (Option.some.inj hsa).symm
 have hal : a.length - ra.length = i + 1 := by rw [hrw, List.length_drop]; omega
 obtain ⟨n, hx⟩ : ∃ n : Nat, a[i] = -(n : Int) - 1 := ⟨(-a[i] - 1).toNat, by omega⟩
 have hn12 : n < 12 := by omega
 obtain ⟨u, hu⟩ : ∃ u, partAt s (b.drop j) = u := ⟨_, rfl⟩
 have huw : partW s (b.drop j) = u := by rw [← part_same hrb]; exact hu
 have hrbw := skw_of_skip hrb
 have hu1 : 1 ≤ u.length := by rw [← hu]; exact (partAt_eq hrb).2.2
 have hvar := fun h => hM.var hi hn hrbw h
 have hwf : ∀ q, B (-(n : Int) - 1) = some q → 1 ≤ q.length := fun q h => (hM.wf _ _ h).len
 have hvno := fun v h1 h2 => hM.var_no (u := v) hi hn hrbw h1 h2
 rw [huw] at hvar
 rw [hx] at hvar
 simp only [hx, huw] at hvno
 rw [← hal] at hvar
 obtain ⟨ba, oa, rfl, hba, qa, -⟩ := ta.int i hi
 rw [hx] at qa
 have cp := fun W (hb : Below w.heap.size w W) => rPart_any a1 a3 c1 c3 s b j rb W (h1.below hb) (tb.below hb) hok hrb lb
 rw [hu] at cp
 have hBb := fun W (hb : Below w.heap.size w W) => hB.below hb
 have hxlt := hB.lt
 have m1 := h1.le
 have m2 := ta.le
 have m3 := tb.le
 have hw1 : IntKind.i64.wrap (-(-(n : Int) - 1)) = (n : Int) + 1 := by rw [IntWalk.i64_in _ (by omega)]; omega
 have hw2 : IntKind.i64.wrap ((n : Int) + 1 - 1) = (n : Int) := by rw [IntWalk.i64_in _ (by omega)]; omega
 have hdv : decide (-(n : Int) - 1 < 0) = true := by simp; omega
 have cpH := Lib.hid cp
 have hBbH := Lib.hid hBb
 have hvarH := Lib.hid hvar
 have hwfH := Lib.hid hwf
 have hn12' : (n : Int) < 12 := by omega
 have hxltH := Lib.hid hxlt
 have hvnoH := Lib.hid hvno
 have hba' : ba ≠ xb := hba
 clear hM hB h1 ta tb h12 hi' hca hsa hrw hal hx hu huw hrbw hra hrb cp hBb hvar hvno hn hba hwf hxlt
 have qad := cell_later (Below.drew (.refl w.heap.size _)) qa
 have hk0 : Below w.heap.size w w.drew ∧ w.drew.cell? ⟨ba, oa + i, none⟩ = some (.int .i64 (-(n : Int) - 1)) := ⟨Below.drew (.refl w.heap.size _), qad⟩
 go_enter Tryz.func124, Tryz.ntmps124
 go_wp2_with fail
 clear qad
 go_region_held3 (fun w' => Below w.heap.size w w' ∧ w'.cell? ⟨ba, oa + i, none⟩ = some (.int .i64 (-(n : Int) - 1)))
  ((first | exact hk0 | exact keep1 ‹_› hbP))
  ((go_at_call 168; (with_reducible refine (cpH.out _ ?_).mono ?_); exact (And.left ‹_›); rintro e w2 ⟨vP, rfl, hoP, hbP⟩; obtain ⟨aP, cP, rfl, hIP⟩ := OwnI.ints hoP))
 have hB2 := And.left (‹Below w.heap.size w w2 ∧ _›)
 have hM2 := hBbH.out w2 hB2
 obtain ⟨v, qv, hv⟩ := hM2.slot hn12
 have hfz := hM2.frozen n
 have IP : Ints (Nx xb) w2 aP cP u := hIP.weak (fun b hb e => by
  have hb' : w.heap.size ≤ b := hb
  have := hxltH.out
  omega)
 obtain ⟨bP, oP, rfl, -, -, -⟩ := IP.int 0 (by omega)
 have hB2H := Lib.hid hB2
 have hM2H := Lib.hid hM2
 have IPH := Lib.hid IP
 clear hIP hoP hbP hk0 hB2 hM2 IP hBbH cpH
 cases hBn : B (-(n : Int) - 1) with
 | none =>
  rw [hBn] at hv
  change v = .slice none 0 0 at hv
  subst hv
  have heq := eql_nil
  go_upto_region 5 with fail
  obtain ⟨w3, hw3⟩ : ∃ w3, w2.setCell ⟨xb, n, none⟩ (.slice (some ⟨bP, oP, none⟩) u.length cP) = w3 := ⟨_, rfl⟩
  have hM3 : BoxM w3 xb (upB B (-(n : Int) - 1) u) := by rw [← hw3]; exact hM2H.out.set IPH.out
  have hg3 : w2.grownBy w3 (some xb) := by rw [← hw3]; exact gby_set _ _ _ _
  have IP3 : Ints (Nx xb) w3 (some ⟨bP, oP, none⟩) cP u := IPH.out.same (.of_grown hg3 (fun b hb e => hb (by cases e; rfl)))
  have cs := Lib.hid (Same_any _ _ cP cP u u w3 IP3 IP3)
  have q3 : w3.cell? ⟨xb, n, none⟩ = some (.slice (some ⟨bP, oP, none⟩) u.length cP) := by rw [← hw3]; clear hM3 hg3 IP3 cs hw3; go_simp
  have hvr := hvarH.out (.inl hBn)
  have hM3H := Lib.hid hM3
  have hg3H := Lib.hid (gby_trans (gby_below hB2H.out) hg3)
  have hvrH := Lib.hid hvr
  rw [hw3]
  clear hw3 hM3 hg3 IP3 hvr hvarH hvnoH hwfH qv hfz hM2H IPH hB2H
  go_wp2_with fail
  refine cs.out.mono ?_
  rintro e w4 ⟨rfl, hd4⟩
  go_wp2_with fail
  go_ret
  exact ⟨true, _, by simp, gby_trans hg3H.out (gby_below (hd4.below _)), hM3H.out.below (hd4.below _), fun e => (by cases e), fun _ => hvrH.out⟩
 | some q =>
  rw [hBn] at hv
  obtain ⟨aQ, cQ, rfl, IQ⟩ := hv
  have hq1 := hwfH.out q hBn
  obtain ⟨bQ, oQ, rfl, -, -, -⟩ := IQ.int 0 (by omega)
  have cs := Lib.hid (Same_any _ _ cQ cP q u w2 IQ IPH.out)
  have hBnH := Lib.hid hBn
  have mq := IQ.le
  have heq := eql_some bQ oQ q.length cQ
  clear IQ IPH hBn hwfH
  go_wp2_with fail
  refine cs.out.mono ?_
  rintro e w4 ⟨rfl, hd4⟩
  have hM4H := Lib.hid (hM2H.out.below (hd4.below _))
  have hg4 : w.grownBy w4 (some xb) := gby_trans (gby_below hB2H.out) (gby_below (hd4.below _))
  have hg4H := Lib.hid hg4
  clear cs hd4 hB2H hM2H qv hfz hg4
  by_cases hqu : q = u
  ·have hd : decide (q = u) = true := decide_eq_true hqu
   have hvr := hvarH.out (.inr (by rw [hBnH.out, hqu]))
   have hvrH := Lib.hid hvr
   have huB : upB B (-(n : Int) - 1) u = B := by
    funext m; unfold upB; split
    ·rename_i e; rw [e, hBnH.out, hqu]
    ·rfl
   rw [huB] at hvrH
   clear hvr hvarH hvnoH huB hqu
   go_wp2_with fail
   go_ret
   exact ⟨true, B, rfl, hg4H.out, hM4H.out, fun e => (by cases e), fun _ => hvrH.out⟩
  ·have hd : decide (q = u) = false := decide_eq_false hqu
   have hvn := Lib.hid (hvnoH.out q hBnH.out hqu)
   clear hvarH hvnoH hqu
   go_wp2_with fail
   go_ret
   exact ⟨false, B, rfl, hg4H.out, hM4H.out, fun _ => hvn.out, fun e => (by cases e)⟩
def mloopRel (w : World) (xb : Nat) (s : Sg) (a b : List Int) (i j m : Nat) (x : Value) (wr : World) : Prop :=
 ∃ (k : Nat) (B : Bd) (la lb : List Int), x = .int .i64 k ∧ k ≤ m ∧ skip s k (a.drop (i + 1)) = some la ∧ skip s k (b.drop (j + 1)) = some lb ∧ MRel s a b (a.length - la.length) (b.length - lb.length) B ∧ BoxM wr xb B ∧ w.grownBy wr (some xb)
theorem posK_len {s : Sg} {n : Nat} : ∀ (m : Nat) (l : List Int), (posK s n m l).length = m
 | 0, _ => rfl
 | m + 1, l => by rw [posK, List.length_cons, posK_len m]
theorem posK_val {s : Sg} {n k m : Nat} {l l' : List Int} (h : skip s k l = some l') (hk : k < m) : (posK s n m l)[k]'(by rw [posK_len]; exact hk) = ((n - l'.length : Nat) : Int) := by
 have := posK_get (n := n) h hk
 rw [List.getElem?_eq_getElem (by rw [posK_len]; exact hk)] at this
 exact Option.some.inj this
def S3 (xb : Nat) (vi vj : Value) (ci cj : Addr) (wr w' : World) : Prop := wr.grownBy w' (some xb) ∧ w'.cell? ci = some vi ∧ w'.cell? cj = some vj
theorem keepM {xb : Nat} {vi vj : Value} {ci cj : Addr} {wr w1 w2 : World} (h : wr.grownBy w1 (some xb) ∧ w1.cell? ci = some vi ∧ w1.cell? cj = some vj) (hi : ci.block ≠ xb) (hj : cj.block ≠ xb) (hg : w1.grownBy w2 (some xb)) :
  wr.grownBy w2 (some xb) ∧ w2.cell? ci = some vi ∧ w2.cell? cj = some vj :=
 ⟨gby_trans h.1 hg, (World.cell?_of_block (hg.block _ (World.block_lt_of_cell? _ _ h.2.1) (fun e => hi (by cases e; rfl)))).trans h.2.1, (World.cell?_of_block (hg.block _ (World.block_lt_of_cell? _ _ h.2.2) (fun e => hj (by cases e; rfl)))).trans h.2.2⟩
set_option maxRecDepth 20000 in
set_option maxHeartbeats 4000000 in
theorem match_sym {xb : Nat} {a1 : Option Addr} {c1 : Nat} {s : Sg} {a b : List Int} {i j : Nat} {B : Bd} {ra rb : List Int} (hok : okSign s = true) (la : a.length ≤ 60) (lb : b.length ≤ 60)
  (hra : skip s 1 (a.drop i) = some ra) (hrb : skip s 1 (b.drop j) = some rb) (hM : MRel s a b i j B) (hi : i < a.length) (hn : ¬ a[i] < 0)
  (hrec : ∀ i' j' B' ra' rb', i < i' → skip s 1 (a.drop i') = some ra' → skip s 1 (b.drop j') = some rb' → MRel s a b i' j' B' → MatchAt xb a1 c1 s a b i' j' B' ra' rb') : MatchAt xb a1 c1 s a b i j B ra rb := by
 intro w a2 a3 c2 c3 hB h1 ta tb
 obtain ⟨hi', hca, hsa⟩ := skip_drop (k := 0) hra
 obtain ⟨hj, hcb, hsb⟩ := skip_drop (k := 0) hrb
 rw [Nat.zero_add] at hsa hsb
 have hno := hM.sym_no hi hj hn
 have hyes := hM.sym hi hj hn
 have hiN := hi
 have hjN := hj
 obtain ⟨ba, oa, rfl, hba, qa, raR⟩ := ta.int i hi
 obtain ⟨bb, ob, rfl, hbb, qb, rbR⟩ := tb.int j hj
 have cA := fun W (hb : Below w.heap.size w W) => rArguments_any a1 (some ⟨ba, oa, none⟩) c1 c2 s a i ra W (h1.below hb) (ta.below hb) hok hra la
 have cB := fun W (hb : Below w.heap.size w W) => rArguments_any a1 (some ⟨bb, ob, none⟩) c1 c3 s b j rb W (h1.below hb) (tb.below hb) hok hrb lb
 rw [List.getD_eq_getElem?_getD, List.getElem?_eq_getElem hi, Option.getD_some] at cA
 rw [List.getD_eq_getElem?_getD, List.getElem?_eq_getElem hj, Option.getD_some] at cB
 obtain ⟨x, hx⟩ : ∃ x, a[i] = x := ⟨_, rfl⟩
 obtain ⟨y, hy⟩ : ∃ x, b[j] = x := ⟨_, rfl⟩
 rw [hx] at qa hn hno hyes cA hsa raR
 rw [hy] at qb hno hyes cB hsb rbR
 have m1 := h1.le
 have m2 := ta.le
 have m3 := tb.le
 have hxlt := hB.lt
 have hdv : decide (x < 0) = false := by simpa using hn
 have cAH := Lib.hid cA
 have cBH := Lib.hid cB
 have hBH := Lib.hid hB
 have h1H := Lib.hid h1
 have taH := Lib.hid ta
 have tbH := Lib.hid tb
 have hsaH := Lib.hid hsa
 have hsbH := Lib.hid hsb
 have hyesH := Lib.hid hyes
 have hnoH := Lib.hid hno
 have hrecH := Lib.hid hrec
 have hMlH := Lib.hid (show a.length - (a.drop (i + 1)).length = i + 1 ∧ b.length - (b.drop (j + 1)).length = j + 1 by rw [List.length_drop, List.length_drop]; omega)
 have hxltH := Lib.hid hxlt
 have hba' : ba ≠ xb := hba
 have hbb' : bb ≠ xb := hbb
 clear hM hB h1 ta tb hca hsa hcb hsb hra hrb cA cB hno hyes hn hba hbb hx hy hrec hi' hxlt hok raR rbR
 go_enter Tryz.func124, Tryz.ntmps124
 go_wp2_with fail
 go_quiet (fail)
 by_cases hxy : x = y
 case neg =>
  have hne : (x != y) = true := by simpa using hxy
  have hnn := Lib.hid (hnoH.out (fun e => hxy e.symm))
  clear cAH cBH hsaH hsbH hyesH hnoH hrecH hMlH hxy h1H taH tbH
  all_goals go_wp2_with fail
  all_goals go_ret
  exact ⟨false, B, rfl, gby_below ((Drew.mk _ _).below _), hBH.out.below ((Drew.mk _ _).below _), fun _ => hnn.out, fun e => (by cases e)⟩
 have hne : (x != y) = false := by simpa using hxy
 have hyes := hyesH.out hxy.symm
 subst hxy
 go_upto_region 8 with fail
 obtain ⟨w2, hw2⟩ : ∃ w2, w.drewN nq = w2 := ⟨_, rfl⟩
 have hb2 : Below w.heap.size w w2 := by rw [← hw2]; exact (Drew.mk _ _).below _
 rw [hw2]
 have hb2H := Lib.hid hb2
 clear hw2 hb2 qa qb
 go_wp2_with fail
 (with_reducible refine (cAH.out w2 hb2H.out).mono ?_)
 rintro e w3 ⟨vP, rfl, hoP, hbP⟩
 obtain ⟨aP, cP, rfl, hIP⟩ := OwnI.ints hoP
 have hb3 := bcall hb2H.out hbP
 have hb3H := Lib.hid hb3
 have hIPH := Lib.hid (hIP.weak (S' := Nx xb) (fun b hb e => by
  have hb' : w2.heap.size ≤ b := hb
  have h2 : w.heap.size ≤ w2.heap.size := hb2H.out.size
  have := hxltH.out
  omega))
 clear hoP hIP hb3 hbP
 go_wp2_with fail
 (with_reducible refine (cBH.out w3 hb3H.out).mono ?_)
 rintro e w4 ⟨vQ, rfl, hoQ, hbQ⟩
 obtain ⟨aQ, cQ, rfl, hIQ⟩ := OwnI.ints hoQ
 have hb4 := bcall hb3H.out hbQ
 have hIP4H := Lib.hid (hIPH.out.below hbQ)
 have hIQ4H := Lib.hid (hIQ.weak (S' := Nx xb) (fun b hb e => by
  have hb' : w3.heap.size ≤ b := hb
  have h2 : w.heap.size ≤ w3.heap.size := hb3H.out.size
  have := hxltH.out
  omega))
 have hB4H := Lib.hid (hBH.out.below hb4)
 have h14H := Lib.hid (h1H.out.below hb4)
 have ta4H := Lib.hid (taH.out.below hb4)
 have tb4H := Lib.hid (tbH.out.below hb4)
 have hb4H := Lib.hid hb4
 obtain ⟨m, hm⟩ : ∃ m, ar s x = m := ⟨_, rfl⟩
 rw [hm] at hIP4H hIQ4H hsaH hsbH
 have hlP : (posK s a.length m (a.drop (i + 1))).length = m := posK_len _ _
 have hlQ : (posK s b.length m (b.drop (j + 1))).length = m := posK_len _ _
 have hm3 : m ≤ 1000 := by
  have := skip_len s m _ _ hsaH.out
  rw [List.length_drop] at this
  omega
 have hyes' : MRel s a b (a.length - (a.drop (i + 1)).length) (b.length - (b.drop (j + 1)).length) B := by rw [hMlH.out.1, hMlH.out.2]; exact hyes
 have hyH := Lib.hid hyes'
 rw [hm]
 have hm0 : m ≤ m := Nat.le_refl m
 clear hm hoQ hIQ hbQ hb4 hIPH hb3H hb2H hBH h1H taH tbH cAH cBH hyes hyes' hyesH hnoH hne
 go_wp2_with fail
 go_loopw [17] (fun z wr => mloopRel w4 xb s a b i j m z wr) (fun z _ => m - (intOf z).toNat)
 case atStart => exact ⟨0, B, _, _, rfl, Nat.zero_le _, skip_zero _ _, skip_zero _ _, hyH.out, hB4H.out, gby_refl _ _⟩
 case round =>
  obtain ⟨k, B1, pa, pb, rfl, hk, ka, kb, hM1, hB1, hg⟩ := hrel
  by_cases hkm : k < m
  ·obtain ⟨pa2, n1, n2⟩ := skip_next ka hsaH.out hkm
   obtain ⟨pb2, o1, o2⟩ := skip_next kb hsbH.out hkm
   obtain ⟨e1, e2⟩ := skip_at ka (by omega)
   obtain ⟨f1, f2⟩ := skip_at kb (by omega)
   have n1' : skip s 1 (a.drop (a.length - pa.length)) = some pa2 := by rw [← e1]; exact n1
   have o1' : skip s 1 (b.drop (b.length - pb.length)) = some pb2 := by rw [← f1]; exact o1
   have hcall := hrecH.out _ _ B1 pa2 pb2 (by omega) n1' o1' hM1
   have hA : Agree (Nx xb) w4 wr := .of_grown hg (fun b hb e => hb (by cases e; rfl))
   obtain ⟨bi, oi, rfl, hbi, qi, -⟩ := (hIP4H.out.same hA).int k (by rw [hlP]; exact hkm)
   obtain ⟨bj, oj, rfl, hbj, qj, -⟩ := (hIQ4H.out.same hA).int k (by rw [hlQ]; exact hkm)
   rw [posK_val ka hkm] at qi
   rw [posK_val kb hkm] at qj
   obtain ⟨gi, hgi⟩ : ∃ g, a.length - pa.length = g := ⟨_, rfl⟩
   obtain ⟨gj, hgj⟩ : ∃ g, b.length - pb.length = g := ⟨_, rfl⟩
   rw [hgi] at qi hcall
   rw [hgj] at qj hcall
   have hbd : Below wr.heap.size wr wr.drew := Below.drew (.refl wr.heap.size _)
   have hc := hcall wr.drew _ _ c2 c3 (hB1.below hbd) ((h14H.out.same hA).below hbd) ((ta4H.out.same hA).below hbd) ((tb4H.out.same hA).below hbd)
   have hcH := Lib.hid hc
   have hk0 : wr.grownBy wr.drew (some xb) ∧ wr.drew.cell? ⟨bi, oi + k, none⟩ = some (.int .i64 (gi : Int)) ∧ wr.drew.cell? ⟨bj, oj + k, none⟩ = some (.int .i64 (gj : Int)) := ⟨gby_below hbd, cell_later hbd qi, cell_later hbd qj⟩
   have hgH := Lib.hid hg
   have n2H := Lib.hid n2
   have o2H := Lib.hid o2
   clear n1 o1 n1' o1' e1 e2 f1 f2 hcall hA hgi hgj hbd hc hg hM1 hB1 ka kb n2 o2
   go_wp2_with fail
   go_region_held3 (fun w' => wr.grownBy w' (some xb) ∧ w'.cell? ⟨bi, oi + k, none⟩ = some (.int .i64 (gi : Int)) ∧ w'.cell? ⟨bj, oj + k, none⟩ = some (.int .i64 (gj : Int)))
    ((first | exact hk0 | exact keepM ‹_› hbi hbj hgS))
    ((go_at_call 124; (with_reducible refine hcH.out.mono ?_); rintro e w' ⟨r, B', rfl, hgS, hBS, hf, ht⟩))
   have hgW := And.left (‹wr.grownBy w' (some xb) ∧ _›)
   have hgWH := Lib.hid (gby_trans (gby_below hb4H.out) (gby_trans hgH.out hgW))
   have hg4H := Lib.hid (gby_trans hgH.out hgW)
   have hBSH := Lib.hid hBS
   have hfH := Lib.hid hf
   have htH := Lib.hid ht
   clear hgW hBS hf ht hgS hk0 hcH hgH
   cases r with
   | false =>
    go_wp2_with fail
    go_ret
    exact ⟨false, B', rfl, hgWH.out, hBSH.out, fun _ => hfH.out (by simp), fun e => (by cases e)⟩
   | true =>
    go_wp2_with fail
    go_roundw
    case rel => exact ⟨k + 1, B', pa2, pb2, by go_num, by omega, n2H.out, o2H.out, htH.out (by simp), hBSH.out, hg4H.out⟩
    case measure => simp [intOf]; omega
  ·have hkm' : k = m := by omega
   subst hkm'
   have ea : pa = ra := Option.some.inj (ka.symm.trans hsaH.out)
   have eb : pb = rb := Option.some.inj (kb.symm.trans hsbH.out)
   subst ea
   subst eb
   have hMH := Lib.hid hM1
   have hBH := Lib.hid hB1
   have hgF := Lib.hid (gby_trans (gby_below hb4H.out) hg)
   clear hM1 hB1 hg ka kb
   go_wp2_with fail
   go_ret
   exact ⟨true, B1, rfl, hgF.out, hBH.out, fun e => (by cases e), fun _ => hMH.out⟩
theorem rmatched_any {xb : Nat} {a1 : Option Addr} {c1 : Nat} {s : Sg} {a b : List Int} (hok : okSign s = true) (la : a.length ≤ 60) (lb : b.length ≤ 60) : ∀ (N i j : Nat) (B : Bd) (ra rb : List Int), a.length - i ≤ N →
  skip s 1 (a.drop i) = some ra → skip s 1 (b.drop j) = some rb → MRel s a b i j B → MatchAt xb a1 c1 s a b i j B ra rb := by
 intro N
 induction N with
 | zero =>
  intro i j B ra rb hN hra hrb hM
  obtain ⟨hi, -, -⟩ := skip_drop (k := 0) hra
  omega
 | succ N ih =>
  intro i j B ra rb hN hra hrb hM
  obtain ⟨hi, -, -⟩ := skip_drop (k := 0) hra
  by_cases hn : a[i] < 0
  ·exact match_var hok la lb hra hrb hM hi hn
  ·exact match_sym hok la lb hra hrb hM hi hn (fun i' j' B' ra' rb' h1 h2 h3 h4 => ih i' j' B' ra' rb' (by omega) h2 h3 h4)
end Go.Proofs.YtpmnnoopoblpgaaGreat

/- Walks of the reference's solver: whole. -/
namespace Go.Proofs.YtpmnnoopoblpgaaGreat
open Go Go.RowKit Go.Maps

end Go.Proofs.YtpmnnoopoblpgaaGreat

/- Walks: lemmaryref02.Variable, Match, Instance. -/
namespace Go.Proofs.YtpmnnoopoblpgaaGreat
open Go Go.RowKit Go.Maps

def twoE : Enc Unit where
 size := 2
 pos := by decide
 R := fun _ _ vs _ => vs.length = 2 ∧ ∀ u ∈ vs, u.oneCell' = true
 len := fun h => h.1
 one := fun h => h.2
 mono := fun h _ _ => h
theorem rVariable_any (v : Nat) (hv : v ≤ 1000) (w : World) :
  Calls Tryz.prog 126 #[.int .i64 v] w fun e w' => ∃ a c, e = .returned (.slice a 1 c) ∧ Ints (fun b => w.heap.size ≤ b) w' a c [-(v : Int) - 1] ∧ Below w.heap.size w w' := by
 have hw1 : IntKind.i64.wrap (-(v : Int)) = -(v : Int) := IntWalk.i64_in _ (by omega)
 have hw2 : IntKind.i64.wrap (-(v : Int) - 1) = -(v : Int) - 1 := IntWalk.i64_in _ (by omega)
 have hV := Lib.hid (fun W : World => Ints.new W [-(v : Int) - 1] 3 (by simp [big]) (by unfold inRange; simp; omega))
 go_enter Tryz.func126, Tryz.ntmps126
 go_wp2_with fail
 go_ret
 exact ⟨_, _, rfl, (hV.out w).weak (fun b hb => by have hb' : b = w.heap.size := hb; omega), below1 w _⟩
theorem infoBind : (Tryz.prog.info? 125).map (fun i => (i.zero, i.size, i.bytes)) = some (some (.agg #[.int .i64 0, .slice none 0 0]), 2, 32) := by kernel_rfl
set_option maxRecDepth 20000 in
theorem two_push {w wr w1 : World} {out : Value} {l : List Unit} (ho : OwnL twoE (fun _ => False) wr w.heap.size 125 out l) (hB : Below w.heap.size w wr) (hB1 : Below wr.heap.size wr w1) {v1 v2 : Value} (h1 : v1.oneCell' = true) (h2 : v2.oneCell' = true) (hl : l.length + 1 ≤ 1000) :
  ∃ v' w', RowKit.Hid ((Builtin.append_ #[74, 74] 74 #[out, .slice (some ⟨w1.heap.size, 0, none⟩) 1 1]).run Tryz.prog (w1.alloc (.cells #[v1, v2] 125)) = .ok v' w') ∧ RowKit.Hid (OwnL twoE (fun _ => False) w' w.heap.size 125 v' (l ++ [()])) ∧ RowKit.Hid (Below w.heap.size w w') := by
 have ho1 := ho.call hB1
 obtain ⟨v', w', g1, g2, g3, -⟩ := ho1.push (P := Tryz.prog) (t := 74) (ty := 74) rfl infoBind rfl (vs := [v1, v2]) (x := ()) ⟨rfl, fun u hu => by
  simp only [List.mem_cons, List.not_mem_nil, or_false] at hu
  rcases hu with rfl | rfl <;> assumption⟩ (by omega) (by unfold big; omega) (Nat.le_trans hB.size hB1.size)
 exact ⟨v', w', Lib.hid g1, Lib.hid g2, Lib.hid ((bcall hB hB1).grown g3 (Nat.le_trans hB.size hB1.size) (fun j e => (ho1.lt j e).1))⟩
def mtRel (w : World) (out i : Value) (wr : World) : Prop :=
 ∃ (k : Nat) (l : List Unit), i = .int .i64 k ∧ k ≤ 12 ∧ l.length ≤ k ∧ OwnL twoE (fun _ => False) wr w.heap.size 125 out l ∧ Below w.heap.size w wr
def mtRet (r : Bool) (w : World) (e : Ending) (w' : World) : Prop := ∃ v E, e = .returned (.tuple #[v, .int .i64 E]) ∧ (E == 0) = r ∧ Below w.heap.size w w'
set_option maxRecDepth 20000 in
set_option maxHeartbeats 4000000 in
theorem rMatch_any {S1 S2 S3 : Nat → Prop} (a1 a2 a3 : Option Addr) (c1 c2 c3 : Nat) (s : Sg) (a b : List Int) (w : World) (h1 : Sign S1 w a1 c1 s) (h2 : Ints S2 w a2 c2 a) (h3 : Ints S3 w a3 c3 b) :
  Calls Tryz.prog 71 #[.slice a1 s.length c1, .slice a2 a.length c2, .slice a3 b.length c3] w (mtRet (okT s a && okT s b && instB s a b) w) := by
 have m1 := h1.le
 have m2 := h2.le
 have m3 := h3.le
 have v1 := Lib.hid (rValid_any a1 a2 c1 c2 s a w h1 h2)
 have v2 := Lib.hid (fun W (hd : Drew w W) => rValid_any a1 a3 c1 c3 s b W (h1.drew hd) (h3.drew hd))
 cases ha : okT s a with
 | false =>
  rw [ha] at v1
  clear v2 h1 h2 h3
  go_enter Tryz.func71, Tryz.ntmps71
  go_wp2_with fail
  refine v1.out.mono ?_
  rintro e w1 ⟨rfl, hd1⟩
  go_wp2_with fail
  go_ret2
  exact ⟨_, _, rfl, by simp, hd1.below _⟩
 | true =>
 rw [ha] at v1
 cases hb : okT s b with
 | false =>
  rw [hb] at v2
  clear h1 h2 h3
  go_enter Tryz.func71, Tryz.ntmps71
  go_wp2_with fail
  refine v1.out.mono ?_
  rintro e w1 ⟨rfl, hd1⟩
  go_wp2_with fail
  refine (v2.out _ hd1).mono ?_
  rintro e w2 ⟨rfl, hd2⟩
  go_wp2_with fail
  go_ret2
  exact ⟨_, _, rfl, by simp, (drew_trans hd1 hd2).below _⟩
 | true =>
 rw [hb] at v2
 obtain ⟨hok, -, la, ka⟩ := okT_parts ha
 obtain ⟨-, -, lb, kb⟩ := okT_parts hb
 have hstart := MRel.start (okT_w1 ha) (okT_w1 hb)
 have cm : ∀ W, Drew w W → ∀ W3, Below W.heap.size W W3 → BoxM W3 W.heap.size (fun _ => none) → Calls Tryz.prog 124 #[.slice a1 s.length c1, .slice a2 a.length c2, .slice a3 b.length c3, .int .i64 0, .int .i64 0, .pointer (some ⟨W.heap.size, 0, none⟩)] W3 (matchRet W3 W.heap.size s a b [] []) := by
  rintro W ⟨n, rfl⟩ W3 hb3 hM
  exact rmatched_any hok la lb a.length 0 0 (fun _ => none) [] [] (Nat.sub_le _ _) ka kb hstart W3 a2 a3 c2 c3 hM (((h1.lt.drewN n).below hb3).weak (fun b hb e => by have := hb.2; rw [e] at this; exact Nat.lt_irrefl _ this)) (((h2.lt.drewN n).below hb3).weak (fun b hb e => by have := hb.2; rw [e] at this; exact Nat.lt_irrefl _ this)) (((h3.lt.drewN n).below hb3).weak (fun b hb e => by have := hb.2; rw [e] at this; exact Nat.lt_irrefl _ this))
 have cmH := Lib.hid cm
 clear h1 h2 h3 hok ka kb hstart cm
 go_enter Tryz.func71, Tryz.ntmps71
 go_wp2_with fail
 refine v1.out.mono ?_
 rintro e w1 ⟨rfl, hd1⟩
 go_wp2_with fail
 refine (v2.out _ hd1).mono ?_
 rintro e w2 ⟨rfl, hd2⟩
 have hd := drew_trans hd1 hd2
 obtain ⟨W3, hW3⟩ : ∃ W3, w2.alloc (.cells #[.slice none 0 0, .slice none 0 0, .slice none 0 0, .slice none 0 0, .slice none 0 0, .slice none 0 0, .slice none 0 0, .slice none 0 0, .slice none 0 0, .slice none 0 0, .slice none 0 0, .slice none 0 0] 120) = W3 := ⟨_, rfl⟩
 have hM3 : BoxM W3 w2.heap.size (fun _ => none) := by rw [← hW3]; exact BoxM.new w2
 have hb3 : Below w2.heap.size w2 W3 := by rw [← hW3]; exact below1 _ _
 have cc := Lib.hid (cmH.out w2 hd W3 hb3 hM3)
 have hbW := Lib.hid (bcall (hd.below w.heap.size) hb3)
 have hsz : w.heap.size ≤ w2.heap.size := (hd.below w.heap.size).size
 clear cmH hd hd1 hd2 v1 v2
 go_upto_region 4 with fail
 try rw [hW3]
 clear hW3 hM3 hb3
 go_wp2_with fail
 (with_reducible refine cc.out.mono ?_)
 rintro e w4 ⟨r, B', rfl, hg, hM4, hf, ht⟩
 have hb4 := below_of_gby hbW.out hg hbW.out.size hsz
 have hb4H := Lib.hid hb4
 have hM4H := Lib.hid hM4
 clear hbW hsz cc hg hb4 hM4
 cases r with
 | false =>
  have hi := Lib.hid (hf rfl)
  clear hf ht
  go_wp2_with fail
  go_ret2
  exact ⟨_, _, rfl, by rw [hi.out]; rfl, hb4H.out⟩
 | true =>
  have hi : instB s a b = true := MRel.done (ht rfl)
  have hiH := Lib.hid hi
  have hwfH := Lib.hid (fun n u (h : B' n = some u) => ((ht rfl).wf n u h).len)
  clear hf ht hi
  go_wp2_with fail
  go_loopw [9, 10] (fun out i wr => mtRel w4 out i wr) (fun _ i _ => 12 - (intOf i).toNat)
  case atStart => exact ⟨0, [], rfl, Nat.zero_le _, Nat.le_refl _, .nil _ _ _ _ _, .refl _ _⟩
  case round =>
   obtain ⟨k, l, rfl, hk, hlk, ho, hB⟩ := hrel
   by_cases hkm : k < 12
   ·have hk12 : (k : Int) < 12 := by omega
    obtain ⟨v, qv, hv⟩ := (hM4H.out.below hB).slot hkm
    cases hBn : B' (-(k : Int) - 1) with
    | none =>
     rw [hBn] at hv
     change v = .slice none 0 0 at hv
     subst hv
     have hoH := Lib.hid (fun W (hb : Below wr.heap.size wr W) => ho.call hb)
     have hBH := Lib.hid hB
     clear ho hB hBn
     go_wp2_with fail
     go_quiet (fail)
     all_goals go_wp2_with fail
     go_roundw
     case rel => exact ⟨k + 1, l, by go_num, by omega, by omega, hoH.out _ ((Drew.mk _ _).below _), bcall hBH.out ((Drew.mk _ _).below _)⟩
     case measure => simp [intOf]; omega
    | some u =>
     rw [hBn] at hv
     obtain ⟨aQ, cQ, rfl, IQ⟩ := hv
     have hu1 := hwfH.out _ _ hBn
     obtain ⟨bQ, oQ, rfl, -, -, -⟩ := IQ.int 0 (by omega)
     obtain ⟨d, hd⟩ : ∃ d, decide (u = [-(k : Int) - 1]) = d := ⟨_, rfl⟩
     have mq := IQ.le
     have cv := Lib.hid (fun W (_ : Below wr.heap.size wr W) => rVariable_any k (by omega) W)
     have cs : ∀ (S : Nat → Prop) (W : World) (a : Option Addr) (c : Nat), Below wr.heap.size wr W → Ints S W a c [-(k : Int) - 1] → Calls Tryz.prog 125 #[.slice (some ⟨bQ, oQ, none⟩) u.length cQ, .slice a 1 c] W fun e w' => e = .returned (.bool d) ∧ Drew W w' := fun S W a c hb hi => by
      rw [← hd]; exact Same_any _ a cQ c u [-(k : Int) - 1] W (IQ.below hb) hi
     have csH := Lib.hid cs
     have hpush := fun W (hb : Below wr.heap.size wr W) => two_push ho hB hb (v1 := .int .i64 k) (v2 := .slice (some ⟨bQ, oQ, none⟩) u.length cQ) rfl rfl (by omega)
     have hpushH := Lib.hid hpush
     have hoH := Lib.hid (fun W (hb : Below wr.heap.size wr W) => ho.call hb)
     have hBH := Lib.hid hB
     obtain ⟨a', c', rfl, -⟩ := ho.sl
     have hbd : Below wr.heap.size wr wr.drew := Below.drew (.refl wr.heap.size _)
     have hk0 : Below wr.heap.size wr wr.drew ∧ wr.drew.cell? ⟨w2.heap.size, k, none⟩ = some (.slice (some ⟨bQ, oQ, none⟩) u.length cQ) := ⟨hbd, cell_later hbd qv⟩
     clear ho hB hBn IQ hd cs hpush hbd
     go_wp2_with fail
     go_region_held3 (fun w' => Below wr.heap.size wr w' ∧ w'.cell? ⟨w2.heap.size, k, none⟩ = some (.slice (some ⟨bQ, oQ, none⟩) u.length cQ))
      ((first | exact hk0 | exact keep1 ‹_› (hdS.below _) | exact keep1 ‹_› hbV))
      ((first
       | (go_at_call 126; (with_reducible refine (cv.out _ ?_).mono ?_); exact (And.left ‹_›); rintro e wV ⟨aV, cV, rfl, hIV, hbV⟩)
       | (go_at_call 125; (with_reducible refine (csH.out _ _ _ _ ?_ hIV).mono ?_); exact (And.left ‹_›); rintro e wS ⟨rfl, hdS⟩)))
     have hBS := And.left (‹Below wr.heap.size wr wS ∧ _›)
     have hqS : wS.cell? ⟨w2.heap.size, k, none⟩ = some (.slice (some ⟨bQ, oQ, none⟩) u.length cQ) := And.right (‹Below wr.heap.size wr wS ∧ _›)
     have hBSH := Lib.hid hBS
     cases d with
     | true =>
      clear hBS hpushH
      go_wp2_with fail
      go_roundw
      case rel => exact ⟨k + 1, l, by go_num, by omega, by omega, hoH.out _ hBSH.out, bcall hBH.out hBSH.out⟩
      case measure => simp [intOf]; omega
     | false =>
      obtain ⟨v', w', hrun', ho', hB'⟩ := hpushH.out wS hBS
      clear hBS hpushH hoH
      go_wp2_with (at_builtin; refine wpList_append_run rfl _ _ _ rfl rfl rfl hrun'.out ?_)
      go_roundw
      case rel => exact ⟨k + 1, l ++ [()], by go_num, by omega, by rw [List.length_append, List.length_singleton]; omega, ho'.out, hB'.out⟩
      case measure => simp [intOf]; omega
   ·have hkm' : k = 12 := by omega
    subst hkm'
    have hBF := Lib.hid (bcall hb4H.out hB)
    obtain ⟨a', c', rfl, -⟩ := ho.sl
    clear ho hB
    go_wp2_with fail
    go_ret2
    exact ⟨_, _, rfl, by rw [hiH.out]; rfl, hBF.out⟩
theorem rInstance_any {S1 S2 S3 : Nat → Prop} (a1 a2 a3 : Option Addr) (c1 c2 c3 : Nat) (s : Sg) (a b : List Int) (w : World) (h1 : Sign S1 w a1 c1 s) (h2 : Ints S2 w a2 c2 a) (h3 : Ints S3 w a3 c3 b) :
  Calls Tryz.prog 15 #[.slice a1 s.length c1, .slice a2 a.length c2, .slice a3 b.length c3] w fun e w' => e = .returned (.bool (okT s a && okT s b && instB s a b)) ∧ Below w.heap.size w w' := by
 have m1 := h1.le
 have m2 := h2.le
 have m3 := h3.le
 have cm := Lib.hid (rMatch_any a1 a2 a3 c1 c2 c3 s a b w h1 h2 h3)
 clear h1 h2 h3
 go_enter Tryz.func15, Tryz.ntmps15
 go_wp2_with fail
 refine cm.out.mono ?_
 rintro e w1 ⟨v, E, rfl, hE, hb1⟩
 go_wp2_with fail
 go_ret
 exact ⟨by rw [← hE]; rfl, hb1⟩
end Go.Proofs.YtpmnnoopoblpgaaGreat

/- Walks of the reference's solver: Whole, Few. -/
namespace Go.Proofs.YtpmnnoopoblpgaaGreat
open Go Go.RowKit Go.Maps

end Go.Proofs.YtpmnnoopoblpgaaGreat

/- Walks: kernel.Detaches. -/
namespace Go.Proofs.YtpmnnoopoblpgaaGreat
open Go Go.RowKit Go.Maps

end Go.Proofs.YtpmnnoopoblpgaaGreat

/- Walks: ValidGivens of the reference. -/
namespace Go.Proofs.YtpmnnoopoblpgaaGreat
open Go Go.RowKit Go.Maps

end Go.Proofs.YtpmnnoopoblpgaaGreat

/- Walks: kernel.up, Count, Height. -/
namespace Go.Proofs.YtpmnnoopoblpgaaGreat
open Go Go.RowKit

end Go.Proofs.YtpmnnoopoblpgaaGreat

/- Walks: kernel.Count, kernel.Height. -/
namespace Go.Proofs.YtpmnnoopoblpgaaGreat
open Go Go.RowKit

end Go.Proofs.YtpmnnoopoblpgaaGreat

/- Lists of bools of a call's own; lists made of zeros. -/
namespace Go.Proofs.YtpmnnoopoblpgaaGreat
open Go Go.RowKit

def boolE : Enc Bool where
 size := 1
 pos := by decide
 R _ _ vs x := vs = [.bool x]
 len h := by rw [h]; rfl
 one h := by rw [h]; simp [Value.oneCell']
 mono h _ _ := h
abbrev OwnB (w : World) (base : Nat) (v : Value) (l : List Bool) : Prop := OwnL boolE (fun _ => False) w base 4 v l
section
variable {w : World} {base : Nat} {v : Value} {l : List Bool}
theorem bools_rows {xs : List (List Value)} {T : Nat → Prop} (hl : xs.length = l.length) (hx : ∀ i (h1 : i < xs.length) (h2 : i < l.length), boolE.R T w xs[i] l[i]) : xs = l.map (fun x => [.bool x]) := by
 apply List.ext_getElem (by simpa using hl)
 intro i h1 h2
 rw [List.getElem_map]
 exact hx i h1 (by omega)
theorem flatten_singleB (l : List Bool) : (l.map (fun x => [Value.bool x])).flatten = l.map Value.bool := by
 induction l with
 | nil => rfl
 | cons x r ih => simp [ih]
theorem OwnB.row (h : OwnB w base v l) : w.ownsRow base 4 1 v l.length (l.map Value.bool) := by
 obtain ⟨xs, ho, hl, hx⟩ := h
 obtain rfl := bools_rows hl hx
 rw [flatten_singleB] at ho
 exact ho
theorem OwnB.of_row (h : w.ownsRow base 4 1 v l.length (l.map Value.bool)) : OwnB w base v l :=
 ⟨l.map (fun x => [.bool x]), by rw [flatten_singleB]; exact h, by simp, fun i h1 h2 => by simp [boolE]⟩
theorem OwnB.bools (h : OwnB w base v l) : ∃ a c, v = .slice a l.length c ∧ Sl boolE (fun b => base ≤ b) w a c l := by
 obtain ⟨a, c, rfl, hI⟩ := OwnL.sl h
 exact ⟨a, c, rfl, hI.weak (fun b hb => hb.elim id False.elim)⟩
theorem Sl.bool {S : Nat → Prop} {a : Option Addr} {c : Nat} (h : Sl boolE S w a c l) (i : Nat) (hi : i < l.length) : ∃ b off, a = some ⟨b, off, none⟩ ∧ S b ∧ w.cell? ⟨b, off + i, none⟩ = some (.bool l[i]) := by
 obtain ⟨b, off, ha, hb, _, vs, _, hv, hr⟩ := h.at1 i hi
 have hr' : vs = [.bool l[i]] := hr
 subst hr'
 have := hv 0 (by simp)
 simp [boolE] at this
 exact ⟨b, off, ha, hb, this⟩
theorem OwnB.cell {g cap n : Nat} (h : OwnB w base (.slice (some ⟨g, 0, none⟩) n cap) l) (hn : n = l.length) (i : Nat) (hi : i < l.length) : w.cell? ⟨g, i, none⟩ = some (.bool l[i]) ∧ w.frozen? ⟨g, i, none⟩ = false := by
 subst hn
 have ho := h.row
 exact ⟨by rw [ho.cellAt i (by omega)]; simp [hi], ho.frozenAt i⟩
theorem OwnB.set {g cap n : Nat} (h : OwnB w base (.slice (some ⟨g, 0, none⟩) n cap) l) (hn : n = l.length) (i : Nat) (x : Bool) :
  OwnB (w.setCell ⟨g, i, none⟩ (.bool x)) base (.slice (some ⟨g, 0, none⟩) n cap) (l.set i x) ∧ w.grownBy (w.setCell ⟨g, i, none⟩ (.bool x)) (some g) := by
 subst hn
 obtain ⟨h1, h2⟩ := h.row.stored i (.bool x)
 exact ⟨.of_row (by rw [List.length_set, List.map_set]; exact h1), h2⟩
theorem OwnB.lit (w : World) (l : List Bool) (hl : l.length ≤ maxLen) : OwnB (w.alloc (.cells (l.map Value.bool).toArray 4)) w.heap.size (.slice (some ⟨w.heap.size, 0, none⟩) l.length l.length) l :=
 .of_row (by have := World.ownsRow_lit (e := 4) (size := 1) w (l.map Value.bool).toArray l.length (Nat.le_refl _) hl (by simp); simpa using this)
end
theorem OwnB.made (w : World) (n : Nat) (hn : n ≤ 100) : OwnB (w.alloc (.cells (Array.replicate n (.bool false)) 4)) w.heap.size (.slice (some ⟨w.heap.size, 0, none⟩) n n) (List.replicate n false) := by
 have h := OwnB.lit w (List.replicate n false) (by rw [List.length_replicate]; unfold maxLen; omega)
 rw [List.length_replicate, List.map_replicate, List.toArray_replicate] at h
 exact h
end Go.Proofs.YtpmnnoopoblpgaaGreat

/- Walks: lemmaryref04.detach, Detach, Detaches. -/
namespace Go.Proofs.YtpmnnoopoblpgaaGreat
open Go Go.RowKit Go.Maps

end Go.Proofs.YtpmnnoopoblpgaaGreat

/- Walks: lemmaryref06.Name, Has, Index. -/
namespace Go.Proofs.YtpmnnoopoblpgaaGreat
open Go Go.RowKit Go.Maps

theorem nmRel_next {s : ByteArray} {w : World} {k : Nat} (hk : k < s.size) (h : nmTo s (k + 1) = true) : nmRel s w (.int .i64 ((k : Int) + 1)) w ∧ s.size - (intOf (.int .i64 ((k : Int) + 1))).toNat < s.size - (intOf (.int .i64 (k : Int))).toNat :=
 ⟨⟨k + 1, by simp, hk, h, rfl⟩, by simp only [intOf]; omega⟩
theorem nmRel_one {s : ByteArray} {w : World} (hk : 0 < s.size) (h : nmTo s (0 + 1) = true) : nmRel s w (.int .i64 1) w ∧ s.size - (intOf (.int .i64 1)).toNat < s.size - (intOf (.int .i64 ((0 : Nat) : Int))).toNat :=
 ⟨⟨1, rfl, hk, h, rfl⟩, by simp only [intOf]; omega⟩
set_option maxHeartbeats 4000000 in
theorem rName_any (s : ByteArray) (hs : s.size ≤ big) (w : World) : Calls Tryz.prog 25 #[.string s] w fun e w' => e = .returned (.bool (nameB s)) ∧ w = w' := by
 unfold big at hs
 go_enter Tryz.func25, Tryz.ntmps25
 go_wp2_with fail
 go_loopw [3] (fun i wr => nmRel s w i wr) (fun i _ => s.size - (intOf i).toNat)
 case atStart => exact ⟨0, rfl, Nat.zero_le _, rfl, rfl⟩
 case round =>
  obtain ⟨k, rfl, hk, hn, rfl⟩ := hrel
  by_cases hlt : k < s.size
  ·have hg := getD_byte hlt
   have hsu := nmTo_succ s k
   rw [hn, Bool.true_and, hg] at hsu
   have hbad := fun h => nmTo_bad hlt (by rw [hg]; exact h)
   have hkl : ((k : Int) < (s.size : Int)) = True := eq_true (by omega)
   have hsuH := Lib.hid hsu
   have hbadH := Lib.hid hbad
   clear hg hsu hbad hn
   go_wp2_with fail
   all_goals try subst_vars
   all_goals first
    | (exfalso; omega)
    | (exfalso; simp only [Bool.not_eq_false', Bool.not_eq_true', decide_eq_true_eq, decide_eq_false_iff_not, beq_iff_eq, beq_eq_false_iff_ne, ne_eq] at *; omega)
    | exact nmRel_one hlt (hsuH.out.trans (by simp only [nmC, Bool.or_eq_true, Bool.and_eq_true, decide_eq_true_eq, ne_eq]; (try simp only [Bool.not_eq_true', decide_eq_false_iff_not] at *); omega))
    | exact nmRel_next hlt (hsuH.out.trans (by simp only [nmC, Bool.or_eq_true, Bool.and_eq_true, decide_eq_true_eq, ne_eq]; (try simp only [Bool.not_eq_false', Bool.not_eq_true', decide_eq_true_eq, decide_eq_false_iff_not, beq_iff_eq, beq_eq_false_iff_ne, ne_eq] at *); omega))
    | (go_ret; exact ⟨ret_bool (hbadH.out (by rw [Bool.eq_false_iff]; simp only [nmC, Bool.or_eq_true, Bool.and_eq_true, decide_eq_true_eq, ne_eq]; (try simp only [Bool.not_eq_true', decide_eq_false_iff_not, beq_iff_eq, beq_eq_false_iff_ne, ne_eq] at *); first | omega | (simp; done) | (simp; omega))).symm, rfl⟩)
  ·have hkk : k = s.size := by omega
   rw [hkk] at hn
   have hnb : nameB s = (decide (1 ≤ s.size) && decide (s.size ≤ 16)) := by unfold nameB; rw [hn, Bool.true_and]
   have hkl : ((k : Int) < (s.size : Int)) = False := eq_false (by omega)
   have hnbH := Lib.hid hnb
   have hkkH := Lib.hid hkk
   clear hn hnb hkk hlt hk
   by_cases h1 : 1 ≤ s.size
   ·have h1i : ((1 : Int) ≤ (s.size : Int)) = True := eq_true (by omega)
    by_cases h2 : s.size ≤ 16
    ·have h2i : ((s.size : Int) ≤ 16) = True := eq_true (by omega)
     go_wp2_with fail
     go_ret
     exact ⟨ret_bool (by rw [hnbH.out]; simp; omega), rfl⟩
    ·have h2i : ((s.size : Int) ≤ 16) = False := eq_false (by omega)
     go_wp2_with fail
     go_ret
     exact ⟨ret_bool (by rw [hnbH.out]; simp; omega), rfl⟩
   ·have h1i : ((1 : Int) ≤ (s.size : Int)) = False := eq_false (by omega)
    go_wp2_with fail
    go_ret
    exact ⟨ret_bool (by rw [hnbH.out]; simp; omega), rfl⟩
end Go.Proofs.YtpmnnoopoblpgaaGreat

/- Walks: ValidEntry of the reference. -/
namespace Go.Proofs.YtpmnnoopoblpgaaGreat
open Go Go.RowKit Go.Maps

theorem Sl.pre {α : Type} {E : Enc α} {S : Nat → Prop} {w : World} {a : Option Addr} {c : Nat} {l : List α} (h : Sl E S w a c l) (k : Nat) : Sl E S w a c (l.take k) := by
 refine ⟨by have := h.cap; rw [List.length_take]; omega, h.max, fun e => by obtain ⟨e1, e2⟩ := h.nil e; exact ⟨by rw [e1]; simp, e2⟩, fun hne => ?_⟩
 obtain ⟨b, off, ha, hb, hl, hc⟩ := h.dat (fun e => hne (by rw [e]; simp))
 refine ⟨b, off, ha, hb, hl, fun i hi => ?_⟩
 rw [List.length_take] at hi
 obtain ⟨vs, h1, h2, h3⟩ := hc i (by omega)
 exact ⟨vs, h1, h2, by rw [List.getElem_take]; exact h3⟩
theorem nodup_take {us : List ByteArray} {j : Nat} (hj : j < us.length) (h : (us.take j).Nodup) (hm : memB (us.take j) us[j] = false) : (us.take (j + 1)).Nodup := by
 rw [List.take_succ_eq_append_getElem hj, List.nodup_append]
 refine ⟨h, by simp, fun a ha b hb e => ?_⟩
 rw [List.mem_singleton] at hb
 have : memB (us.take j) us[j] = true := memB_iff.2 (by rw [← hb, ← e]; exact ha)
 rw [hm] at this; cases this
theorem nodup_bad {us : List ByteArray} {j : Nat} (hj : j < us.length) (hm : memB (us.take j) us[j] = true) : ¬ us.Nodup := by
 intro h
 obtain ⟨q, hq, e⟩ := List.getElem_of_mem (memB_iff.1 hm)
 rw [List.length_take] at hq
 rw [List.getElem_take] at e
 have := (List.getElem_inj (xs := us) (h₀ := by omega) (h₁ := hj) h).1 e
 omega
theorem all_take {us : List ByteArray} {j : Nat} (hj : j < us.length) (h : (us.take j).all nameB = true) (hn : nameB us[j] = true) : (us.take (j + 1)).all nameB = true := by
 rw [List.take_succ_eq_append_getElem hj, List.all_append, h]; simpa using hn
theorem all_bad {us : List ByteArray} {j : Nat} (hj : j < us.length) (hn : nameB us[j] = false) : us.all nameB = false := by
 rw [List.all_eq_false]; exact ⟨us[j], List.getElem_mem hj, by rw [hn]; simp⟩
def rvyRel (us : List ByteArray) (w2 : World) (i : Value) (wr : World) : Prop := ∃ j : Nat, i = .int .i64 j ∧ j ≤ us.length ∧ (us.take j).Nodup ∧ (us.take j).all nameB = true ∧ Drew w2 wr
set_option maxHeartbeats 4000000 in
theorem rValidEntry_any {S1 S2 : Nat → Prop} (sa : Option Addr) (sc : Nat) (s : Sg) (x : Ent) (a1 a2 a3 : Option Addr) (c1 c2 c3 : Nat) (w : World) (h1 : Sign S1 w sa sc s) (hn : (eNm x).size ≤ big) (hb : (eBy x).size ≤ big)
  (hI : Ints S2 w a1 c1 (eSays x)) (hU : Sl strE S2 w a2 c2 (eUses x)) (hP : Steps S2 w a3 c3 (ePf x)) :
  Calls Tryz.prog 19 #[.slice sa s.length sc, entV (eNm x) (eBy x) (eSays x).length (eUses x).length (ePf x).length a1 a2 a3 c1 c2 c3] w fun e w' => e = .returned (.bool (okEnt s x)) ∧ Below w.heap.size w w' := by
 have m1 := hI.le
 have m2 := hU.le
 have m3 := hP.le
 have hok : okEnt s x = ((nameB (eNm x) && (nameB (eBy x) && isCanonT s (eSays x))) && ((decide ((eUses x).length ≤ 12) && (decide (eUses x).Nodup && (eUses x).all nameB)) && ((decide (eUses x = []) && decide (ePf x = [])) || proofB (eUses x).length (ePf x)))) := rfl
 obtain ⟨W, hW⟩ : ∃ W, w.alloc (.cells #[.string (eNm x), .string (eBy x), .slice a1 (eSays x).length c1, .slice a2 (eUses x).length c2, .slice a3 (ePf x).length c3] 37) = W := ⟨_, rfl⟩
 have hB : Below w.heap.size w W := by rw [← hW]; exact below1 w _
 have q0 : W.cell? ⟨w.heap.size, 0, none⟩ = some (.string (eNm x)) := by rw [← hW]; clear hW; go_simp
 have q1 : W.cell? ⟨w.heap.size, 1, none⟩ = some (.string (eBy x)) := by rw [← hW]; clear hW; go_simp
 have q2 : W.cell? ⟨w.heap.size, 2, none⟩ = some (.slice a1 (eSays x).length c1) := by rw [← hW]; clear hW; go_simp
 have q3 : W.cell? ⟨w.heap.size, 3, none⟩ = some (.slice a2 (eUses x).length c2) := by rw [← hW]; clear hW; go_simp
 have q4 : W.cell? ⟨w.heap.size, 4, none⟩ = some (.slice a3 (ePf x).length c3) := by rw [← hW]; clear hW; go_simp
 have k1 := rName_any (eNm x) hn W
 have k2 := rName_any (eBy x) hb W
 have kv := rValid_any sa a1 sc c1 s (eSays x) W (h1.below hB) (hI.below hB)
 have k3 := fun W' (hb' : Below W.heap.size W W') => rIsCanonical_any sa a1 sc c1 s (eSays x) W' ((h1.below hB).below hb') ((hI.below hB).below hb')
 have k6 := fun W' (hb' : Below W.heap.size W W') => rValidProof_any ((eUses x).length : Int) a3 c3 (ePf x) W' ((hP.below hB).below hb')
 have hcv : okT s (eSays x) = false → isCanonT s (eSays x) = false := fun h => by unfold isCanonT; rw [h]; rfl
 have hUW := hU.below hB
 have hP0 : ePf x = [] → proofB (eUses x).length (ePf x) = false := fun h => by rw [h]; unfold proofB validP; simp
 clear h1 hI hU hP hn hb
 generalize okEnt s x = OK at hok ⊢
 generalize eNm x = nm at *
 generalize eBy x = bn at *
 generalize (eSays x).length = n1 at *
 generalize isCanonT s (eSays x) = b3 at *
 generalize okT s (eSays x) = bv at *
 generalize eUses x = us at *
 generalize ePf x = pf at *
 generalize proofB (us.length : Int) pf = b6 at *
 have hUH := Lib.hid hUW
 have k6H := Lib.hid k6
 have hokH := Lib.hid hok
 have hBH := Lib.hid hB
 have hP0H := Lib.hid hP0
 clear hUW k6 hok hB hP0
 cases hb1 : nameB nm with
 | false =>
  rw [hb1] at k1 hokH
  have k1H := Lib.hid k1
  clear k1 k2 kv k3 hb1 hcv
  go_enter Tryz.func19, Tryz.ntmps19
  go_wp2_with fail
  try rw [hW]
  refine k1H.out.mono ?_
  rintro e w1 ⟨rfl, rfl⟩
  go_wp2_with fail
  go_ret
  exact ⟨by rw [hokH.out]; rfl, hBH.out⟩
 | true =>
 cases hb2 : nameB bn with
 | false =>
  rw [hb1] at k1 hokH
  rw [hb2] at k2 hokH
  have k1H := Lib.hid k1
  have k2H := Lib.hid k2
  clear k1 k2 kv k3 hb1 hb2 hcv
  go_enter Tryz.func19, Tryz.ntmps19
  go_wp2_with fail
  try rw [hW]
  refine k1H.out.mono ?_
  rintro e w1 ⟨rfl, rfl⟩
  go_wp2_with fail
  refine k2H.out.mono ?_
  rintro e w1 ⟨rfl, rfl⟩
  go_wp2_with fail
  go_ret
  exact ⟨by rw [hokH.out]; rfl, hBH.out⟩
 | true =>
 rw [hb1] at k1 hokH
 rw [hb2] at k2 hokH
 have k1H := Lib.hid k1
 have k2H := Lib.hid k2
 clear k1 k2 hb1 hb2
 cases bv with
 | false =>
  have hc := hcv rfl
  subst hc
  have kvH := Lib.hid kv
  clear kv k3 hcv
  go_enter Tryz.func19, Tryz.ntmps19
  go_wp2_with fail
  try rw [hW]
  refine k1H.out.mono ?_
  rintro e w1 ⟨rfl, rfl⟩
  go_wp2_with fail
  refine k2H.out.mono ?_
  rintro e w1 ⟨rfl, rfl⟩
  go_wp2_with fail
  refine kvH.out.mono ?_
  rintro e w2 ⟨rfl, hd⟩
  have hfin := Lib.hid (bcall hBH.out (hd.below _))
  clear hd
  go_wp2_with fail
  go_ret
  exact ⟨by rw [hokH.out]; rfl, hfin.out⟩
 | true =>
 have kvH := Lib.hid kv
 have k3H := Lib.hid k3
 clear kv k3 hcv
 go_enter Tryz.func19, Tryz.ntmps19
 go_wp2_with fail
 try rw [hW]
 refine k1H.out.mono ?_
 rintro e w1 ⟨rfl, rfl⟩
 go_wp2_with fail
 refine k2H.out.mono ?_
 rintro e w1 ⟨rfl, rfl⟩
 go_wp2_with fail
 refine kvH.out.mono ?_
 rintro e w2 ⟨rfl, hd⟩
 have hb2 := hd.below W.heap.size
 have k3a := Lib.hid (k3H.out w2 hb2)
 have p2 := cell_later hb2 q2
 have p3 := cell_later hb2 q3
 have p4 := cell_later hb2 q4
 have hb2H := Lib.hid hb2
 clear hd hb2 q0 q1 q2 q3 q4
 cases b3 with
 | false =>
  go_wp2_with fail
  refine k3a.out.mono ?_
  rintro e w3 ⟨rfl, hb3⟩
  have hfin := Lib.hid (bcall (bcall hBH.out hb2H.out) hb3)
  clear hb3
  go_wp2_with fail
  go_ret
  exact ⟨by rw [hokH.out]; rfl, hfin.out⟩
 | true =>
 rw [Bool.true_and, Bool.true_and, Bool.true_and] at hokH
 go_wp2_with fail
 refine k3a.out.mono ?_
 rintro e w3 ⟨rfl, hb3⟩
 have r3 := cell_later hb3 p3
 have r4 := cell_later hb3 p4
 have hB3 := Lib.hid (bcall hb2H.out hb3)
 have hBw := Lib.hid (bcall (bcall hBH.out hb2H.out) hb3)
 clear hb3 p2 p3 p4
 by_cases h12 : us.length ≤ 12
 ·have h12i : ((12 : Int) < (us.length : Int)) = False := eq_false (by omega)
  have hok2 := hokH.out
  rw [decide_eq_true h12, Bool.true_and] at hok2
  have hok2H := Lib.hid hok2
  clear hok2
  have hU3 := Lib.hid (hUH.out.below hB3.out)
  clear h12
  go_wp2_with fail
  go_loopw [5] (fun i wr => rvyRel us w3 i wr) (fun i _ => us.length - (intOf i).toNat)
  case atStart => exact ⟨0, rfl, Nat.zero_le _, by simp, rfl, .refl _⟩
  case round =>
   obtain ⟨j, rfl, hj, hnd, hal, hD⟩ := hrel
   have s3 := cell_later (hD.below _) r3
   have s4 := cell_later (hD.below _) r4
   have hUr := Lib.hid (hU3.out.drew hD)
   have hDH := Lib.hid hD
   clear hD
   by_cases hjl : j < us.length
   ·obtain ⟨b2, o2, rfl, -, qu, hzu⟩ := hUr.out.str j hjl
    have hjj : (j : Int) < (us.length : Int) := by omega
    have hjl2 : (j : Int) ≤ (us.length : Int) := by omega
    have hlt2 : (us.take j).length = j := by rw [List.length_take]; omega
    have vn := fun m => rName_any us[j] hzu (wr.drewN m)
    have vh := fun m => rHas_any (some ⟨b2, o2, none⟩) c2 (us.take j) us[j] (wr.drewN m) ((hUr.out.pre j).drewN m)
    simp only [hlt2] at vh
    have hbadn : nameB us[j] = false → us.all nameB = false := all_bad hjl
    have hbadm : memB (us.take j) us[j] = true → ¬ us.Nodup := nodup_bad hjl
    have hnext : nameB us[j] = true → memB (us.take j) us[j] = false → ∀ q, rvyRel us w3 (.int .i64 ((j : Int) + 1)) (wr.drewN q) := fun h1 h2 q => ⟨j + 1, by simp, hjl, nodup_take hjl hnd h2, all_take hjl hal h1, drew_more hDH.out _⟩
    have hbadnH := Lib.hid hbadn
    have hbadmH := Lib.hid hbadm
    have hnextH := Lib.hid hnext
    have vnH := Lib.hid vn
    have vhH := Lib.hid vh
    clear hbadn hbadm hnext vn vh hnd hal hlt2
    generalize memB (us.take j) us[j] = bm at *
    generalize us[j] = u at *
    have hj0 : (0 : Int) ≤ (j : Int) := by omega
    have hcap := hUr.out.cap
    have hjc : (j : Int) ≤ (c2 : Int) := by omega
    have hc0 : ¬ c2 = 0 := by omega
    have hc1 : ¬ 0 = c2 := by omega
    clear hcap
    cases hbn : nameB u with
    | false =>
     have hf := Lib.hid (show OK = false by rw [hok2H.out, hbadnH.out hbn]; simp)
     rw [hbn] at vnH
     clear hbn
     go_wp2_with fail
     go_quiet ((go_at_call 25; (with_reducible exact quiet_left (vnH.out _))))
     all_goals go_wp2_with fail
     all_goals go_ret
     all_goals exact ⟨ret_bool hf.out.symm, below_drewN (bcall hBw.out (hDH.out.below _)) _⟩
    | true =>
     rw [hbn] at vnH
     cases bm with
     | true =>
      have hf := Lib.hid (show OK = false by rw [hok2H.out, decide_eq_false (hbadmH.out rfl)]; simp)
      clear hbn
      go_wp2_with fail
      go_quiet (first | (go_at_call 25; (with_reducible exact quiet_left (vnH.out _))) | (go_at_call 39; (with_reducible exact quiet_left (vhH.out _))))
      all_goals go_wp2_with fail
      all_goals go_ret
      all_goals exact ⟨ret_bool hf.out.symm, below_drewN (bcall hBw.out (hDH.out.below _)) _⟩
     | false =>
      have hf := Lib.hid (hnextH.out hbn rfl)
      clear hbn
      go_wp2_with fail
      go_quiet (first | (go_at_call 25; (with_reducible exact quiet_left (vnH.out _))) | (go_at_call 39; (with_reducible exact quiet_left (vhH.out _))))
      all_goals go_wp2_with fail
      all_goals go_roundw
      case rel => exact hf.out _
      case measure => simp [intOf]; omega
   ·have hjj : ((j : Int) < (us.length : Int)) = False := eq_false (by omega)
    rw [List.take_of_length_le (by omega)] at hnd hal
    have hok3 := hok2H.out
    rw [decide_eq_true hnd, hal, Bool.true_and, Bool.true_and] at hok3
    have k6a := Lib.hid (k6H.out wr (bcall hB3.out (hDH.out.below _)))
    have hBe := Lib.hid (bcall hBw.out (hDH.out.below _))
    clear hnd hal hjl hj
    by_cases hp : pf = []
    ·have hz : ((pf.length : Int) == 0) = true := by rw [hp]; rfl
     have hus : decide (us = []) = ((us.length : Int) == 0) := by rw [Bool.eq_iff_iff, decide_eq_true_eq, beq_iff_eq, ← List.length_eq_zero_iff]; omega
     have hf := Lib.hid (show OK = ((us.length : Int) == 0) by rw [hok3, hP0H.out hp, decide_eq_true hp, Bool.and_true, Bool.or_false, hus])
     clear hok3 hp hus
     go_wp2_with fail
     go_ret
     exact ⟨ret_bool hf.out.symm, hBe.out⟩
    ·have hz : ((pf.length : Int) == 0) = false := by rw [beq_eq_false_iff_ne]; intro e; exact hp (List.length_eq_zero_iff.1 (by omega))
     have hf := Lib.hid (show OK = b6 by rw [hok3, decide_eq_false hp, Bool.and_false, Bool.false_or])
     clear hok3 hp
     go_wp2_with fail
     refine k6a.out.mono ?_
     rintro e w6 ⟨rfl, hb6⟩
     have hfin := Lib.hid (bcall hBe.out hb6)
     clear hb6
     go_wp2_with fail
     go_ret
     exact ⟨ret_bool hf.out.symm, hfin.out⟩
 ·have h12i : ((12 : Int) < (us.length : Int)) = True := eq_true (by omega)
  have hok2 := hokH.out
  rw [decide_eq_false h12] at hok2
  have hok2H := Lib.hid hok2
  clear hok2 h12
  go_wp2_with fail
  go_ret
  exact ⟨by rw [hok2H.out]; rfl, hBw.out⟩
end Go.Proofs.YtpmnnoopoblpgaaGreat

/- A name put in its place in an ascending list: the list, and the cells. -/
namespace Go.Proofs.YtpmnnoopoblpgaaGreat
open Go Go.RowKit Go.Maps

theorem OwnS.cellAt {w : World} {base g cap n : Nat} {L : List ByteArray} (h : OwnS w base (.slice (some ⟨g, 0, none⟩) n cap) L) (hn : n = L.length) (i : Nat) (hi : i < L.length) : w.cell? ⟨g, i, none⟩ = some (.string L[i]) ∧ w.frozen? ⟨g, i, none⟩ = false := by
 subst hn
 obtain ⟨ho, _⟩ := OwnS.row h
 exact ⟨by rw [ho.cellAt i (by omega)]; simp [hi], ho.frozenAt i⟩
end Go.Proofs.YtpmnnoopoblpgaaGreat

/- Walks: Sorted of the reference. -/
namespace Go.Proofs.YtpmnnoopoblpgaaGreat
open Go Go.RowKit Go.Maps

end Go.Proofs.YtpmnnoopoblpgaaGreat


/- Walks: lemmaryref04.run, right, Run, Says. -/
namespace Go.Proofs.YtpmnnoopoblpgaaGreat
open Go Go.RowKit Go.Maps

end Go.Proofs.YtpmnnoopoblpgaaGreat

/- Walks: lemmaryref04.right, Run, Says. -/
namespace Go.Proofs.YtpmnnoopoblpgaaGreat
open Go Go.RowKit Go.Maps

end Go.Proofs.YtpmnnoopoblpgaaGreat

/- Walks: Check and Proves, of package kernel and of the reference. -/
namespace Go.Proofs.YtpmnnoopoblpgaaGreat
open Go Go.RowKit Go.Maps

end Go.Proofs.YtpmnnoopoblpgaaGreat

/- What the reference calls holding is what holds. No program is named. -/
namespace Go.Proofs.YtpmnnoopoblpgaaGreat

end Go.Proofs.YtpmnnoopoblpgaaGreat

/- Walks: Index, Givens of the reference; blocked. -/
namespace Go.Proofs.YtpmnnoopoblpgaaGreat
open Go Go.RowKit Go.Maps

def ixN (l : List Ent) (n : ByteArray) : Int := match atN l n with | some i => (i : Int) | none => -1
theorem ixN_some' {l : List Ent} {n : ByteArray} {j : Nat} (h : atN l n = some j) : ixN l n = j := by unfold ixN; rw [h]
theorem ixN_none' {l : List Ent} {n : ByteArray} (h : atN l n = none) : ixN l n = -1 := by unfold ixN; rw [h]
theorem ixN_idx (l : List Ent) (n : ByteArray) : ixN l n = idxE l (fun x => decide (eNm x = n)) := rfl
def rixRel (l : List Ent) (n : ByteArray) (w : World) (i : Value) (wr : World) : Prop := ∃ k : Nat, i = .int .i64 k ∧ k ≤ l.length ∧ (∀ j (hj : j < k) (hl : j < l.length), eNm l[j] ≠ n) ∧ w = wr
set_option maxHeartbeats 1000000 in
theorem rIndex_any {S : Nat → Prop} (a : Option Addr) (c : Nat) (l : List Ent) (n : ByteArray) (w : World) (h : LibL S w a c l) :
  Calls Tryz.prog 14 #[.slice a l.length c, .string n] w fun e w' => e = .returned (.int .i64 (ixN l n)) ∧ w = w' := by
 have m := h.le
 have hH := Lib.hid h
 clear h
 go_enter Tryz.func14, Tryz.ntmps14
 go_wp2_with fail
 go_loopw [5] (fun i wr => rixRel l n w i wr) (fun i _ => l.length - (intOf i).toNat)
 case atStart => exact ⟨0, rfl, Nat.zero_le _, fun j hj => by omega, rfl⟩
 case round =>
  obtain ⟨k, rfl, hk, hno, rfl⟩ := hrel
  by_cases hlt : k < l.length
  ·obtain ⟨b, off, a1, c1, a2, c2, a3, c3, rfl, hbB, p0, p1, p2, p3, p4, z1, z2, hI, hU, hP⟩ := hH.out.ent k hlt
   clear p1 p2 p3 p4 hI hU hP z2
   obtain ⟨x, hx⟩ : ∃ x, eNm l[k] = x := ⟨_, rfl⟩
   rw [hx] at p0 z1
   by_cases he : x = n
   ·have hq := str_eq he
    have hfin := Lib.hid (show ixN l n = k by rw [ixN_idx]; exact idxE_some hlt (fun j hj => decide_eq_false (hno j hj (by omega))) (decide_eq_true (hx.trans he)))
    clear hno hx he
    go_wp2_with fail
    go_ret
    first | exact ⟨ret_int hfin.out.symm, rfl⟩ | exact ⟨ret_int hfin.out.symm, trivial⟩
   ·have hq := str_neq he
    have hfin := Lib.hid (show rixRel l n w (.int .i64 ((k : Int) + 1)) w from ⟨k + 1, by simp, hlt, fun j hj hl => by
     by_cases e : j = k
     ·subst e; rw [hx]; exact he
     ·exact hno j (by omega) hl, rfl⟩)
    clear hno hx he
    go_wp2_with fail
    go_roundw
    case rel => exact hfin.out
    case measure => simp [intOf]; omega
  ·have hkk : ((k : Int) < (l.length : Int)) = False := eq_false (by omega)
   have hfin := Lib.hid (show ixN l n = -1 by rw [ixN_idx]; exact idxE_none (fun j hj => decide_eq_false (hno j (by omega) hj)))
   clear hno hlt hk
   go_wp2_with fail
   go_ret
   first | exact ⟨ret_int hfin.out.symm, rfl⟩ | exact ⟨ret_int hfin.out.symm, trivial⟩
end Go.Proofs.YtpmnnoopoblpgaaGreat

/- Walks: failing. -/
namespace Go.Proofs.YtpmnnoopoblpgaaGreat
open Go Go.RowKit Go.Maps

noncomputable def faiTo (s : Sg) (l : List Ent) (k : Nat) (u : ByteArray) : Bool := misB l u || (List.range k).any (fun i => !holdX s l i && decide (eNm (l.getD i default) = u))
theorem faiTo_zero (s : Sg) (l : List Ent) : faiTo s l 0 = misB l := by funext u; unfold faiTo; simp
theorem faiTo_ok {s : Sg} {l : List Ent} {k : Nat} (h : holdX s l k = true) : faiTo s l (k + 1) = faiTo s l k := by
 funext u
 unfold faiTo
 rw [List.range_succ, List.any_append]
 simp [h]
theorem faiTo_bad {s : Sg} {l : List Ent} {k : Nat} (hk : k < l.length) (h : holdX s l k = false) : (fun z => if z = eNm l[k] then true else faiTo s l k z) = faiTo s l (k + 1) := by
 funext u
 unfold faiTo
 rw [List.range_succ, List.any_append]
 by_cases e : u = eNm l[k]
 ·subst e; simp [h, List.getElem?_eq_getElem hk]
 ·have : decide (eNm l[k] = u) = false := decide_eq_false (fun h => e h.symm)
  simp [h, e, List.getElem?_eq_getElem hk, this]
noncomputable def faiB (s : Sg) (l : List Ent) (u : ByteArray) : Bool := misB l u || chB l (fun i => !holdX s l i) u
theorem faiTo_all (s : Sg) (l : List Ent) : faiTo s l l.length = faiB s l := rfl
def faRel (s : Sg) (l : List Ent) (w : World) (ob M0 : Nat) (i : Value) (wr : World) : Prop := ∃ k M m : Nat, i = .int .i64 k ∧ k ≤ l.length ∧ M ≤ M0 + k ∧ m ≤ M ∧ SSet wr ob M m (faiTo s l k) ∧ Below w.heap.size w wr
set_option maxHeartbeats 4000000 in
theorem failing_any {B xb : Nat} {w : World} {s : Sg} {l : List Ent} (h : DLib B w xb s l) : Calls Tryz.prog 93 #[.pointer (some ⟨xb, 0, none⟩)] w fun e w' => ∃ ob M m, e = .returned (.map (some ob)) ∧ w.heap.size ≤ ob ∧ M ≤ 1000 ∧ m ≤ M ∧ SSet w' ob M m (faiB s l) ∧ Below w.heap.size w w' := by
 have vm := missing_any h
 have hl60 := (okLib_parts h.2.2.1).2.1
 have vmH := Lib.hid vm
 have hH := Lib.hid h
 clear vm h
 go_enter Tryz.func93, Tryz.ntmps93
 go_wp2_with fail
 refine vmH.out.mono ?_
 rintro e w1 ⟨ob, M0, m0, rfl, hob, hM0, hm0, hS0, hb1⟩
 obtain ⟨sa, sc, la, lc, bm, hO⟩ := (hH.out.call hb1).op
 have ml := hO.hL.le
 have q1 := hO.q1
 have hOH := Lib.hid hO
 have hst := Lib.hid (show faRel s l w ob M0 (.int .i64 0) w1 from ⟨0, M0, m0, rfl, Nat.zero_le _, by omega, hm0, by rw [faiTo_zero]; exact hS0, hb1⟩)
 have hbH := Lib.hid hb1
 clear hO hS0 hb1 hm0
 go_wp2_with fail
 go_loopw [13] (fun i wr => faRel s l w ob M0 i wr) (fun i _ => l.length - (intOf i).toNat)
 case atStart => exact hst.out
 case round =>
  obtain ⟨k, M, m, rfl, hk, hM, hm, hS, hB⟩ := hrel
  by_cases hlt : k < l.length
  ·have hD := hH.out.call hB
   have hBl := hH.out.1
   obtain ⟨b, off, a1, c1, a2, c2, a3, c3, rfl, hbB, p0, p1, p2, p3, p4, z1, z2, hI, hU, hP⟩ := hOH.out.hL.ent k hlt
   have hB1r : Below w.heap.size w wr := hB
   have hbB' : b < w.heap.size := by omega
   have s0 := (hB.cell (p := ⟨b, off + k * 5, none⟩) hbB').trans ((hbH.out.cell (p := ⟨b, off + k * 5, none⟩) hbB').symm.trans p0)
   have s1 := (hB.cell (p := ⟨b, off + k * 5 + 1, none⟩) hbB').trans ((hbH.out.cell (p := ⟨b, off + k * 5 + 1, none⟩) hbB').symm.trans p1)
   have s2 := (hB.cell (p := ⟨b, off + k * 5 + 2, none⟩) hbB').trans ((hbH.out.cell (p := ⟨b, off + k * 5 + 2, none⟩) hbB').symm.trans p2)
   have s3 := (hB.cell (p := ⟨b, off + k * 5 + 3, none⟩) hbB').trans ((hbH.out.cell (p := ⟨b, off + k * 5 + 3, none⟩) hbB').symm.trans p3)
   have s4 := (hB.cell (p := ⟨b, off + k * 5 + 4, none⟩) hbB').trans ((hbH.out.cell (p := ⟨b, off + k * 5 + 4, none⟩) hbB').symm.trans p4)
   obtain ⟨W, hW⟩ : ∃ W, wr.alloc (.cells #[.string (eNm l[k]), .string (eBy l[k]), .slice a1 (eSays l[k]).length c1, .slice a2 (eUses l[k]).length c2, .slice a3 (ePf l[k]).length c3] 37) = W := ⟨_, rfl⟩
   have hBW : Below wr.heap.size wr W := by rw [← hW]; exact below1 wr _
   have q0 : W.cell? ⟨wr.heap.size, 0, none⟩ = some (.string (eNm l[k])) := by rw [← hW]; clear hW; go_simp
   have vh := holds_any (hD.call hBW) k hlt
   have hbad := faiTo_bad (s := s) hlt
   have hok := faiTo_ok (s := s) (l := l) (k := k)
   have hBn := bcall hB hBW
   have hSn := hS.below hBW hS.lt
   have vhH := Lib.hid vh
   have hbadH := Lib.hid hbad
   have hokH := Lib.hid hok
   have hBnH := Lib.hid hBn
   have hSnH := Lib.hid hSn
   have hWH := Lib.hid hW
   clear vh hbad hok hBn hSn hS hB hB1r hD hI hU hP p0 p1 p2 p3 p4 hBW hW
   generalize eNm l[k] = nm at *
   generalize eBy l[k] = bn at *
   generalize (eSays l[k]).length = n1 at *
   generalize (eUses l[k]).length = n2 at *
   generalize (ePf l[k]).length = n3 at *
   cases hx : holdX s l k with
   | true =>
    rw [hx] at vhH
    have hfin := Lib.hid (fun w2 (hb : Below W.heap.size W w2) => show faRel s l w ob M0 (.int .i64 ((k : Int) + 1)) w2 from ⟨k + 1, M, m, by simp, hlt, by omega, hm, by rw [hokH.out hx]; exact hSnH.out.below hb hSnH.out.lt, bcall hBnH.out hb⟩)
    clear hx hM hm
    go_wp2_with fail
    rw [hWH.out]
    refine vhH.out.mono ?_
    rintro e w2 ⟨rfl, hb⟩
    have hf := Lib.hid (hfin.out w2 hb)
    clear hb
    go_wp2_with fail
    go_roundw
    case rel => exact hf.out
    case measure => simp [intOf]; omega
   | false =>
    rw [hx] at vhH
    have hfin : ∀ w2, Below W.heap.size W w2 → ∃ w3, (Instr.mapUpdate 88 (.map (some ob)) (.string nm) (.bool true)).run Tryz.prog w2 = .ok () w3 ∧ faRel s l w ob M0 (.int .i64 ((k : Int) + 1)) w3 := fun w2 hb => by
     obtain ⟨w3, h1, h2, h3⟩ := (hSnH.out.below hb hSnH.out.lt).store (tm := 88) Tryz.underlying88 Tryz.underlying9 Tryz.underlying4 (by unfold maxLen; omega) nm (big_max z1)
     rw [hbadH.out hx] at h2
     refine ⟨w3, h1, k + 1, M + 1, _, by simp, hlt, by omega, ?_, h2, (bcall hBnH.out hb).grown h3 (bcall hBnH.out hb).size (fun j e => by injection e with e; omega)⟩
     split <;> omega
    have hfinH := Lib.hid hfin
    clear hx hM hm hfin
    go_wp2_with fail
    rw [hWH.out]
    refine vhH.out.mono ?_
    rintro e w2 ⟨rfl, hb⟩
    obtain ⟨w3, hup, hf⟩ := hfinH.out w2 hb
    have r0 := cell_later hb q0
    have hfH := Lib.hid hf
    clear hb hf q0
    go_wp2_with fail
    go_roundw
    case rel => exact hfH.out
    case measure => simp [intOf]; omega
  ·have hkk : ((k : Int) < (l.length : Int)) = False := eq_false (by omega)
   have hkl : k = l.length := by omega
   rw [hkl, faiTo_all] at hS
   have hfin := Lib.hid (show ∃ ob' M' m', (Ending.returned (.map (some ob)) : Ending) = .returned (.map (some ob')) ∧ w.heap.size ≤ ob' ∧ M' ≤ 1000 ∧ m' ≤ M' ∧ SSet wr ob' M' m' (faiB s l) ∧ Below w.heap.size w wr from ⟨ob, M, m, rfl, hob, by omega, hm, hS, hB⟩)
   clear hS hB hlt hk hkl hM hm
   go_wp2_with fail
   go_ret
   exact hfin.out
end Go.Proofs.YtpmnnoopoblpgaaGreat

/- Walks: missing of the reference. -/
namespace Go.Proofs.YtpmnnoopoblpgaaGreat
open Go Go.RowKit Go.Maps

end Go.Proofs.YtpmnnoopoblpgaaGreat

/- If an entry says something more general, nothing breaks but itself. No program is named. -/
namespace Go.Proofs.YtpmnnoopoblpgaaGreat

theorem setSays_getD {l : List Ent} {i k : Nat} {t : List Int} (hk : k < l.length) : (i = k → (setSays l i t).getD k default = (eNm l[k], eBy l[k], t, (eUses l[k], ePf l[k]))) ∧ (i ≠ k → (setSays l i t).getD k default = l[k]) := by
 have hk' : k < (setSays l i t).length := by rw [setSays_len]; exact hk
 rw [getD_at hk']
 exact ⟨fun e => by subst e; exact setSays_self hk hk', fun e => setSays_ne hk e hk'⟩
end Go.Proofs.YtpmnnoopoblpgaaGreat

/- Walks: Valid, Find, Missing of the reference. -/
namespace Go.Proofs.YtpmnnoopoblpgaaGreat
open Go Go.RowKit Go.Maps

def rvlRel (s : Sg) (l : List Ent) (w : World) (i : Value) (wr : World) : Prop := ∃ k : Nat, i = .int .i64 k ∧ k ≤ l.length ∧ (l.take k).all (okEnt s) = true ∧ ((l.take k).map eNm).Nodup ∧ Below w.heap.size w wr
theorem okLib_bad1 {s : Sg} {l : List Ent} {k : Nat} (hk : k < l.length) (h : okEnt s l[k] = false) : okLib s l = false := by
 have : l.all (okEnt s) = false := by rw [List.all_eq_false]; exact ⟨l[k], List.getElem_mem hk, by rw [h]; simp⟩
 unfold okLib; rw [this]; simp
theorem okLib_bad2 {s : Sg} {l : List Ent} {k j : Nat} (hk : k < l.length) (h : atN (l.take k) (eNm l[k]) = some j) : okLib s l = false := by
 obtain ⟨hj, e⟩ := atN_some h
 rw [List.length_take] at hj
 rw [List.getElem_take] at e
 have : ¬ (l.map eNm).Nodup := fun hd => by
  have := (List.getElem_inj (xs := l.map eNm) (i := j) (j := k) (h₀ := by rw [List.length_map]; omega) (h₁ := by rw [List.length_map]; exact hk) hd).1 (by rw [List.getElem_map, List.getElem_map]; exact e)
  omega
 unfold okLib; rw [decide_eq_false this]; simp
theorem okLib_next {s : Sg} {l : List Ent} {k : Nat} (hk : k < l.length) (hall : (l.take k).all (okEnt s) = true) (hnd : ((l.take k).map eNm).Nodup) (h : okEnt s l[k] = true) (hat : atN (l.take k) (eNm l[k]) = none) :
  (l.take (k + 1)).all (okEnt s) = true ∧ ((l.take (k + 1)).map eNm).Nodup := by
 rw [List.take_succ_eq_append_getElem hk, List.all_append, hall, List.map_append]
 refine ⟨by simpa using h, ?_⟩
 rw [List.nodup_append]
 refine ⟨hnd, by simp, fun a ha b hb e => ?_⟩
 obtain ⟨x, hx, e1⟩ := List.mem_map.1 ha
 simp at hb
 exact atN_none hat x hx (by rw [e1, e, hb])
set_option maxRecDepth 100000 in
set_option maxHeartbeats 8000000 in
theorem rVld_any {S1 S2 : Nat → Prop} (sa la : Option Addr) (sc lc : Nat) (s : Sg) (l : List Ent) (w : World) (h1 : Sign S1 w sa sc s) (h2 : LibL S2 w la lc l) :
  Calls Tryz.prog 27 #[.slice sa s.length sc, .slice la l.length lc] w fun e w' => e = .returned (.bool (okLib s l)) ∧ Below w.heap.size w w' := by
 have m := h2.le
 have m1 := h1.le
 have vs := rValidSign_any sa sc s w h1
 have h1H := Lib.hid h1
 have h2H := Lib.hid h2
 clear h1 h2
 cases hs : okSign s with
 | false =>
  rw [hs] at vs
  have vsH := Lib.hid vs
  have hf := Lib.hid (show okLib s l = false by unfold okLib; rw [hs]; rfl)
  clear vs hs
  go_enter Tryz.func27, Tryz.ntmps27
  go_wp2_with fail
  refine vsH.out.mono ?_
  rintro e w1 ⟨rfl, hd⟩
  have hB := Lib.hid (hd.below w.heap.size)
  clear hd
  go_wp2_with fail
  go_ret
  exact ⟨ret_bool hf.out.symm, hB.out⟩
 | true =>
 rw [hs] at vs
 have vsH := Lib.hid vs
 have hsH := Lib.hid hs
 clear vs hs
 by_cases h60 : l.length ≤ 60
 ·have h60i : ((60 : Int) < (l.length : Int)) = False := eq_false (by omega)
  go_enter Tryz.func27, Tryz.ntmps27
  go_wp2_with fail
  refine vsH.out.mono ?_
  rintro e w1 ⟨rfl, hd⟩
  have hB := Lib.hid (hd.below w.heap.size)
  clear hd
  go_wp2_with fail
  go_loopw [5] (fun i wr => rvlRel s l w i wr) (fun i _ => l.length - (intOf i).toNat)
  case atStart => exact ⟨0, rfl, Nat.zero_le _, rfl, by simp, hB.out⟩
  case round =>
   obtain ⟨k, rfl, hk, hall, hnd, hBr⟩ := hrel
   by_cases hlt : k < l.length
   ·obtain ⟨b, off, a1, c1, a2, c2, a3, c3, rfl, -, p0, p1, p2, p3, p4, z1, z2, hI, hU, hP⟩ := (h2H.out.below hBr).ent k hlt
    have hcap := h2H.out.cap
    have hkc : (k : Int) ≤ (lc : Int) := by omega
    have hlc0 : ¬ lc = 0 := by omega
    have hkk : (k : Int) < (l.length : Int) := by omega
    have hk0 : (0 : Int) ≤ (k : Int) := by omega
    have hlt2 : (l.take k).length = k := by rw [List.length_take]; omega
    have ve := fun W (hb : Below wr.heap.size wr W) => rValidEntry_any sa sc s l[k] a1 a2 a3 c1 c2 c3 W ((h1H.out.below hBr).below hb) z1 z2 (hI.below hb) (hU.below hb) (hP.below hb)
    have vi := fun W (hb : Below wr.heap.size wr W) => rIndex_any (some ⟨b, off, none⟩) lc (l.take k) (eNm l[k]) W (((h2H.out.pre k).below hBr).below hb)
    simp only [hlt2] at vi
    have hbad := okLib_bad1 (s := s) hlt
    have hbad2 := fun j => okLib_bad2 (s := s) (j := j) hlt
    have hnx := fun h hat => okLib_next hlt hall hnd h hat
    have hixs := fun j (h : atN (l.take k) (eNm l[k]) = some j) => ixN_some' h
    have hixn := fun (h : atN (l.take k) (eNm l[k]) = none) => ixN_none' h
    have hbd : Below wr.heap.size wr wr.drew := Below.drew (.refl _ _)
    have hS0 := (⟨cell_later hbd p0, cell_later hbd p1, cell_later hbd p2, cell_later hbd p3, cell_later hbd p4⟩ : wr.drew.cell? ⟨b, off + k * 5, none⟩ = some (.string (eNm l[k])) ∧ wr.drew.cell? ⟨b, off + k * 5 + 1, none⟩ = some (.string (eBy l[k])) ∧ wr.drew.cell? ⟨b, off + k * 5 + 2, none⟩ = some (.slice a1 (eSays l[k]).length c1) ∧ wr.drew.cell? ⟨b, off + k * 5 + 3, none⟩ = some (.slice a2 (eUses l[k]).length c2) ∧ wr.drew.cell? ⟨b, off + k * 5 + 4, none⟩ = some (.slice a3 (ePf l[k]).length c3))
    have hBrH := Lib.hid hBr
    have hixsH := Lib.hid hixs
    have hixnH := Lib.hid hixn
    have hnxH := Lib.hid hnx
    have hbadH := Lib.hid hbad
    have hbad2H := Lib.hid hbad2
    have viF := Lib.hid vi
    have veH := Lib.hid ve
    clear hall hnd hBr hI hU hP z1 z2 ve vi hbad hbad2 hnx hixs hixn p0 p1 p2 p3 p4 hlt2 hcap
    generalize atN (l.take k) (eNm l[k]) = at_ at *
    generalize ixN (l.take k) (eNm l[k]) = ix at *
    generalize okEnt s l[k] = ok at *
    generalize eNm l[k] = nm at *
    generalize eBy l[k] = bn at *
    generalize (eSays l[k]).length = n1 at *
    generalize (eUses l[k]).length = n2 at *
    generalize (ePf l[k]).length = n3 at *
    cases ok with
    | false =>
     go_wp2_with fail
     refine wp_region_held_drew (S := fun w' => w'.cell? ⟨b, off + k * 5, none⟩ = some (.string nm) ∧ w'.cell? ⟨b, off + k * 5 + 1, none⟩ = some (.string bn) ∧ w'.cell? ⟨b, off + k * 5 + 2, none⟩ = some (.slice a1 n1 c1) ∧ w'.cell? ⟨b, off + k * 5 + 3, none⟩ = some (.slice a2 n2 c2) ∧ w'.cell? ⟨b, off + k * 5 + 4, none⟩ = some (.slice a3 n3 c3)) (by kernel_rfl) hS0 (fun hS => ?_)
     refine rtk 0 20 (v := ?_) hS ?_ ?_; rotate_left; · (intro w9 hS9; obtain ⟨z0, z1, z2, z3, z4⟩ := hS9; go_simp; try (with_reducible rfl))
     refine rtk 1 21 (v := ?_) hS ?_ ?_; rotate_left; · (intro w9 hS9; obtain ⟨z0, z1, z2, z3, z4⟩ := hS9; go_simp; try (with_reducible rfl))
     refine rtk 2 22 (v := ?_) hS ?_ ?_; rotate_left; · (intro w9 hS9; obtain ⟨z0, z1, z2, z3, z4⟩ := hS9; go_simp; try (with_reducible rfl))
     refine rtk 3 23 (v := ?_) hS ?_ ?_; rotate_left; · (intro w9 hS9; obtain ⟨z0, z1, z2, z3, z4⟩ := hS9; go_simp; try (with_reducible rfl))
     refine rtk 4 24 (v := ?_) hS ?_ ?_; rotate_left; · (intro w9 hS9; obtain ⟨z0, z1, z2, z3, z4⟩ := hS9; go_simp; try (with_reducible rfl))
     refine region_call 5 rfl (by kernel_rfl) (fun K hK => ?_)
     go_simp
     (with_reducible refine (veH.out _ hbd).mono ?_)
     rintro e w5 ⟨rfl, hb5⟩
     go_simp
     refine hK.out _ _ ⟨cell_later hb5 hS.1, cell_later hb5 hS.2.1, cell_later hb5 hS.2.2.1, cell_later hb5 hS.2.2.2.1, cell_later hb5 hS.2.2.2.2⟩ ?_
     clear hK hS K
     intro hS
     try simp only [Act.put, List.setIfInBounds_toArray, List.set_cons_zero, List.set_cons_succ]
     have hB5 := Lib.hid (bcall hBrH.out (bcall hbd hb5))
     have hW5 := Lib.hid (bcall hbd hb5)
     clear hb5
     refine rtk 6 26 (v := ?_) hS ?_ ?_; rotate_left; · (intro w9 hS9; obtain ⟨z0, z1, z2, z3, z4⟩ := hS9; go_simp; try (with_reducible rfl))
     refine rtk 7 27 (v := ?_) hS ?_ ?_; rotate_left; · (intro w9 hS9; obtain ⟨z0, z1, z2, z3, z4⟩ := hS9; go_simp; try (with_reducible rfl))
     refine rsk 8 28 hS ?_
     refine rsk 9 29 hS ?_
     refine rsk 10 30 hS ?_
     refine rsk 11 31 hS ?_
     refine rsk 12 32 hS ?_
     refine rsk 13 33 hS ?_
     refine rsk 14 34 hS ?_
     refine rsk 15 35 hS ?_
     refine rsk 16 36 hS ?_
     refine rsk 17 37 hS ?_
     refine rtk 18 38 (v := ?_) hS ?_ ?_; rotate_left; · (intro w9 hS9; obtain ⟨z0, z1, z2, z3, z4⟩ := hS9; go_simp; try (with_reducible rfl))
     refine wpAnyH_done (by kernel_rfl) ?_ _
     clear hS
     go_wp2_with fail
     go_ret
     exact ⟨ret_bool (hbadH.out (by simp)).symm, hB5.out⟩
    | true =>
     cases at_ with
     | none =>
      have hix := hixnH.out rfl
      subst hix
      have hnx := Lib.hid (fun W hb => (show rvlRel s l w (.int .i64 ((k : Int) + 1)) W from ⟨k + 1, by simp, hlt, (hnxH.out rfl rfl).1, (hnxH.out rfl rfl).2, hb⟩))
      clear hixsH hixnH hnxH hbad2H hbadH
      go_wp2_with fail
      refine wp_region_held_drew (S := fun w' => w'.cell? ⟨b, off + k * 5, none⟩ = some (.string nm) ∧ w'.cell? ⟨b, off + k * 5 + 1, none⟩ = some (.string bn) ∧ w'.cell? ⟨b, off + k * 5 + 2, none⟩ = some (.slice a1 n1 c1) ∧ w'.cell? ⟨b, off + k * 5 + 3, none⟩ = some (.slice a2 n2 c2) ∧ w'.cell? ⟨b, off + k * 5 + 4, none⟩ = some (.slice a3 n3 c3)) (by kernel_rfl) hS0 (fun hS => ?_)
      refine rtk 0 20 (v := ?_) hS ?_ ?_; rotate_left; · (intro w9 hS9; obtain ⟨z0, z1, z2, z3, z4⟩ := hS9; go_simp; try (with_reducible rfl))
      refine rtk 1 21 (v := ?_) hS ?_ ?_; rotate_left; · (intro w9 hS9; obtain ⟨z0, z1, z2, z3, z4⟩ := hS9; go_simp; try (with_reducible rfl))
      refine rtk 2 22 (v := ?_) hS ?_ ?_; rotate_left; · (intro w9 hS9; obtain ⟨z0, z1, z2, z3, z4⟩ := hS9; go_simp; try (with_reducible rfl))
      refine rtk 3 23 (v := ?_) hS ?_ ?_; rotate_left; · (intro w9 hS9; obtain ⟨z0, z1, z2, z3, z4⟩ := hS9; go_simp; try (with_reducible rfl))
      refine rtk 4 24 (v := ?_) hS ?_ ?_; rotate_left; · (intro w9 hS9; obtain ⟨z0, z1, z2, z3, z4⟩ := hS9; go_simp; try (with_reducible rfl))
      refine region_call 5 rfl (by kernel_rfl) (fun K hK => ?_)
      go_simp
      (with_reducible refine (veH.out _ hbd).mono ?_)
      rintro e w5 ⟨rfl, hb5⟩
      go_simp
      refine hK.out _ _ ⟨cell_later hb5 hS.1, cell_later hb5 hS.2.1, cell_later hb5 hS.2.2.1, cell_later hb5 hS.2.2.2.1, cell_later hb5 hS.2.2.2.2⟩ ?_
      clear hK hS K
      intro hS
      try simp only [Act.put, List.setIfInBounds_toArray, List.set_cons_zero, List.set_cons_succ]
      have hB5 := Lib.hid (bcall hBrH.out (bcall hbd hb5))
      have hW5 := Lib.hid (bcall hbd hb5)
      clear hb5
      refine rtk 6 26 (v := ?_) hS ?_ ?_; rotate_left; · (intro w9 hS9; obtain ⟨z0, z1, z2, z3, z4⟩ := hS9; go_simp; try (with_reducible rfl))
      refine rtk 7 27 (v := ?_) hS ?_ ?_; rotate_left; · (intro w9 hS9; obtain ⟨z0, z1, z2, z3, z4⟩ := hS9; go_simp; try (with_reducible rfl))
      refine rtk 8 28 (v := ?_) hS ?_ ?_; rotate_left; · (intro w9 hS9; obtain ⟨z0, z1, z2, z3, z4⟩ := hS9; go_simp; try (with_reducible rfl))
      refine rtk 9 29 (v := ?_) hS ?_ ?_; rotate_left; · (intro w9 hS9; obtain ⟨z0, z1, z2, z3, z4⟩ := hS9; go_simp; try (with_reducible rfl))
      refine rtk 10 30 (v := ?_) hS ?_ ?_; rotate_left; · (intro w9 hS9; obtain ⟨z0, z1, z2, z3, z4⟩ := hS9; go_simp; try (with_reducible rfl))
      refine rtk 11 31 (v := ?_) hS ?_ ?_; rotate_left; · (intro w9 hS9; obtain ⟨z0, z1, z2, z3, z4⟩ := hS9; go_simp; try (with_reducible rfl))
      refine rtk 12 32 (v := ?_) hS ?_ ?_; rotate_left; · (intro w9 hS9; obtain ⟨z0, z1, z2, z3, z4⟩ := hS9; go_simp; try (with_reducible rfl))
      refine rtk 13 33 (v := ?_) hS ?_ ?_; rotate_left; · (intro w9 hS9; obtain ⟨z0, z1, z2, z3, z4⟩ := hS9; go_simp; try (with_reducible rfl))
      refine rtk 14 34 (v := ?_) hS ?_ ?_; rotate_left; · (intro w9 hS9; obtain ⟨z0, z1, z2, z3, z4⟩ := hS9; go_simp; try (with_reducible rfl))
      refine rtk 15 35 (v := ?_) hS ?_ ?_; rotate_left; · (intro w9 hS9; obtain ⟨z0, z1, z2, z3, z4⟩ := hS9; go_simp; try (with_reducible rfl))
      have viH := Lib.hid (viF.out w5 hW5.out)
      refine region_call 16 rfl (by kernel_rfl) (fun K hK => ?_)
      go_simp
      (with_reducible refine viH.out.mono ?_)
      rintro e w6 ⟨rfl, rfl⟩
      go_simp
      refine hK.out _ _ hS ?_
      clear hK hS K
      intro hS
      try simp only [Act.put, List.setIfInBounds_toArray, List.set_cons_zero, List.set_cons_succ]
      refine rtk 17 37 (v := ?_) hS ?_ ?_; rotate_left; · (intro w9 hS9; obtain ⟨z0, z1, z2, z3, z4⟩ := hS9; go_simp; try (with_reducible rfl))
      refine rtk 18 38 (v := ?_) hS ?_ ?_; rotate_left; · (intro w9 hS9; obtain ⟨z0, z1, z2, z3, z4⟩ := hS9; go_simp; try (with_reducible rfl))
      refine wpAnyH_done (by kernel_rfl) ?_ _
      clear hS
      go_wp2_with fail
      go_roundw
      case rel => exact hnx.out _ hB5.out
      case measure => simp [intOf]; omega
     | some j =>
      have hix := hixsH.out j rfl
      subst hix
      have hbd2 := Lib.hid (hbad2H.out j rfl)
      have hjj : (0 : Int) ≤ (j : Int) := by omega
      clear hixsH hixnH hnxH hbad2H hbadH
      go_wp2_with fail
      refine wp_region_held_drew (S := fun w' => w'.cell? ⟨b, off + k * 5, none⟩ = some (.string nm) ∧ w'.cell? ⟨b, off + k * 5 + 1, none⟩ = some (.string bn) ∧ w'.cell? ⟨b, off + k * 5 + 2, none⟩ = some (.slice a1 n1 c1) ∧ w'.cell? ⟨b, off + k * 5 + 3, none⟩ = some (.slice a2 n2 c2) ∧ w'.cell? ⟨b, off + k * 5 + 4, none⟩ = some (.slice a3 n3 c3)) (by kernel_rfl) hS0 (fun hS => ?_)
      refine rtk 0 20 (v := ?_) hS ?_ ?_; rotate_left; · (intro w9 hS9; obtain ⟨z0, z1, z2, z3, z4⟩ := hS9; go_simp; try (with_reducible rfl))
      refine rtk 1 21 (v := ?_) hS ?_ ?_; rotate_left; · (intro w9 hS9; obtain ⟨z0, z1, z2, z3, z4⟩ := hS9; go_simp; try (with_reducible rfl))
      refine rtk 2 22 (v := ?_) hS ?_ ?_; rotate_left; · (intro w9 hS9; obtain ⟨z0, z1, z2, z3, z4⟩ := hS9; go_simp; try (with_reducible rfl))
      refine rtk 3 23 (v := ?_) hS ?_ ?_; rotate_left; · (intro w9 hS9; obtain ⟨z0, z1, z2, z3, z4⟩ := hS9; go_simp; try (with_reducible rfl))
      refine rtk 4 24 (v := ?_) hS ?_ ?_; rotate_left; · (intro w9 hS9; obtain ⟨z0, z1, z2, z3, z4⟩ := hS9; go_simp; try (with_reducible rfl))
      refine region_call 5 rfl (by kernel_rfl) (fun K hK => ?_)
      go_simp
      (with_reducible refine (veH.out _ hbd).mono ?_)
      rintro e w5 ⟨rfl, hb5⟩
      go_simp
      refine hK.out _ _ ⟨cell_later hb5 hS.1, cell_later hb5 hS.2.1, cell_later hb5 hS.2.2.1, cell_later hb5 hS.2.2.2.1, cell_later hb5 hS.2.2.2.2⟩ ?_
      clear hK hS K
      intro hS
      try simp only [Act.put, List.setIfInBounds_toArray, List.set_cons_zero, List.set_cons_succ]
      have hB5 := Lib.hid (bcall hBrH.out (bcall hbd hb5))
      have hW5 := Lib.hid (bcall hbd hb5)
      clear hb5
      refine rtk 6 26 (v := ?_) hS ?_ ?_; rotate_left; · (intro w9 hS9; obtain ⟨z0, z1, z2, z3, z4⟩ := hS9; go_simp; try (with_reducible rfl))
      refine rtk 7 27 (v := ?_) hS ?_ ?_; rotate_left; · (intro w9 hS9; obtain ⟨z0, z1, z2, z3, z4⟩ := hS9; go_simp; try (with_reducible rfl))
      refine rtk 8 28 (v := ?_) hS ?_ ?_; rotate_left; · (intro w9 hS9; obtain ⟨z0, z1, z2, z3, z4⟩ := hS9; go_simp; try (with_reducible rfl))
      refine rtk 9 29 (v := ?_) hS ?_ ?_; rotate_left; · (intro w9 hS9; obtain ⟨z0, z1, z2, z3, z4⟩ := hS9; go_simp; try (with_reducible rfl))
      refine rtk 10 30 (v := ?_) hS ?_ ?_; rotate_left; · (intro w9 hS9; obtain ⟨z0, z1, z2, z3, z4⟩ := hS9; go_simp; try (with_reducible rfl))
      refine rtk 11 31 (v := ?_) hS ?_ ?_; rotate_left; · (intro w9 hS9; obtain ⟨z0, z1, z2, z3, z4⟩ := hS9; go_simp; try (with_reducible rfl))
      refine rtk 12 32 (v := ?_) hS ?_ ?_; rotate_left; · (intro w9 hS9; obtain ⟨z0, z1, z2, z3, z4⟩ := hS9; go_simp; try (with_reducible rfl))
      refine rtk 13 33 (v := ?_) hS ?_ ?_; rotate_left; · (intro w9 hS9; obtain ⟨z0, z1, z2, z3, z4⟩ := hS9; go_simp; try (with_reducible rfl))
      refine rtk 14 34 (v := ?_) hS ?_ ?_; rotate_left; · (intro w9 hS9; obtain ⟨z0, z1, z2, z3, z4⟩ := hS9; go_simp; try (with_reducible rfl))
      refine rtk 15 35 (v := ?_) hS ?_ ?_; rotate_left; · (intro w9 hS9; obtain ⟨z0, z1, z2, z3, z4⟩ := hS9; go_simp; try (with_reducible rfl))
      have viH := Lib.hid (viF.out w5 hW5.out)
      refine region_call 16 rfl (by kernel_rfl) (fun K hK => ?_)
      go_simp
      (with_reducible refine viH.out.mono ?_)
      rintro e w6 ⟨rfl, rfl⟩
      go_simp
      refine hK.out _ _ hS ?_
      clear hK hS K
      intro hS
      try simp only [Act.put, List.setIfInBounds_toArray, List.set_cons_zero, List.set_cons_succ]
      refine rtk 17 37 (v := ?_) hS ?_ ?_; rotate_left; · (intro w9 hS9; obtain ⟨z0, z1, z2, z3, z4⟩ := hS9; go_simp; try (with_reducible rfl))
      refine rtk 18 38 (v := ?_) hS ?_ ?_; rotate_left; · (intro w9 hS9; obtain ⟨z0, z1, z2, z3, z4⟩ := hS9; go_simp; try (with_reducible rfl))
      refine wpAnyH_done (by kernel_rfl) ?_ _
      clear hS
      go_wp2_with fail
      go_ret
      exact ⟨ret_bool hbd2.out.symm, hB5.out⟩
   ·have hkk : ((k : Int) < (l.length : Int)) = False := eq_false (by omega)
    rw [List.take_of_length_le (by omega)] at hall hnd
    have hf := Lib.hid (show okLib s l = true by unfold okLib; rw [hsH.out, hall, decide_eq_true h60, decide_eq_true hnd]; rfl)
    have hBH := Lib.hid hBr
    clear hall hnd hBr hlt hk
    go_wp2_with fail
    go_ret
    exact ⟨ret_bool hf.out.symm, hBH.out⟩
 ·have h60i : ((60 : Int) < (l.length : Int)) = True := eq_true (by omega)
  have hf := Lib.hid (show okLib s l = false by unfold okLib; rw [decide_eq_false h60]; simp)
  clear h60
  go_enter Tryz.func27, Tryz.ntmps27
  go_wp2_with fail
  refine vsH.out.mono ?_
  rintro e w1 ⟨rfl, hd⟩
  have hB := Lib.hid (hd.below w.heap.size)
  clear hd
  go_wp2_with fail
  go_ret
  exact ⟨ret_bool hf.out.symm, hB.out⟩
end Go.Proofs.YtpmnnoopoblpgaaGreat

/- Walks: Givens of the reference; blocked. -/
namespace Go.Proofs.YtpmnnoopoblpgaaGreat
open Go Go.RowKit Go.Maps

end Go.Proofs.YtpmnnoopoblpgaaGreat

/- Walks: Find, Missing of the reference. -/
namespace Go.Proofs.YtpmnnoopoblpgaaGreat
open Go Go.RowKit Go.Maps

end Go.Proofs.YtpmnnoopoblpgaaGreat

/- Walks: good. -/
namespace Go.Proofs.YtpmnnoopoblpgaaGreat
open Go Go.RowKit Go.Maps

end Go.Proofs.YtpmnnoopoblpgaaGreat

/- Walks: Failing, Shaken, Holds, Strongest. -/
namespace Go.Proofs.YtpmnnoopoblpgaaGreat
open Go Go.RowKit Go.Maps

end Go.Proofs.YtpmnnoopoblpgaaGreat

/- Walks: axiom, holds, holding, opposite, chosen, Failing of the reference. -/
namespace Go.Proofs.YtpmnnoopoblpgaaGreat
open Go Go.RowKit Go.Maps

end Go.Proofs.YtpmnnoopoblpgaaGreat

/- Walks: holding, opposite, chosen, Failing of the reference. -/
namespace Go.Proofs.YtpmnnoopoblpgaaGreat
open Go Go.RowKit Go.Maps

end Go.Proofs.YtpmnnoopoblpgaaGreat

/- Walks: cited, leaned, lacking of the reference. -/
namespace Go.Proofs.YtpmnnoopoblpgaaGreat
open Go Go.RowKit Go.Maps

def zsN (Q : List Nat) : List Int := Q.map (fun q : Nat => (q : Int))
abbrev OwnQ (w : World) (base : Nat) (v : Value) (Q : List Nat) : Prop := OwnL intE (fun _ => False) w base 3 v (zsN Q)
structure CtW (l : List Ent) (sh : List Bool) (i k j : Nat) (w : World) (Q : List Nat) (M : List Bool) (v : Value) (wr : World) : Prop where
 st : CitS l sh i k j Q M
 q : OwnQ wr (w.heap.size + 1) v Q
 m : OwnB wr w.heap.size (.slice (some ⟨w.heap.size, 0, none⟩) l.length l.length) M
 b : Below w.heap.size w wr
end Go.Proofs.YtpmnnoopoblpgaaGreat

/- Walks: leaned, lacking, shaken of the reference. -/
namespace Go.Proofs.YtpmnnoopoblpgaaGreat
open Go Go.RowKit Go.Maps

end Go.Proofs.YtpmnnoopoblpgaaGreat
