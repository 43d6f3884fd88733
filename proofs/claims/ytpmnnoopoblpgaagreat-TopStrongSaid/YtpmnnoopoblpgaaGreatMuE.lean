/- The proof of a statement, some of its texts joined in build order: part E. -/
import Derived.Test.YtpmnnoopoblpgaaGreatMuD
import Derived.Test.YtpmnnoopoblpgaaGreatLaySet
import Derived.Sort.KeysCollected
import Derived.Lib.OwnBridge
import Derived.Lib.SliceRun
import Derived.Test.YtpmnnoopoblpgaaGreatMuR
import Derived.Deep.RegionHeld3
import Derived.Test.YtpmnnoopoblpgaaGreatWalkF
import Derived.Test.YtpmnnoopoblpgaaGreatRegion
/- Sets of names as ascending lists. No program is named. -/
namespace Go.Proofs.YtpmnnoopoblpgaaGreat

theorem asc_uniq {α : Type} {lt : α → α → Prop} (irr : ∀ x, ¬ lt x x) (tr : ∀ x y z, lt x y → lt y z → lt x z) : ∀ {l m : List α}, l.Pairwise lt → m.Pairwise lt → (∀ x, x ∈ l ↔ x ∈ m) → l = m
 | [], [], _, _, _ => rfl
 | [], y :: m, _, _, h => by have := (h y).2 (by simp); cases this
 | x :: l, [], _, _, h => by have := (h x).1 (by simp); cases this
 | x :: l, y :: m, hl, hm, h => by
  rw [List.pairwise_cons] at hl hm
  have hxy : x = y := by
   rcases List.mem_cons.1 ((h x).1 (by simp)) with e | e
   ·exact e
   ·rcases List.mem_cons.1 ((h y).2 (by simp)) with e2 | e2
    ·exact e2.symm
    ·exact (irr x (tr x y x (hl.1 y e2) (hm.1 x e))).elim
  subst hxy
  congr 1
  refine asc_uniq irr tr hl.2 hm.2 (fun z => ?_)
  constructor
  ·intro hz
   rcases List.mem_cons.1 ((h z).1 (by simp [hz])) with e | e
   ·subst e; exact (irr z (hl.1 z hz)).elim
   ·exact e
  ·intro hz
   rcases List.mem_cons.1 ((h z).2 (by simp [hz])) with e | e
   ·subst e; exact (irr z (hm.1 z hz)).elim
   ·exact e
def ltN (x y : ByteArray) : Prop := x.data.toList < y.data.toList
theorem ltN_irr (x : ByteArray) : ¬ ltN x x := List.lt_irrefl _
theorem ltN_tr (x y z : ByteArray) (h : ltN x y) (k : ltN y z) : ltN x z := List.lt_trans h k
def AscN (l : List ByteArray) : Prop := l.Pairwise ltN
theorem AscN.uniq {l m : List ByteArray} (hl : AscN l) (hm : AscN m) (h : ∀ x, x ∈ l ↔ x ∈ m) : l = m := asc_uniq ltN_irr ltN_tr hl hm h
theorem AscN.nodup {l : List ByteArray} (h : AscN l) : l.Nodup := List.Pairwise.imp (S := fun a b => a ≠ b) (fun {a b} (hxy : ltN a b) (e : a = b) => ltN_irr b (by rw [e] at hxy; exact hxy)) h
theorem asc_sort {l : List (List UInt8)} (hn : l.Nodup) : ((l.mergeSort fun x y => decide (x ≤ y)).map (fun x => (⟨x.toArray⟩ : ByteArray))).Pairwise ltN := by
 rw [List.pairwise_map]
 have hs : (l.mergeSort fun x y => decide (x ≤ y)).Pairwise (fun x y => decide (x ≤ y) = true) := List.pairwise_mergeSort (fun a b c h1 h2 => by
   rw [decide_eq_true_eq] at *
   exact List.le_trans h1 h2) (fun a b => by
   rcases List.le_total a b with h | h <;> simp [h]) l
 have hnd : (l.mergeSort fun x y => decide (x ≤ y)).Nodup := (List.mergeSort_perm l _).nodup_iff.2 hn
 refine (hs.and hnd).imp (fun {a b} h => ?_)
 obtain ⟨h1, h2⟩ := h
 rw [decide_eq_true_eq] at h1
 show a < b
 by_cases hab : a < b
 ·exact hab
 ·exact (h2 (List.le_antisymm h1 (List.not_lt.1 hab))).elim
theorem mem_sort {l : List (List UInt8)} {x : ByteArray} : x ∈ (l.mergeSort fun x y => decide (x ≤ y)).map (fun x => (⟨x.toArray⟩ : ByteArray)) ↔ x.data.toList ∈ l := by
 rw [List.mem_map]
 constructor
 ·rintro ⟨y, hy, rfl⟩; exact (List.mergeSort_perm l _).mem_iff.1 hy
 ·intro h; exact ⟨x.data.toList, (List.mergeSort_perm l _).mem_iff.2 h, by simp⟩
end Go.Proofs.YtpmnnoopoblpgaaGreat

/- What a walk along citations comes to: the set that a search in depth collects. No program is named. -/
namespace Go.Proofs.YtpmnnoopoblpgaaGreat

theorem nodupLe {α : Type} [DecidableEq α] : ∀ {l m : List α}, l.Nodup → (∀ x ∈ l, x ∈ m) → l.length ≤ m.length
 | [], _, _, _ => Nat.zero_le _
 | x :: l, m, hn, hs => by
  rw [List.nodup_cons] at hn
  have hx : x ∈ m := hs x (by simp)
  have := nodupLe (l := l) (m := m.erase x) hn.2 (fun y hy => (List.mem_erase_of_ne (fun e => hn.1 (by rw [← e]; exact hy))).2 (hs y (by simp [hy])))
  rw [List.length_erase_of_mem hx] at this
  have := List.length_pos_of_mem hx
  rw [List.length_cons]
  omega
def allUses (l : List Ent) : List ByteArray := l.flatMap eUses
theorem usesN_sub {l : List Ent} {n u : ByteArray} (h : u ∈ usesN l n) : u ∈ allUses l := by
 unfold usesN at h
 cases e : atN l n with
 | none => rw [e] at h; cases h
 | some i =>
  rw [e] at h
  obtain ⟨hi, -⟩ := atN_some e
  simp only [List.getD_eq_getElem?_getD, List.getElem?_eq_getElem hi, Option.getD_some] at h
  exact List.mem_flatMap.2 ⟨l[i], List.getElem_mem hi, h⟩
theorem flatMap_len {l : List Ent} {m : Nat} (h : ∀ x ∈ l, (eUses x).length ≤ m) : (allUses l).length ≤ l.length * m := by
 induction l with
 | nil => simp [allUses]
 | cons x r ih =>
  have h1 := ih (fun y hy => h y (by simp [hy]))
  have h2 := h x (by simp)
  unfold allUses at h1 ⊢
  rw [List.flatMap_cons, List.length_append, List.length_cons, Nat.succ_mul]
  omega
theorem allUses_len {s : Sg} {l : List Ent} (h : okLib s l = true) : (allUses l).length ≤ 720 := by
 unfold okLib at h
 simp only [Bool.and_eq_true, decide_eq_true_eq, List.all_eq_true] at h
 obtain ⟨-, h60, ha, -⟩ := h
 have := flatMap_len (l := l) (m := 12) (fun x hx => by
  have := ha x hx
  unfold okEnt at this
  simp only [Bool.and_eq_true, decide_eq_true_eq] at this
  exact this.2.1.1)
 omega
structure WkAt (us : ByteArray → List ByteArray) (may : ByteArray → Bool) (U : List ByteArray) (n : ByteArray) (k : Nat) (D D' : List ByteArray) : Prop where
 sub : ∀ u ∈ D, u ∈ D'
 nd : D'.Nodup
 U : ∀ u ∈ D', u ∈ U
 rch : ∀ u ∈ D', u ∉ D → Rch us (fun x => may x = true) n u
 cls0 : ∀ u ∈ (us n).take k, may u = true → u ∈ D'
 cls1 : ∀ m ∈ D', m ∉ D → ∀ u ∈ us m, may u = true → u ∈ D'
section
variable {us : ByteArray → List ByteArray} {may : ByteArray → Bool} {U D D1 D2 : List ByteArray} {n : ByteArray} {k : Nat}
theorem WkAt.start (hn : D.Nodup) (hU : ∀ u ∈ D, u ∈ U) : WkAt us may U n 0 D D := ⟨fun _ h => h, hn, hU, fun _ h h' => (h' h).elim, fun u h => by simp at h, fun _ h h' => (h' h).elim⟩
theorem take_mem {l : List ByteArray} {k : Nat} (hk : k < l.length) {u : ByteArray} (h : u ∈ l.take (k + 1)) : u ∈ l.take k ∨ u = l[k] := by
 rw [List.take_succ_eq_append_getElem hk, List.mem_append, List.mem_singleton] at h
 exact h
theorem WkAt.skip (h : WkAt us may U n k D D1) (hk : k < (us n).length) (hs : (us n)[k] ∈ D1 ∨ may (us n)[k] = false) : WkAt us may U n (k + 1) D D1 :=
 ⟨h.sub, h.nd, h.U, h.rch, (fun u hu hm => by
  rcases take_mem hk hu with h1 | rfl
  ·exact h.cls0 u h1 hm
  ·rcases hs with h2 | h2
   ·exact h2
   ·rw [h2] at hm; cases hm), h.cls1⟩
theorem WkAt.put (h : WkAt us may U n k D D1) (hk : k < (us n).length) (hno : (us n)[k]'hk ∉ D1) (hin : (us n)[k]'hk ∈ U) : (D1 ++ [(us n)[k]'hk]).Nodup ∧ (∀ u ∈ D1 ++ [(us n)[k]'hk], u ∈ U) ∧ D1.length + 1 ≤ U.length := by
 have hn : (D1 ++ [(us n)[k]'hk]).Nodup := by
  rw [List.nodup_append]
  exact ⟨h.nd, by simp, fun a ha b hb e => hno (by rw [List.mem_singleton] at hb; rw [← hb, ← e]; exact ha)⟩
 have hU : ∀ u ∈ D1 ++ [(us n)[k]'hk], u ∈ U := fun u hu => by
  rcases List.mem_append.1 hu with h1 | h1
  ·exact h.U u h1
  ·rw [List.mem_singleton] at h1; rw [h1]; exact hin
 have := nodupLe hn hU
 rw [List.length_append] at this
 exact ⟨hn, hU, by simpa using this⟩
theorem WkAt.deep (h : WkAt us may U n k D D1) (hk : k < (us n).length) (_ : (us n)[k] ∉ D1) (hm : may (us n)[k] = true)
  (h2 : WkAt us may U (us n)[k] (us (us n)[k]).length (D1 ++ [(us n)[k]]) D2) : WkAt us may U n (k + 1) D D2 := by
 have hsub : ∀ u ∈ D1, u ∈ D2 := fun u hu => h2.sub u (List.mem_append_left _ hu)
 have hx : (us n)[k] ∈ D2 := h2.sub _ (by simp)
 have h1 : Rch us (fun x => may x = true) n (us n)[k] := .one (List.getElem_mem hk) hm
 refine ⟨fun u hu => hsub u (h.sub u hu), h2.nd, h2.U, fun u hu hd => ?_, fun u hu hmu => ?_, fun m hmm hd u hu hmu => ?_⟩
 ·by_cases e1 : u ∈ D1
  ·exact h.rch u e1 hd
  ·by_cases e2 : u = (us n)[k]
   ·rw [e2]; exact h1
   ·exact h1.trans (h2.rch u hu (fun e => by rcases List.mem_append.1 e with e | e; exact e1 e; exact e2 (List.mem_singleton.1 e)))
 ·rcases take_mem hk hu with e | rfl
  ·exact hsub u (h.cls0 u e hmu)
  ·exact hx
 ·by_cases e1 : m ∈ D1
  ·exact hsub u (h.cls1 m e1 hd u hu hmu)
  ·by_cases e2 : m = (us n)[k]
   ·rw [e2] at hu
    exact h2.cls0 u (by rw [List.take_length]; exact hu) hmu
   ·exact h2.cls1 m hmm (fun e => by rcases List.mem_append.1 e with e | e; exact e1 e; exact e2 (List.mem_singleton.1 e)) u hu hmu
theorem WkAt.all (h : WkAt us may U n (us n).length [] D1) (u : ByteArray) : u ∈ D1 ↔ Rch us (fun x => may x = true) n u := by
 constructor
 ·intro hu; exact h.rch u hu (by simp)
 ·intro hr
  refine Rch.closed (S := fun x => x ∈ D1) (fun u hu hm => h.cls0 u (by rw [List.take_length]; exact hu) hm) (fun m hm u hu hmu => h.cls1 m hm (by simp) u hu hmu) hr
end
open Classical in
noncomputable def rchB (l : List Ent) (may : ByteArray → Bool) (n u : ByteArray) : Bool := decide (Rch (usesN l) (fun x => may x = true) n u)
theorem rchB_iff {l : List Ent} {may : ByteArray → Bool} {n u : ByteArray} : rchB l may n u = true ↔ Rch (usesN l) (fun x => may x = true) n u := by unfold rchB; simp
theorem WkAt.test {l : List Ent} {may : ByteArray → Bool} {U D1 : List ByteArray} {n : ByteArray} (h : WkAt (usesN l) may U n (usesN l n).length [] D1) : memB D1 = rchB l may n := by
 funext u
 rw [Bool.eq_iff_iff, memB_iff, rchB_iff]
 exact h.all u
end Go.Proofs.YtpmnnoopoblpgaaGreat

/- Circles in plain words: the least circle of a library, how it is come to. No program is named. -/
namespace Go.Proofs.YtpmnnoopoblpgaaGreat

theorem bs_inj {x y : ByteArray} (h : x.data.toList = y.data.toList) : x = y := ByteArray.ext (Array.toList_inj.1 h)
theorem ltN_tri (x y : ByteArray) : ltN x y ∨ x = y ∨ ltN y x := by
 unfold ltN
 by_cases h1 : x.data.toList < y.data.toList
 ·exact .inl h1
 ·by_cases h2 : y.data.toList < x.data.toList
  ·exact .inr (.inr h2)
  ·exact .inr (.inl (bs_inj (List.le_antisymm (List.not_lt.1 h2) (List.not_lt.1 h1))))
def ltB (x y : ByteArray) : Bool := decide (x.data.toList < y.data.toList)
theorem ltB_iff {x y : ByteArray} : ltB x y = true ↔ ltN x y := by unfold ltB ltN; simp
def geB (first n : ByteArray) : Bool := !ltB n first
def freeB (first : ByteArray) (out : List ByteArray) (n : ByteArray) : Bool := decide (n = first) || (ltB first n && !memB out n)
def wioB (first : ByteArray) (out : List ByteArray) (name n : ByteArray) : Bool := !decide (n = name) && freeB first out n
noncomputable def loopB (l : List Ent) (x : ByteArray) : Bool := rchB l (geB x) x x
noncomputable def candB (l : List Ent) (first : ByteArray) (out : List ByteArray) (u : ByteArray) : Bool := !decide (u = first) && (freeB first out u && rchB l (wioB first out u) u first)
inductive CircS (l : List Ent) (first : ByteArray) : List ByteArray → ByteArray → List ByteArray → Prop
 | stop {out : List ByteArray} {now : ByteArray} : first ∈ usesN l now → CircS l first out now out
 | step {out C : List ByteArray} {now nx : ByteArray} : first ∉ usesN l now → nx ∈ usesN l now → candB l first out nx = true → (∀ u ∈ usesN l now, candB l first out u = true → u = nx ∨ ltN nx u) →
   CircS l first (out ++ [nx]) nx C → CircS l first out now C
theorem CircS.det {l : List Ent} {first : ByteArray} {out C C' : List ByteArray} {now : ByteArray} (h : CircS l first out now C) (k : CircS l first out now C') : C = C' := by
 induction h generalizing C' with
 | stop h1 => cases k with
  | stop => rfl
  | step h2 => exact (h2 h1).elim
 | step h1 h2 h3 h4 _ ih => cases k with
  | stop h5 => exact (h1 h5).elim
  | step k1 k2 k3 k4 k5 =>
   rename_i nx _ nx'
   have e : nx = nx' := by
    rcases k4 _ h2 h3 with e | e
    ·exact e
    ·rcases h4 _ k2 k3 with e' | e'
     ·exact e'.symm
     ·exact (ltN_irr _ (ltN_tr _ _ _ e e')).elim
   subst e
   exact ih k5
def CircR (l : List Ent) : Option (List ByteArray) → Prop
 | none => ∀ x ∈ l.map eNm, loopB l x = false
 | some C => ∃ first ∈ l.map eNm, loopB l first = true ∧ (∀ x ∈ l.map eNm, ltN x first → loopB l x = false) ∧ CircS l first [first] first C
theorem CircR.det {l : List Ent} {c c' : Option (List ByteArray)} (h : CircR l c) (k : CircR l c') : c = c' := by
 cases c with
 | none => cases c' with
  | none => rfl
  | some C =>
   obtain ⟨f, h1, h2, -⟩ := k
   rw [h f h1] at h2
   cases h2
 | some C =>
  obtain ⟨f, h1, h2, h3, h4⟩ := h
  cases c' with
  | none => rw [k f h1] at h2; cases h2
  | some C' =>
   obtain ⟨f', k1, k2, k3, k4⟩ := k
   have e : f = f' := by
    rcases ltN_tri f f' with e | e | e
    ·rw [k3 f h1 e] at h2; cases h2
    ·exact e
    ·rw [h3 f' k1 e] at k2; cases k2
   subst e
   rw [h4.det k4]
theorem Rch.leave {us : ByteArray → List ByteArray} {may : ByteArray → Prop} {u x : ByteArray} (h : Rch us may u x) (hx : x ≠ u) : Rch us (fun n => n ≠ u ∧ may n) u x := by
 induction h with
 | one h1 h2 => exact .one h1 ⟨hx, h2⟩
 | more h0 h1 h2 ih =>
  rename_i m x
  by_cases e : m = u
  ·subst e; exact .one h1 ⟨hx, h2⟩
  ·exact (ih e).more h1 ⟨hx, h2⟩
theorem Rch.mono {us : ByteArray → List ByteArray} {may may' : ByteArray → Prop} {u x : ByteArray} (hm : ∀ n, may n → may' n) (h : Rch us may u x) : Rch us may' u x := by
 induction h with
 | one h1 h2 => exact .one h1 (hm _ h2)
 | more _ h1 h2 ih => exact ih.more h1 (hm _ h2)
theorem Rch.head {us : ByteArray → List ByteArray} {may : ByteArray → Prop} {n x : ByteArray} (h : Rch us may n x) : ∃ u ∈ us n, may u ∧ (u = x ∨ Rch us may u x) := by
 induction h with
 | one h1 h2 => exact ⟨_, h1, h2, .inl rfl⟩
 | more _ h1 h2 ih =>
  obtain ⟨u, hu, hm, hr⟩ := ih
  rcases hr with rfl | hr
  ·exact ⟨u, hu, hm, .inr (.one h1 h2)⟩
  ·exact ⟨u, hu, hm, .inr (hr.more h1 h2)⟩
theorem cand_ex {l : List Ent} {first : ByteArray} {out : List ByteArray} {now : ByteArray} (h : Rch (usesN l) (fun x => freeB first out x = true) now first) (hno : first ∉ usesN l now) : ∃ u ∈ usesN l now, candB l first out u = true := by
 obtain ⟨u, hu, hm, hr⟩ := h.head
 have hne : u ≠ first := fun e => hno (by rw [← e]; exact hu)
 rcases hr with e | hr
 ·exact (hne e).elim
 ·refine ⟨u, hu, ?_⟩
  unfold candB
  rw [Bool.and_eq_true, Bool.and_eq_true]
  refine ⟨by simp [hne], hm, rchB_iff.2 ((hr.leave (fun e => hne e.symm)).mono fun n hn => ?_)⟩
  unfold wioB
  simp [hn.1, hn.2]
theorem cand_on {l : List Ent} {first : ByteArray} {out : List ByteArray} {u : ByteArray} (h : candB l first out u = true) : Rch (usesN l) (fun x => freeB first (out ++ [u]) x = true) u first := by
 unfold candB at h
 rw [Bool.and_eq_true, Bool.and_eq_true, rchB_iff] at h
 refine h.2.2.mono fun n hn => ?_
 unfold wioB freeB memB at hn
 unfold freeB memB
 simp only [Bool.and_eq_true, Bool.or_eq_true, Bool.not_eq_true', decide_eq_true_eq, decide_eq_false_iff_not, List.any_append, List.any_cons, List.any_nil, Bool.or_false, Bool.or_eq_false_iff] at hn ⊢
 rcases hn.2 with e | e
 ·exact .inl e
 ·exact .inr ⟨e.1, e.2, fun e' => hn.1 e'.symm⟩
theorem loop_start {l : List Ent} {x : ByteArray} (h : loopB l x = true) : Rch (usesN l) (fun n => freeB x [x] n = true) x x := by
 unfold loopB at h
 rw [rchB_iff] at h
 refine h.mono fun n hn => ?_
 unfold geB at hn
 unfold freeB memB
 simp only [Bool.not_eq_true', List.any_cons, List.any_nil, Bool.or_false, Bool.or_eq_true, decide_eq_true_eq, Bool.and_eq_true, decide_eq_false_iff_not] at hn ⊢
 rcases ltN_tri n x with e | e | e
 ·rw [ltB_iff.2 e] at hn; cases hn
 ·exact .inl e
 ·by_cases e' : n = x
  ·exact .inl e'
  ·exact .inr ⟨ltB_iff.2 e, fun h => e' h.symm⟩
end Go.Proofs.YtpmnnoopoblpgaaGreat

/- What the proof of an entry says, and whether the entry holds, in plain words. No program is named. -/
namespace Go.Proofs.YtpmnnoopoblpgaaGreat

def inAll (l : List Ent) (us : List ByteArray) : Bool := us.all (fun u => (atN l u).isSome)
def givF (l : List Ent) (us : List ByteArray) : List (List Int) := us.map (fun u => eSays (l.getD ((atN l u).getD 0) default))
noncomputable def strX (s : Sg) (l : List Ent) (i : Nat) : Option (List Int) :=
 if ePf (l.getD i default) = [] then some (eSays (l.getD i default))
 else if inAll l (eUses (l.getD i default)) = true then (if (saysE s (givF l (eUses (l.getD i default))) (ePf (l.getD i default))).2 = 0 then some (saysE s (givF l (eUses (l.getD i default))) (ePf (l.getD i default))).1 else none)
 else none
noncomputable def holdX (s : Sg) (l : List Ent) (i : Nat) : Bool := match strX s l i with
 | some t => okT s t && okT s (eSays (l.getD i default)) && instB s t (eSays (l.getD i default))
 | none => false
theorem getD_at {l : List Ent} {i : Nat} (hi : i < l.length) : l.getD i default = l[i] := by simp [List.getElem?_eq_getElem hi]
theorem inAll_take {l : List Ent} {us : List ByteArray} {k : Nat} (hk : k < us.length) : inAll l (us.take (k + 1)) = (inAll l (us.take k) && (atN l us[k]).isSome) := by
 unfold inAll
 rw [List.take_succ_eq_append_getElem hk, List.all_append]; simp
theorem inAll_bad {l : List Ent} {us : List ByteArray} {k : Nat} (hk : k < us.length) (h : atN l us[k] = none) : inAll l us = false := by
 unfold inAll
 rw [List.all_eq_false]
 exact ⟨us[k], List.getElem_mem hk, by rw [h]; simp⟩
theorem givF_take {l : List Ent} {us : List ByteArray} {k i : Nat} (hk : k < us.length) (h : atN l us[k] = some i) (hi : i < l.length) : givF l (us.take (k + 1)) = givF l (us.take k) ++ [eSays l[i]] := by
 unfold givF
 rw [List.take_succ_eq_append_getElem hk, List.map_append, List.map_cons, List.map_nil, h, Option.getD_some, getD_at hi]
theorem givF_len (l : List Ent) (us : List ByteArray) : (givF l us).length = us.length := by unfold givF; rw [List.length_map]
def chB (l : List Ent) (pd : Nat → Bool) (x : ByteArray) : Bool := (List.range l.length).any (fun i => pd i && decide (eNm (l.getD i default) = x))
def chT (l : List Ent) (pd : Nat → Bool) (k : Nat) : List ByteArray := ((List.range k).filter pd).map (fun i => eNm (l.getD i default))
theorem chT_succ {l : List Ent} {pd : Nat → Bool} {k : Nat} (hk : k < l.length) : chT l pd (k + 1) = if pd k = true then chT l pd k ++ [eNm l[k]] else chT l pd k := by
 unfold chT
 rw [List.range_succ, List.filter_append, List.map_append]
 by_cases h : pd k = true
 ·rw [if_pos h, List.filter_cons_of_pos h]; simp [List.getElem?_eq_getElem hk]
 ·rw [if_neg h, List.filter_cons_of_neg h]; simp
theorem chT_len (l : List Ent) (pd : Nat → Bool) (k : Nat) : (chT l pd k).length ≤ k := by
 unfold chT
 rw [List.length_map]
 exact Nat.le_trans (List.length_filter_le _ _) (by simp)
theorem chT_mem {l : List Ent} {pd : Nat → Bool} {x : ByteArray} : x ∈ chT l pd l.length ↔ chB l pd x = true := by
 unfold chT chB
 rw [List.mem_map, List.any_eq_true]
 constructor
 ·rintro ⟨i, hi, rfl⟩
  rw [List.mem_filter] at hi
  exact ⟨i, hi.1, by simp [hi.2]⟩
 ·rintro ⟨i, hi, h⟩
  rw [Bool.and_eq_true, decide_eq_true_eq] at h
  exact ⟨i, List.mem_filter.2 ⟨hi, h.1⟩, h.2⟩
theorem chB_iff {l : List Ent} {pd : Nat → Bool} {x : ByteArray} : chB l pd x = true ↔ ∃ i, ∃ hi : i < l.length, pd i = true ∧ eNm l[i] = x := by
 unfold chB
 rw [List.any_eq_true]
 constructor
 ·rintro ⟨i, hi, h⟩
  rw [List.mem_range] at hi
  rw [Bool.and_eq_true, decide_eq_true_eq, getD_at hi] at h
  exact ⟨i, hi, h⟩
 ·rintro ⟨i, hi, h⟩
  exact ⟨i, List.mem_range.2 hi, by rw [getD_at hi]; simp [h]⟩
theorem chT_nodup {l : List Ent} {pd : Nat → Bool} (hd : (l.map eNm).Nodup) : (chT l pd l.length).Nodup := by
 unfold chT
 have e : ((List.range l.length).map (fun i => eNm (l.getD i default))) = l.map eNm := by
  apply List.ext_getElem
  ·simp
  ·intro i h1 h2
   simp at h1
   simp [List.getElem?_eq_getElem h1]
 have : List.Sublist (((List.range l.length).filter pd).map (fun i => eNm (l.getD i default))) (l.map eNm) := by
  rw [← e]
  exact List.filter_sublist.map _
 exact this.nodup hd
end Go.Proofs.YtpmnnoopoblpgaaGreat

/- The names of a set, sorted; a list of names, sorted. -/
namespace Go.Proofs.YtpmnnoopoblpgaaGreat
open Go Go.RowKit Go.Maps Go.Sort Go.Shelf

theorem strs_rows {l : List ByteArray} {xs : List (List Value)} {T : Nat → Prop} {w : World} (hl : xs.length = l.length) (hx : ∀ i (h1 : i < xs.length) (h2 : i < l.length), strE.R T w xs[i] l[i]) : xs = l.map (fun x => [.string x]) ∧ ∀ x ∈ l, x.size ≤ big := by
 constructor
 ·apply List.ext_getElem (by simpa using hl)
  intro i h1 h2
  rw [List.getElem_map]
  exact (hx i h1 (by omega)).1
 ·intro x hxl
  obtain ⟨i, hi, rfl⟩ := List.getElem_of_mem hxl
  exact (hx i (by omega) hi).2
theorem flatten_singleS (l : List ByteArray) : (l.map (fun x => [Value.string x])).flatten = l.map Value.string := by
 induction l with
 | nil => rfl
 | cons x r ih => simp [ih]
theorem OwnS.row {w : World} {base : Nat} {v : Value} {l : List ByteArray} (h : OwnS w base v l) : w.ownsRow base 9 1 v l.length (l.map .string) ∧ ∀ x ∈ l, x.size ≤ big := by
 obtain ⟨xs, ho, hl, hx⟩ := h
 obtain ⟨rfl, hr⟩ := strs_rows hl hx
 rw [flatten_singleS] at ho
 exact ⟨ho, hr⟩
theorem OwnS.of_row {w : World} {base : Nat} {v : Value} {l : List ByteArray} (h : w.ownsRow base 9 1 v l.length (l.map .string)) (hr : ∀ x ∈ l, x.size ≤ big) : OwnS w base v l :=
 ⟨l.map (fun x => [.string x]), by rw [flatten_singleS]; exact h, by simp, fun i h1 h2 => ⟨by simp, hr _ (List.getElem_mem h2)⟩⟩
abbrev bs (x : ByteArray) : List UInt8 := x.data.toList
def nmOf (x : List UInt8) : ByteArray := ⟨x.toArray⟩
theorem nmOf_bs (x : ByteArray) : nmOf (bs x) = x := by unfold nmOf bs; simp
theorem bs_nmOf (x : List UInt8) : bs (nmOf x) = x := by unfold nmOf bs; simp
theorem map_encStr (L : List (List UInt8)) : L.map encStr = (L.map nmOf).map Value.string := by
 rw [List.map_map]; rfl
theorem strKeys_set {H : Type} {P : Program} {k : TypeId} {R : Value → Option (DataW H × List MemPlace)} {w : World} {b n : Nat} {D0 : DataW H} (hown : w.ownsMap P k R b n D0) (K : Keyed P k) (hk : P.underlying k = some .string) :
  (strKeys D0).Nodup ∧ ∀ x, x ∈ strKeys D0 ↔ has D0 (.string x) = true := by
 obtain ⟨es, hD, hpw, _⟩ := hown.entries K
 obtain ⟨es', hD', hko⟩ := hown.keysOf
 obtain rfl : es = es' := by rw [hD] at hD'; simpa using hD'
 subst hD
 have hs : ∀ p ∈ es, ∃ x, p.1 = .string x := fun p hp => by obtain ⟨v, hv⟩ := hko p hp; obtain ⟨x, _, hx, _⟩ := Maps.keyOf_str hk hv; exact ⟨x, hx⟩
 constructor
 ·show (es.map fun p => strOf p.1).Nodup
  refine List.pairwise_map.2 (hpw.imp_of_mem fun {p q} hp' hq' hne e => hne ?_)
  obtain ⟨a, ha⟩ := hs p hp'
  obtain ⟨b, hb⟩ := hs q hq'
  rw [ha, hb] at e ⊢
  exact congrArg _ e
 ·intro x
  rw [has_eq, List.any_eq_true]
  show x ∈ (es.map fun p => strOf p.1) ↔ _
  rw [List.mem_map]
  constructor
  ·rintro ⟨p, hp', rfl⟩
   obtain ⟨a, ha⟩ := hs p hp'
   exact ⟨p, hp', by rw [ha]; simp [Lit.sameKey, strOf]⟩
  ·rintro ⟨p, hp', hss⟩
   obtain ⟨a, ha⟩ := hs p hp'
   rw [ha] at hss
   exact ⟨p, hp', by rw [ha]; simpa [Lit.sameKey, strOf] using hss⟩
theorem sort_names {ss ks : List (List UInt8)} (hS : ss.Perm ks) (hn : ks.Nodup) : AscN ((ss.mergeSort fun x y => decide (x ≤ y)).map nmOf) ∧ ∀ x : ByteArray, x ∈ (ss.mergeSort fun x y => decide (x ≤ y)).map nmOf ↔ bs x ∈ ks :=
 ⟨asc_sort (hS.nodup_iff.2 hn), fun _ => mem_sort.trans hS.mem_iff⟩
theorem sortsIn_any (m : Nat) : AnyZ.SortsIn Tryz.prog shSortedS_ren Fence.wide m :=
 ⟨fun blk off cap ss W hH hblk hsz => callsIn_wide.2 (Any.slices_Sort_string shSortS blk off cap ss W hH hblk hsz),
  fun p cap W => callsIn_wide.2 (Any.slices_Sort_string_none shSortS p cap W)⟩
def SortedOut (w : World) (D : ByteArray → Bool) (e : Ending) (w' : World) : Prop := ∃ v L, e = .returned v ∧ OwnS w' w.heap.size v L ∧ AscN L ∧ (∀ x, x ∈ L ↔ D x = true) ∧ Below w.heap.size w w'
set_option maxHeartbeats 1000000 in
theorem sortedOf {g : FuncId} {H : Type} {R : Value → Option (DataW H × List MemPlace)} {D0 : DataW H} {w : World} {b nn mt : Nat} (hown : w.ownsMap Tryz.prog 9 R b nn D0) (hn : Maps.size D0 ≤ 1000000)
  (hseq : SeqGives Fence.wide 2 Tryz.prog g #[.pointer (some ⟨w.heap.size, 0, none⟩)] encStr (fun ss => ss.Perm (strKeys D0)) (Maps.size D0) (w.alloc (.cells #[.map (some b)] mt)))
  (eg : ∀ args w, (callFunc g args).run Tryz.prog w = .ok (.enter g args) w) :
  Calls Tryz.prog 138 #[.func (.func g) #[] #[.pointer (some ⟨w.heap.size, 0, none⟩)]] (w.alloc (.cells #[.map (some b)] mt)) (SortedOut w (fun x => has D0 (.string (bs x)))) := by
 obtain ⟨hnd, hmem⟩ := strKeys_set hown (string_keyed Tryz.underlying9) Tryz.underlying9
 have hc := AnyZ.sorted_in shSortedS Fence.wide 5 trivial trivial trivial trivial rfl (by omega) (sortsIn_any _) (enters_of Tryz.func122 (by kernel_rfl) rfl) g #[.pointer (some ⟨w.heap.size, 0, none⟩)] trivial eg _ _ (by unfold maxLen; omega) (by omega) _ hseq
 refine (callsIn_wide.1 hc).mono ?_
 rintro e w' ⟨v, ss, rfl, hS, hrow, hnil, hb⟩
 obtain ⟨h1, h2⟩ := sort_names hS hnd
 have hsz : ∀ x ∈ strKeys D0, x.length ≤ maxLen := strKeys_le hown Tryz.underlying9
 refine ⟨v, _, rfl, OwnS.of_row ?_ ?_, h1, fun x => (h2 x).trans (hmem _), ?_⟩
 ·rw [List.length_map, List.length_mergeSort, ← map_encStr]
  exact ownsRow_base_a hrow (by simp)
 ·intro x hx
  have := hsz _ ((h2 x).1 hx)
  show x.size ≤ big
  have e : (bs x).length = x.size := ba_lenD x
  rw [e] at this
  unfold maxLen at this
  unfold big
  omega
 ·exact ((Below.refl _ w).alloc (Nat.le_refl _) _).trans (hb.mono (by simp))
theorem keysI_seq {w : World} {b nn : Nat} {H : Type} {R : Value → Option (DataW H × List MemPlace)} {D0 : DataW H} (hown : w.ownsMap Tryz.prog 9 R b nn D0) :
  SeqGives Fence.wide 2 Tryz.prog 187 #[.pointer (some ⟨w.heap.size, 0, none⟩)] encStr (fun ss => ss.Perm (strKeys D0)) (Maps.size D0) (w.alloc (.cells #[.map (some b)] 68)) := by
 have hbl := hown.lt
 exact AnyZ.keys_gives (ρ := shKeysI_ren) { shKeysI with } Fence.wide _ trivial rfl (by omega) w.heap.size b nn D0 _ (by simp) (by simp) (by
   obtain ⟨es, clock, hb, Ft, hs, hD⟩ := hown
   exact ⟨es, clock, (Below.heap_alloc _ _ b hbl).trans hb, Ft, hs, hD⟩)
theorem keysI_call (mb : Option Nat) (W : World) : Calls Tryz.prog 157 #[.map mb] W fun e w' => e = .returned (.func (.func 187) #[] #[.pointer (some ⟨W.heap.size, 0, none⟩)]) ∧ w' = W.alloc (.cells #[.map mb] 68) :=
 callsIn_wide.1 (AnyZ.keys_in shKeysI Fence.wide 5 trivial rfl mb W)
theorem below_growS {B : Nat} {w0 w : World} (h : Below B w0 w) (hB : B ≤ w.heap.size) (os : Array Obj) : Below B w0 (Go.Sort.grow w os) :=
 ⟨h.os, h.tape, h.output, by simpa [Go.Sort.grow] using Nat.le_trans h.size (Nat.le_add_right _ _), fun k hk => by
  rw [← h.block k hk]
  simp only [Go.Sort.grow]
  rw [Array.getElem?_append_left (by omega)]⟩
theorem ownsRow_growS {w : World} {base : Nat} {e : TypeId} {v : Value} {n : Nat} {xs : List Value} (h : w.ownsRow base e 1 v n xs) (os : Array Obj) : (Go.Sort.grow w os).ownsRow base e 1 v n xs := by
 refine ⟨h.1, ?_⟩
 rcases h.2 with h2 | ⟨g, cap, cur, e0, hb, hg, rest⟩
 ·exact .inl h2
 ·refine .inr ⟨g, cap, cur, e0, hb, ?_, rest⟩
  simp only [Go.Sort.grow]
  rw [Array.getElem?_append_left (Array.getElem?_eq_some_iff.1 hg).1]; exact hg
theorem sortS_any {w : World} {base : Nat} {v : Value} {l : List ByteArray} (h : OwnS w base v l) (hl : l.length ≤ 1000000) (hb : base ≤ w.heap.size) :
  Calls Tryz.prog 122 #[v] w fun e w' => e = .returned (.tuple #[]) ∧ OwnS w' base v (((l.map bs).mergeSort fun x y => decide (x ≤ y)).map nmOf) ∧ Below base w w' := by
 obtain ⟨ho, hr⟩ := OwnS.row h
 by_cases hv : v = .slice none 0 0
 ·subst hv
  have h0 : l = [] := by
   rcases ho.2 with ⟨_, h0⟩ | ⟨g, cap, cur, e, -⟩
   ·exact List.length_eq_zero_iff.1 h0
   ·simp at e
  subst h0
  refine (Any.slices_Sort_string_none shSortS none 0 w).mono ?_
  rintro e w' ⟨rfl, rfl⟩
  exact ⟨rfl, by simpa using h, Below.refl _ _⟩
 ·have ho2 : w.ownsRow base 9 1 v (l.map bs).length ((l.map bs).map encStr) := by
   rw [List.length_map, map_encStr, show (l.map bs).map nmOf = l by rw [List.map_map, show (nmOf ∘ bs) = id from funext nmOf_bs, List.map_id]]; exact ho
  obtain ⟨g, cap, rfl, hg, hlt, hn, hm, hll, hH⟩ := Lib.holds_of_ownsRow ho2 hv
  have hc := Any.slices_Sort_string shSortS g 0 cap (l.map bs) w hH hlt (by rw [List.length_map]; omega)
  rw [List.length_map] at hc
  rw [List.length_map] at ho2 ⊢
  refine hc.mono ?_
  rintro e w' ⟨rfl, n, os, rfl⟩
  have hml : ((l.map bs).mergeSort fun x y => decide (x ≤ y)).length = l.length := by rw [List.length_mergeSort, List.length_map]
  have hp := Lib.ownsRow_putRow (q := n) (k := l.length) (ys := (l.map bs).mergeSort fun x y => decide (x ≤ y)) ho2 hml (Nat.le_refl _)
  rw [List.take_of_length_le (by omega)] at hp
  have hbb := Lib.below_putRow (enc := encStr) (q := n) (d := ((l.map bs).mergeSort fun x y => decide (x ≤ y)).toArray) (Below.refl base w) hg
  refine ⟨rfl, OwnS.of_row ?_ (fun x hx => ?_), ?_⟩
  ·rw [List.length_map, hml, ← map_encStr]
   exact ownsRow_growS hp os
  ·obtain ⟨y, hy, rfl⟩ := List.mem_map.1 hx
   obtain ⟨z, hz, rfl⟩ := List.mem_map.1 (List.mem_mergeSort.1 hy)
   rw [nmOf_bs]
   exact hr z hz
  ·exact below_growS hbb (Nat.le_trans hb hbb.size) os
end Go.Proofs.YtpmnnoopoblpgaaGreat

/- Walks: named, Find, uses, axiom of the program. -/
namespace Go.Proofs.YtpmnnoopoblpgaaGreat
open Go Go.RowKit Go.Maps

structure DOp (B : Nat) (w : World) (xb : Nat) (s : Sg) (l : List Ent) (sa : Option Addr) (sc : Nat) (la : Option Addr) (lc bm : Nat) : Prop where
 le : B ≤ w.heap.size
 lt : xb < B
 ok : okLib s l = true
 q0 : w.cell? ⟨xb, 0, none⟩ = some (.slice sa s.length sc)
 q1 : w.cell? ⟨xb, 1, none⟩ = some (.slice la l.length lc)
 q2 : w.cell? ⟨xb, 2, none⟩ = some (.map (some bm))
 hb : bm < B
 hS : Sign (fun b => b < B) w sa sc s
 hL : LibL (fun b => b < B) w la lc l
 hM : AtMap w bm l
theorem DLib.op {B xb : Nat} {w : World} {s : Sg} {l : List Ent} (h : DLib B w xb s l) : ∃ sa sc la lc bm, DOp B w xb s l sa sc la lc bm := by
 obtain ⟨h1, h2, h0, sa, sc, la, lc, bm, q0, q1, q2, h3, h4, h5, h6⟩ := h
 exact ⟨sa, sc, la, lc, bm, h1, h2, h0, q0, q1, q2, h3, h4, h5, h6⟩
theorem DOp.lib {B xb : Nat} {w : World} {s : Sg} {l : List Ent} {sa : Option Addr} {sc : Nat} {la : Option Addr} {lc bm : Nat} (h : DOp B w xb s l sa sc la lc bm) : DLib B w xb s l := ⟨h.le, h.lt, h.ok, sa, sc, la, lc, bm, h.q0, h.q1, h.q2, h.hb, h.hS, h.hL, h.hM⟩
section
variable {B xb : Nat} {w w' : World} {s : Sg} {l : List Ent} {sa : Option Addr} {sc : Nat} {la : Option Addr} {lc bm : Nat}
theorem DOp.below (h : DOp B w xb s l sa sc la lc bm) (hb : Below B w w') : DOp B w' xb s l sa sc la lc bm := by
 have hA : Agree (fun b => b < B) w w' := .of_below hb (fun b h _ => h)
 obtain ⟨n, h6, h7⟩ := h.hM
 exact ⟨Nat.le_trans h.le hb.size, h.lt, h.ok, (hb.cell (p := ⟨xb, 0, none⟩) h.lt).trans h.q0, (hb.cell (p := ⟨xb, 1, none⟩) h.lt).trans h.q1, (hb.cell (p := ⟨xb, 2, none⟩) h.lt).trans h.q2, h.hb, h.hS.same hA, h.hL.same hA, n, h6, h7.below hb h.hb⟩
theorem DOp.call (h : DOp B w xb s l sa sc la lc bm) (hb : Below w.heap.size w w') : DOp B w' xb s l sa sc la lc bm := h.below (hb.mono h.le)
theorem DOp.look (h : DOp B w xb s l sa sc la lc bm) (x : ByteArray) (hx : x.size ≤ big) : (Instr.lookup 68 (.map (some bm)) (.string x) true).run Tryz.prog w = .ok (.tuple #[.int .i64 (((atN l x).getD 0 : Nat) : Int), .bool (atN l x).isSome]) w := by
 obtain ⟨n, _, hv⟩ := h.hM
 have := hv.look_ok (tm := 68) Tryz.underlying68 (zInt w) x (big_max hx)
 have e : (atV l x).getD (.int .i64 0) = .int .i64 (((atN l x).getD 0 : Nat) : Int) := by unfold atV; cases atN l x <;> rfl
 have e2 : (atV l x).isSome = (atN l x).isSome := by unfold atV; cases atN l x <;> rfl
 rw [e, e2] at this
 exact this
end
theorem usesN_none {l : List Ent} {n : ByteArray} (h : atN l n = none) : usesN l n = [] := by unfold usesN; rw [h]
theorem usesN_some {l : List Ent} {n : ByteArray} {i : Nat} (h : atN l n = some i) (hi : i < l.length) : usesN l n = eUses l[i] := by
 unfold usesN
 rw [h]
 simp only [List.getD_eq_getElem?_getD, List.getElem?_eq_getElem hi, Option.getD_some]
theorem uses_any {B xb : Nat} {w : World} {s : Sg} {l : List Ent} (h : DLib B w xb s l) (n : ByteArray) (hn : n.size ≤ big) :
  ∃ a c, Sl strE (fun b => b < B) w a c (usesN l n) ∧ ∀ W, Below B w W → Calls Tryz.prog 118 #[.pointer (some ⟨xb, 0, none⟩), .string n] W fun e w' => e = .returned (.slice a (usesN l n).length c) ∧ W = w' := by
 obtain ⟨sa, sc, la, lc, bm, hO⟩ := h.op
 cases hat : atN l n with
 | none =>
  refine ⟨none, 0, by rw [usesN_none hat]; exact Sl.empty, fun W hb => ?_⟩
  have hOW := hO.below hb
  have q2 := hOW.q2
  have hlk := hOW.look n hn
  rw [hat] at hlk
  rw [usesN_none hat]
  simp only [Option.getD_none, Option.isSome_none] at hlk
  clear hOW hO h hat hb
  go_enter Tryz.func118, Tryz.ntmps118
  go_wp2_with fail
  go_ret
  exact ⟨rfl, rfl⟩
 | some i =>
  obtain ⟨hi, -⟩ := atN_some hat
  obtain ⟨b, off, a1, c1, a2, c2, a3, c3, rfl, hbB, p0, p1, p2, p3, p4, z1, z2, hI, hU, hP⟩ := hO.hL.ent i hi
  rw [usesN_some hat hi]
  refine ⟨a2, c2, hU, fun W hb => ?_⟩
  have hOW := hO.below hb
  have q1 := hOW.q1
  have q2 := hOW.q2
  have hlk := hOW.look n hn
  rw [hat] at hlk
  simp only [Option.getD_some, Option.isSome_some] at hlk
  have p3' := (hb.cell (p := ⟨b, off + i * 5 + 3, none⟩) hbB).trans p3
  have hii : (i : Int) < (l.length : Int) := by omega
  clear hOW hO h hat hb p0 p1 p2 p3 p4 hI hU hP
  go_enter Tryz.func118, Tryz.ntmps118
  go_wp2_with fail
  go_ret
  exact ⟨rfl, rfl⟩
theorem axiom_any {B xb : Nat} {w : World} {s : Sg} {l : List Ent} (h : DLib B w xb s l) (i : Nat) (hi : i < l.length) :
  Calls Tryz.prog 108 #[.pointer (some ⟨xb, 0, none⟩), .int .i64 i] w fun e w' => e = .returned (.bool (decide (ePf l[i] = []))) ∧ w = w' := by
 obtain ⟨sa, sc, la, lc, bm, hO⟩ := h.op
 obtain ⟨b, off, a1, c1, a2, c2, a3, c3, rfl, hbB, p0, p1, p2, p3, p4, z1, z2, hI, hU, hP⟩ := hO.hL.ent i hi
 have q1 := hO.q1
 have hii : (i : Int) < (l.length : Int) := by omega
 have hm := hP.le
 have he : decide (ePf l[i] = []) = ((((ePf l[i]).length : Nat) : Int) == 0) := by rw [Bool.eq_iff_iff, decide_eq_true_eq, beq_iff_eq, ← List.length_eq_zero_iff]; omega
 rw [he]
 clear he hO h p0 p1 p2 p3 hI hU hP
 generalize (ePf l[i]).length = n at *
 go_enter Tryz.func108, Tryz.ntmps108
 go_wp2_with fail
 go_ret
 exact ⟨rfl, rfl⟩
def NamedRet (s : Sg) (l : List Ent) (n : ByteArray) (w : World) (e : Ending) (w' : World) : Prop :=
 Below w.heap.size w w' ∧ ((okLib s l = false ∧ e = .returned (.tuple #[.pointer none, .int .i64 0, .int .i64 1])) ∨ (okLib s l = true ∧ atN l n = none ∧ e = .returned (.tuple #[.pointer none, .int .i64 0, .int .i64 5])) ∨
  (okLib s l = true ∧ ∃ i xb, atN l n = some i ∧ w.heap.size ≤ xb ∧ e = .returned (.tuple #[.pointer (some ⟨xb, 0, none⟩), .int .i64 (i : Nat), .int .i64 0]) ∧ DLib w'.heap.size w' xb s l))
theorem dnamed_any {S1 S2 : Nat → Prop} (sa la : Option Addr) (sc lc : Nat) (s : Sg) (l : List Ent) (n : ByteArray) (hn : n.size ≤ big) (w : World) (h1 : Sign S1 w sa sc s) (h2 : LibL S2 w la lc l) (hl : l.length ≤ 1000) :
  Calls Tryz.prog 81 #[.slice sa s.length sc, .slice la l.length lc, .string n] w (NamedRet s l n w) := by
 have v := open_any sa la sc lc s l w h1 h2 hl
 have m := h2.le
 have m1 := h1.le
 have vH := Lib.hid v
 clear v h1 h2
 go_enter Tryz.func81, Tryz.ntmps81
 go_wp2_with fail
 refine vH.out.mono ?_
 rintro e w1 ⟨hb, h⟩
 rcases h with ⟨hok, rfl⟩ | ⟨hok, xb, hxb, rfl, hD⟩
 ·have hH := Lib.hid (And.intro hb hok)
  clear hb hok vH
  go_wp2_with fail
  go_ret3
  exact ⟨hH.out.1, .inl ⟨hH.out.2, rfl⟩⟩
 ·obtain ⟨sa', sc', la', lc', bm, hO⟩ := hD.op
  have q2 := hO.q2
  have hlk := hO.look n hn
  cases hat : atN l n with
  | none =>
   rw [hat] at hlk
   simp only [Option.getD_none, Option.isSome_none] at hlk
   have hH := Lib.hid (And.intro hb (And.intro hok hat))
   clear hb hok hat hO hD vH hxb
   go_wp2_with fail
   go_ret3
   exact ⟨hH.out.1, .inr (.inl ⟨hH.out.2.1, hH.out.2.2, rfl⟩)⟩
  | some i =>
   rw [hat] at hlk
   simp only [Option.getD_some, Option.isSome_some] at hlk
   have hH := Lib.hid (And.intro hb (And.intro hok (And.intro hat (And.intro hxb hD))))
   clear hb hok hat hO hD vH hxb
   go_wp2_with fail
   go_ret3
   exact ⟨hH.out.1, .inr (.inr ⟨hH.out.2.1, i, xb, hH.out.2.2.1, hH.out.2.2.2.1, rfl, hH.out.2.2.2.2⟩)⟩
end Go.Proofs.YtpmnnoopoblpgaaGreat

/- Walks: a copy of a library; what an entry says, set. -/
namespace Go.Proofs.YtpmnnoopoblpgaaGreat
open Go Go.RowKit Go.Maps

theorem infoEnt : (Tryz.prog.info? 37).map (fun i => (i.zero, i.size, i.bytes)) = some (some (.agg #[.string ByteArray.empty, .string ByteArray.empty, .slice none 0 0, .slice none 0 0, .slice none 0 0]), 5, 104) := by kernel_rfl
abbrev OwnE (S : Nat → Prop) (w : World) (base : Nat) (v : Value) (l : List Ent) : Prop := OwnL entE S w base 37 v l
def setSays (l : List Ent) (i : Nat) (t : List Int) : List Ent := l.set i ((l.getD i default).1, (l.getD i default).2.1, t, (l.getD i default).2.2.2)
theorem setSays_len (l : List Ent) (i : Nat) (t : List Int) : (setSays l i t).length = l.length := by unfold setSays; rw [List.length_set]
theorem setSays_self {l : List Ent} {i : Nat} {t : List Int} (hi : i < l.length) (h : i < (setSays l i t).length) : (setSays l i t)[i] = (eNm l[i], eBy l[i], t, (eUses l[i], ePf l[i])) := by
 have : (setSays l i t)[i]? = some (eNm l[i], eBy l[i], t, (eUses l[i], ePf l[i])) := by
  unfold setSays
  rw [List.getElem?_set_self (by omega)]
  simp only [List.getD_eq_getElem?_getD, List.getElem?_eq_getElem hi, Option.getD_some]
  rfl
 rw [List.getElem?_eq_getElem h] at this
 exact Option.some.inj this
theorem setSays_ne {l : List Ent} {i k : Nat} {t : List Int} (hk : k < l.length) (e : i ≠ k) (h : k < (setSays l i t).length) : (setSays l i t)[k] = l[k] := by
 have : (setSays l i t)[k]? = some l[k] := by
  unfold setSays
  rw [List.getElem?_set_ne e, List.getElem?_eq_getElem hk]
 rw [List.getElem?_eq_getElem h] at this
 exact Option.some.inj this
theorem flatten_set {xs : List (List Value)} {n i j : Nat} {v : Value} (h : ∀ x ∈ xs, x.length = n) (hi : i < xs.length) (hj : j < n) : xs.flatten.set (i * n + j) v = (xs.set i ((xs.getD i []).set j v)).flatten := by
 induction xs generalizing i with
 | nil => simp at hi
 | cons x r ih =>
  have hx := h x (by simp)
  cases i with
  | zero => simp only [Nat.zero_mul, Nat.zero_add, List.flatten_cons, List.set_cons_zero, List.getD_cons_zero]; rw [List.set_append_left _ _ (by omega)]
  | succ i =>
   simp only [List.flatten_cons, List.set_cons_succ, List.getD_cons_succ]
   rw [List.set_append_right _ _ (by rw [hx, Nat.succ_mul]; omega), hx, show (i + 1) * n + j - n = i * n + j by rw [Nat.succ_mul]; omega, ih (fun y hy => h y (by simp [hy])) (by simpa using hi)]
theorem OwnE.setSays {S : Nat → Prop} {w : World} {base g cap : Nat} {l : List Ent} (h : OwnE S w base (.slice (some ⟨g, 0, none⟩) l.length cap) l) (i : Nat) (hi : i < l.length) {a : Option Addr} {c : Nat} {t : List Int} (ht : Ints (fun b => S b ∧ b ≠ g) w a c t) :
  OwnE S (w.setCell ⟨g, i * 5 + 2, none⟩ (.slice a t.length c)) base (.slice (some ⟨g, 0, none⟩) l.length cap) (setSays l i t) ∧ w.grownBy (w.setCell ⟨g, i * 5 + 2, none⟩ (.slice a t.length c)) (some g) := by
 obtain ⟨xs, ho, hl, hx⟩ := h
 obtain ⟨h1, h2⟩ := ho.stored (i * 5 + 2) (.slice a t.length c)
 have hln : ∀ x ∈ xs, x.length = 5 := fun x hxm => by
  obtain ⟨k, hk, rfl⟩ := List.getElem_of_mem hxm
  exact entE.len (hx k hk (by omega))
 rw [flatten_set hln (by omega) (by omega)] at h1
 have hA : Agree (Off S (.slice (some ⟨g, 0, none⟩) l.length cap)) w (w.setCell ⟨g, i * 5 + 2, none⟩ (.slice a t.length c)) := .of_grown h2 (fun b hb => by have := hb.2; simpa [Value.ownBlock] using this)
 refine ⟨⟨xs.set i ((xs.getD i []).set 2 (.slice a t.length c)), ?_, by simp only [List.length_set, setSays_len]; exact hl, fun k h1 h2' => ?_⟩, h2⟩
 ·rw [setSays_len]; exact h1
 ·rw [List.length_set] at h1
  by_cases e : i = k
  ·subst e
   rw [List.getElem_set_self, setSays_self hi]
   have hr := hx i h1 hi
   simp only [List.getD_eq_getElem?_getD, List.getElem?_eq_getElem h1, Option.getD_some]
   obtain ⟨u1, t1, e0, ⟨rfl, k1⟩, u2, t2, rfl, ⟨rfl, k2⟩, u3, t3, rfl, ⟨a1, c1, rfl, k3⟩, hr4⟩ := hr
   rw [e0]
   refine ⟨[.string (eNm l[i])], _, rfl, ⟨rfl, k1⟩, [.string (eBy l[i])], _, rfl, ⟨rfl, k2⟩, [.slice a t.length c], t3, rfl, ⟨a, c, rfl, ?_⟩, ?_⟩
   ·exact ht.mono (fun b _ hb => ⟨hb.1, fun e => by simp [Value.ownBlock] at e; exact hb.2 e⟩) (.of_grown h2 (fun b hb e => hb.2 (by injection e)))
   ·exact (pairE (slE strE) (slE stpE)).mono hr4 (fun _ _ h => h) hA
  ·have hkl : k < l.length := by rw [setSays_len] at h2'; exact h2'
   rw [List.getElem_set_ne e, setSays_ne hkl e]
   exact entE.mono (hx k h1 hkl) (fun _ _ h => h) hA
end Go.Proofs.YtpmnnoopoblpgaaGreat

/- Walks: missing. -/
namespace Go.Proofs.YtpmnnoopoblpgaaGreat
open Go Go.RowKit Go.Maps

def misTo (l : List Ent) (k : Nat) (u : ByteArray) : Bool := (l.take k).any (fun x => memB (eUses x) u) && (atN l u).isNone
def misIn (l : List Ent) (k m : Nat) (u : ByteArray) : Bool := ((l.take k).any (fun x => memB (eUses x) u) || memB ((eUses (l.getD k default)).take m) u) && (atN l u).isNone
def misB (l : List Ent) (u : ByteArray) : Bool := l.any (fun x => memB (eUses x) u) && (atN l u).isNone
theorem misIn_zero (l : List Ent) (k : Nat) : misIn l k 0 = misTo l k := by funext u; unfold misIn misTo; simp [memB]
theorem misIn_all {l : List Ent} {k : Nat} (hk : k < l.length) : misIn l k (eUses l[k]).length = misTo l (k + 1) := by
 funext u
 unfold misIn misTo
 rw [List.take_succ_eq_append_getElem hk, List.any_append]
 simp [List.getElem?_eq_getElem hk]
theorem misIn_there {l : List Ent} {k m : Nat} (hk : k < l.length) (hm : m < (eUses l[k]).length) {i : Nat} (h : atN l (eUses l[k])[m] = some i) : misIn l k (m + 1) = misIn l k m := by
 funext u
 unfold misIn
 simp only [List.getD_eq_getElem?_getD, List.getElem?_eq_getElem hk, Option.getD_some]
 rw [memB_take hm]
 by_cases e : (eUses l[k])[m] = u
 ·subst e; rw [h]; simp
 ·rw [decide_eq_false e, Bool.or_false]
theorem misIn_put {l : List Ent} {k m : Nat} (hk : k < l.length) (hm : m < (eUses l[k]).length) (h : atN l (eUses l[k])[m] = none) : (fun z => if z = (eUses l[k])[m] then true else misIn l k m z) = misIn l k (m + 1) := by
 funext u
 unfold misIn
 simp only [List.getD_eq_getElem?_getD, List.getElem?_eq_getElem hk, Option.getD_some]
 rw [memB_take hm]
 by_cases e : u = (eUses l[k])[m]
 ·subst e; rw [h]; simp
 ·rw [if_neg e, decide_eq_false (fun h => e h.symm), Bool.or_false]
theorem misTo_zero (l : List Ent) : misTo l 0 = fun _ => false := by funext u; unfold misTo; simp
theorem misTo_all (l : List Ent) : misTo l l.length = misB l := by funext u; unfold misTo misB; rw [List.take_length]
def SetRet (f : ByteArray → Bool) (w : World) (e : Ending) (w' : World) : Prop := ∃ ob M m, e = .returned (.map (some ob)) ∧ w.heap.size ≤ ob ∧ M ≤ 800 ∧ m ≤ M ∧ SSet w' ob M m f ∧ Below w.heap.size w w'
def mi1Rel (l : List Ent) (w : World) (i : Value) (wr : World) : Prop := ∃ k M m : Nat, i = .int .i64 k ∧ k ≤ l.length ∧ M ≤ 12 * k ∧ m ≤ M ∧ SSet wr w.heap.size M m (misTo l k) ∧ Below w.heap.size w wr
def mi2Rel (l : List Ent) (k N : Nat) (w W0 : World) (i : Value) (wr : World) : Prop := ∃ j M m : Nat, i = .int .i64 j ∧ j ≤ N ∧ M ≤ 12 * k + j ∧ m ≤ M ∧ SSet wr w.heap.size M m (misIn l k j) ∧ Below w.heap.size w wr ∧ W0.grownBy wr (some w.heap.size)
theorem okLib_uses {s : Sg} {l : List Ent} (h : okLib s l = true) {x : Ent} (hx : x ∈ l) : (eUses x).length ≤ 12 ∧ ∀ u ∈ eUses x, u.size ≤ 16 := by
 have := (okLib_parts h).2.2.1 x hx
 unfold okEnt at this
 simp only [Bool.and_eq_true, List.all_eq_true, decide_eq_true_eq] at this
 exact ⟨this.2.1.1, fun u hu => (nameB_size (this.2.1.2.2 u hu)).2⟩
set_option maxHeartbeats 4000000 in
theorem missing_any {B xb : Nat} {w : World} {s : Sg} {l : List Ent} (h : DLib B w xb s l) : Calls Tryz.prog 83 #[.pointer (some ⟨xb, 0, none⟩)] w (SetRet (misB l) w) := by
 have hmm := @run_makeMap Tryz.prog
 obtain ⟨sa, sc, la, lc, bm, hO⟩ := h.op
 have hl60 := (okLib_parts hO.ok).2.1
 have ml := hO.hL.le
 have hb1 := below1 w (.map #[] 0)
 have q1 := (hO.call hb1).q1
 have hOH := Lib.hid hO
 have hBwH := Lib.hid hO.le
 clear hO h
 go_enter Tryz.func83, Tryz.ntmps83
 go_wp2_with fail
 go_loopw [16] (fun i wr => mi1Rel l w i wr) (fun i _ => l.length - (intOf i).toNat)
 case atStart => exact ⟨0, 0, 0, rfl, Nat.zero_le _, by omega, by omega, by rw [misTo_zero]; exact SMap.made w, hb1⟩
 case round =>
  obtain ⟨k, M, m, rfl, hk, hM, hm, hS, hB⟩ := hrel
  by_cases hlt : k < l.length
  ·obtain ⟨b, off, a1, c1, a2, c2, a3, c3, rfl, hbB, p0, p1, p2, p3, p4, z1, z2, hI, hU, hP⟩ := (hOH.out.call hB).hL.ent k hlt
   obtain ⟨W, hW⟩ : ∃ W, wr.alloc (.cells #[.string (eNm l[k]), .string (eBy l[k]), .slice a1 (eSays l[k]).length c1, .slice a2 (eUses l[k]).length c2, .slice a3 (ePf l[k]).length c3] 37) = W := ⟨_, rfl⟩
   have hBW : Below wr.heap.size wr W := by rw [← hW]; exact below1 wr _
   have r3 : W.cell? ⟨wr.heap.size, 3, none⟩ = some (.slice a2 (eUses l[k]).length c2) := by rw [← hW]; clear hW; go_simp
   have hS2 := hS.below hBW hS.lt
   rw [← misIn_zero] at hS2
   have hUW := hU.below hBW
   have hm2 := hU.le
   obtain ⟨h12, hsz⟩ := okLib_uses hOH.out.ok (List.getElem_mem hlt)
   have hin := misIn_all hlt
   have hthr := fun m (hm : m < (eUses l[k]).length) i => misIn_there hlt hm (i := i)
   have hput := fun m (hm : m < (eUses l[k]).length) => misIn_put hlt hm
   have hB2 := bcall hB hBW
   have hst : mi2Rel l k (eUses l[k]).length w W (.int .i64 0) W := ⟨0, M, m, rfl, Nat.zero_le _, by omega, hm, hS2, hB2, gby_refl _ _⟩
   have hOWH := Lib.hid (hOH.out.call hB2)
   have hUH := Lib.hid hUW
   have hstH := Lib.hid hst
   have hinH := Lib.hid hin
   have hthrH := Lib.hid hthr
   have hputH := Lib.hid hput
   have hszH := Lib.hid hsz
   have h12H := Lib.hid h12
   clear hst hin hthr hput hsz hB2 hUW hS2 hS hB hI hU hP h12
   generalize eUses l[k] = us at *
   generalize eNm l[k] = nm at *
   generalize eBy l[k] = bn at *
   generalize (eSays l[k]).length = n1 at *
   generalize (ePf l[k]).length = n3 at *
   go_wp2_with fail
   try rw [hW]
   clear hW
   go_loopw [23] (fun i wr => mi2Rel l k us.length w W i wr) (fun i _ => us.length - (intOf i).toNat)
   case atStart => exact hstH.out
   case round =>
    obtain ⟨j, M, m, rfl, hj, hM, hm, hS, hB, hG⟩ := hrel
    by_cases hjl : j < us.length
    ·have hBr : Below B W wr := below_of_gby (.refl _ _) hG hOWH.out.le hBwH.out
     have hOr := hOWH.out.below hBr
     obtain ⟨b2, o2, rfl, -, qu, hzu⟩ := (hUH.out.same (Agree.of_below hBr (fun b h _ => h))).str j hjl
     have r2 := hOr.q2
     have hlk := hOr.look us[j] hzu
     cases hat : atN l us[j] with
     | some i =>
      rw [hat] at hlk
      simp only [Option.getD_some, Option.isSome_some] at hlk
      rw [← hthrH.out j hjl i hat] at hS
      have hfin := Lib.hid (show mi2Rel l k us.length w W (.int .i64 ((j : Int) + 1)) wr from ⟨j + 1, M, m, by simp, hjl, by omega, hm, hS, hB, hG⟩)
      clear hS hB hG hOr hBr hM hm hat
      generalize us[j] = u at *
      go_wp2_with fail
      go_roundw
      case rel => exact hfin.out
      case measure => simp [intOf]; omega
     | none =>
      rw [hat] at hlk
      simp only [Option.getD_none, Option.isSome_none] at hlk
      have h12 := h12H.out
      obtain ⟨w3, hup, hS3, hG3⟩ := hS.store (tm := 88) Tryz.underlying88 Tryz.underlying9 Tryz.underlying4 (by unfold maxLen; omega) us[j] (big_max hzu)
      rw [hputH.out j hjl hat] at hS3
      have hB3 := hB.grown hG3 hB.size (fun i e => by injection e with e; omega)
      have hmm3 : (if misIn l k j us[j] = true then m else m + 1) ≤ M + 1 := by split <;> omega
      generalize (if misIn l k j us[j] = true then m else m + 1) = m' at hS3 hmm3
      have hfin := Lib.hid (show mi2Rel l k us.length w W (.int .i64 ((j : Int) + 1)) w3 from ⟨j + 1, M + 1, m', by simp, hjl, by omega, hmm3, hS3, hB3, gby_trans hG hG3⟩)
      clear hS hB hG hOr hBr hM hm hat hS3 hG3 hB3 hmm3 h12
      generalize us[j] = u at *
      go_wp2_with fail
      go_roundw
      case rel => exact hfin.out
      case measure => simp [intOf]; omega
    ·have hjj : ((j : Int) < (us.length : Int)) = False := eq_false (by omega)
     have hjl' : j = us.length := by omega
     have h12 := h12H.out
     rw [hjl', hinH.out] at hS
     have hfin := Lib.hid (show mi1Rel l w (.int .i64 ((k : Int) + 1)) wr from ⟨k + 1, M, m, by simp, hlt, by omega, hm, hS, hB⟩)
     clear hS hB hG hM hm hjl hj hjl' h12
     go_wp2_with fail
     go_roundw
     case rel => exact hfin.out
     case measure => simp [intOf]; omega
  ·have hkk : ((k : Int) < (l.length : Int)) = False := eq_false (by omega)
   have hkl : k = l.length := by omega
   rw [hkl, misTo_all] at hS
   have hfin := Lib.hid (show SetRet (misB l) w (.returned (.map (some w.heap.size))) wr from ⟨_, M, m, rfl, Nat.le_refl _, by omega, hm, hS, hB⟩)
   clear hS hB hlt hk hkl hM hm
   go_wp2_with fail
   go_ret
   exact hfin.out
end Go.Proofs.YtpmnnoopoblpgaaGreat

/- Walks: reached (a closure that calls itself through a box) and leans. -/
namespace Go.Proofs.YtpmnnoopoblpgaaGreat
open Go Go.RowKit Go.Maps

def MayFn (g : FuncId) (cb : Array Value) (may : ByteArray → Bool) (B : Nat) (w : World) : Prop :=
 (∀ args W, (callFunc g args).run Tryz.prog W = .ok (.enter g args) W) ∧ ∀ (x : ByteArray), x.size ≤ big → ∀ W, Below B w W → Calls Tryz.prog g (#[.string x] ++ cb) W fun e w' => e = .returned (.bool (may x)) ∧ Below W.heap.size W w'
abbrev wkV (b mb : Nat) : Value := .func (.func 181) #[] #[.pointer (some ⟨b, 0, none⟩), .pointer (some ⟨mb + 1, 0, none⟩), .pointer (some ⟨b + 1, 0, none⟩), .pointer (some ⟨mb + 2, 0, none⟩)]
theorem memB_snoc (D : List ByteArray) (u : ByteArray) : (fun z => if z = u then true else memB D z) = memB (D ++ [u]) := by
 funext z
 unfold memB
 rw [List.any_append]
 by_cases e : z = u
 ·subst e; simp
 ·have : decide (u = z) = false := decide_eq_false (fun h => e h.symm)
  simp [e, this]
structure WkCx (W0 : World) (B b mb xb : Nat) (s : Sg) (l : List Ent) (g : FuncId) (cb : Array Value) (may : ByteArray → Bool) : Prop where
 lib : DLib B W0 xb s l
 hb : B ≤ b
 hmb : mb = b + 2
 c0 : W0.cell? ⟨b, 0, none⟩ = some (.pointer (some ⟨xb, 0, none⟩))
 c1 : W0.cell? ⟨b + 1, 0, none⟩ = some (.func (.func g) #[] cb)
 c3 : W0.cell? ⟨mb + 1, 0, none⟩ = some (.map (some mb))
 c4 : W0.cell? ⟨mb + 2, 0, none⟩ = some (wkV b mb)
 fn : MayFn g cb may B W0
structure WkSt (W0 : World) (mb : Nat) (D : List ByteArray) (W : World) : Prop where
 g : W0.grownBy W (some mb)
 m : SSet W mb D.length D.length (memB D)
section
variable {W0 W1 : World} {B b mb xb : Nat} {s : Sg} {l : List Ent} {g : FuncId} {cb : Array Value} {may : ByteArray → Bool} {D1 : List ByteArray}
theorem WkCx.bel (hX : WkCx W0 B b mb xb s l g cb may) (h : WkSt W0 mb D1 W1) : Below B W0 W1 := below_of_gby (.refl _ _) h.g hX.lib.1 (by have := hX.hb; have := hX.hmb; omega)
theorem WkCx.d0 (hX : WkCx W0 B b mb xb s l g cb may) (h : WkSt W0 mb D1 W1) : W1.cell? ⟨b, 0, none⟩ = some (.pointer (some ⟨xb, 0, none⟩)) := h.g.cell hX.c0 (by have := hX.hmb; intro e; injection e with e; simp at e; omega)
theorem WkCx.d1 (hX : WkCx W0 B b mb xb s l g cb may) (h : WkSt W0 mb D1 W1) : W1.cell? ⟨b + 1, 0, none⟩ = some (.func (.func g) #[] cb) := h.g.cell hX.c1 (by have := hX.hmb; intro e; injection e with e; simp at e; omega)
theorem WkCx.d3 (hX : WkCx W0 B b mb xb s l g cb may) (h : WkSt W0 mb D1 W1) : W1.cell? ⟨mb + 1, 0, none⟩ = some (.map (some mb)) := h.g.cell hX.c3 (by intro e; injection e with e; simp at e)
theorem WkCx.d4 (hX : WkCx W0 B b mb xb s l g cb may) (h : WkSt W0 mb D1 W1) : W1.cell? ⟨mb + 2, 0, none⟩ = some (wkV b mb) := h.g.cell hX.c4 (by intro e; injection e with e; simp at e)
end
def wkRel (W0 : World) (l : List Ent) (may : ByteArray → Bool) (mb : Nat) (n : ByteArray) (D : List ByteArray) (i : Value) (wr : World) : Prop :=
 ∃ (k : Nat) (D1 : List ByteArray), i = .int .i64 k ∧ k ≤ (usesN l n).length ∧ WkAt (usesN l) may (allUses l) n k D D1 ∧ WkSt W0 mb D1 wr
def wkDone (W0 : World) (l : List Ent) (may : ByteArray → Bool) (mb : Nat) (n : ByteArray) (D : List ByteArray) (w' : World) : Prop := ∃ D2, WkAt (usesN l) may (allUses l) n (usesN l n).length D D2 ∧ WkSt W0 mb D2 w'
set_option maxHeartbeats 4000000 in
theorem reachRec_any {W0 : World} {B b mb xb : Nat} {s : Sg} {l : List Ent} {g : FuncId} {cb : Array Value} {may : ByteArray → Bool} (hX : WkCx W0 B b mb xb s l g cb may) :
  ∀ (N : Nat) (D : List ByteArray) (n : ByteArray) (W : World), (allUses l).length - D.length ≤ N → D.Nodup → (∀ u ∈ D, u ∈ allUses l) → WkSt W0 mb D W → n.size ≤ big →
   Calls Tryz.prog 181 #[.string n, .pointer (some ⟨b, 0, none⟩), .pointer (some ⟨mb + 1, 0, none⟩), .pointer (some ⟨b + 1, 0, none⟩), .pointer (some ⟨mb + 2, 0, none⟩)] W fun e w' => e = .returned (.tuple #[]) ∧ wkDone W0 l may mb n D w' := by
 intro N
 induction N using Nat.strongRecOn with
 | ind N ih =>
 intro D n W hN hD hU hS hn
 obtain ⟨a, c, hA, hcu⟩ := uses_any hX.lib n hn
 have p0 := hX.d0 hS
 have hcu' := hcu W (hX.bel hS)
 have hml := hA.le
 have hst : WkAt (usesN l) may (allUses l) n 0 D D := .start hD hU
 have hstH := Lib.hid hst
 have hSH := Lib.hid hS
 have hcuH := Lib.hid hcu'
 have hAH := Lib.hid hA
 have hXH := Lib.hid hX
 have ihH := Lib.hid ih
 have hDH := Lib.hid hD
 have hNH := Lib.hid hN
 clear hst hS hcu hcu' hA hX ih hU hD hN
 go_enter Tryz.func181, Tryz.ntmps181
 go_wp2_with (go_at_call 118; refine hcuH.out.mono ?_; rintro e w1 ⟨rfl, rfl⟩)
 go_loopw [12] (fun i wr => wkRel W0 l may mb n D i wr) (fun i _ => (usesN l n).length - (intOf i).toNat)
 case atStart => exact ⟨0, D, rfl, Nat.zero_le _, hstH.out, hSH.out⟩
 case round =>
  obtain ⟨k, D1, rfl, hk, hAt, hSt⟩ := hrel
  by_cases hlt : k < (usesN l n).length
  ·obtain ⟨u, hu⟩ : ∃ u, (usesN l n)[k] = u := ⟨_, rfl⟩
   obtain ⟨bA, oA, rfl, hbA, qA, hzu⟩ := hAH.out.str k hlt
   rw [hu] at qA hzu
   have hAW := hAH.out.same (Agree.of_below (hXH.out.bel hSt) (fun b h _ => h))
   obtain ⟨bA', oA', hae, -, qA', -⟩ := hAW.str k hlt
   have hae' : bA' = bA ∧ oA' = oA := by simpa using hae.symm
   obtain ⟨rfl, rfl⟩ := hae'
   rw [hu] at qA'
   have hin : u ∈ allUses l := by rw [← hu]; exact usesN_sub (List.getElem_mem hlt)
   have r1 := hXH.out.d1 hSt
   have r3 := hXH.out.d3 hSt
   have r4 := hXH.out.d4 hSt
   have hlk := hSt.m.look (tm := 88) Tryz.underlying88 Tryz.underlying9 Tryz.underlying4 (zBool wr) u (big_max hzu)
   cases hm : memB D1 u with
   | true =>
    rw [hm] at hlk
    have hskip := hAt.skip hlt (.inl (by rw [hu]; exact memB_iff.1 hm))
    have hfin := Lib.hid (show wkRel W0 l may mb n D (.int .i64 ((k : Int) + 1)) wr from ⟨k + 1, D1, by simp, hlt, hskip, hSt⟩)
    clear hskip hm hAt hSt hin hu qA hAW
    go_wp2_with fail
    go_roundw
    case rel => exact hfin.out
    case measure => simp [intOf]; omega
   | false =>
    rw [hm] at hlk
    have hno : u ∉ D1 := fun e => by rw [memB_iff.2 e] at hm; cases hm
    have hmay := hXH.out.fn.2 u hzu wr (hXH.out.bel hSt)
    have eg := hXH.out.fn.1
    have hmayH := Lib.hid hmay
    cases hmu : may u with
    | false =>
     rw [hmu] at hmayH
     have hskip := hAt.skip hlt (.inr (by rw [hu]; exact hmu))
     have hfin := Lib.hid (fun w2 (hb : Below wr.heap.size wr w2) => show wkRel W0 l may mb n D (.int .i64 ((k : Int) + 1)) w2 from ⟨k + 1, D1, by simp, hlt, hskip, ⟨gby_trans hSt.g (gby_below hb), hSt.m.same (hb.block mb hSt.m.lt)⟩⟩)
     clear hskip hm hAt hSt hin hu qA hAW hmay hmu hno
     go_wp2_with (first | (go_at_fn g; refine hmayH.out.mono ?_; rintro e w2 ⟨rfl, hb⟩; have hbH := Lib.hid hb; clear hb) | go_in)
     go_roundw
     case rel => exact hfin.out _ hbH.out
     case measure => simp [intOf]; omega
    | true =>
     rw [hmu] at hmayH
     obtain ⟨hn1, hu1, hle1⟩ := hAt.put hlt (by rw [hu]; exact hno) (by rw [hu]; exact hin)
     rw [hu] at hn1 hu1
     have hU := allUses_len hXH.out.lib.2.2.1
     have hlen : (D1 ++ [u]).length = D1.length + 1 := by simp
     have hsto : ∀ w2, Below wr.heap.size wr w2 → ∃ w3, (Instr.mapUpdate 88 (.map (some mb)) (.string u) (.bool true)).run Tryz.prog w2 = .ok () w3 ∧ WkSt W0 mb (D1 ++ [u]) w3 := fun w2 hb => by
      obtain ⟨w3, h1, h2, h3⟩ := (hSt.m.same (hb.block mb hSt.m.lt)).store (tm := 88) Tryz.underlying88 Tryz.underlying9 Tryz.underlying4 (by unfold maxLen; omega) u (big_max hzu)
      rw [hm, memB_snoc] at h2
      exact ⟨w3, h1, gby_trans (gby_trans hSt.g (gby_below hb)) h3, by rw [hlen]; exact h2⟩
     have hDle := nodupLe hDH.out (fun x hx => hAt.sub x hx)
     have hNo := hNH.out
     have hnext : ∀ w3, WkSt W0 mb (D1 ++ [u]) w3 → _ := fun w3 hS3 => ihH.out (N - 1) (by omega) (D1 ++ [u]) u w3 (by rw [hlen]; omega) hn1 hu1 hS3 hzu
     have hfin : ∀ w4, wkDone W0 l may mb u (D1 ++ [u]) w4 → wkRel W0 l may mb n D (.int .i64 ((k : Int) + 1)) w4 := fun w4 ⟨D2, h2, h3⟩ => by
      subst hu
      exact ⟨k + 1, D2, by simp, hlt, hAt.deep hlt hno hmu h2, h3⟩
     have hstoH := Lib.hid hsto
     have hnextH := Lib.hid hnext
     have hfinH := Lib.hid hfin
     clear hlen hsto hDle hNo hnext hfin hn1 hu1 hle1 hU hmu hmay hno hm hAt hSt hin hu qA hAW
     go_wp2_with fail
     go_at_fn g
     refine hmayH.out.mono ?_
     rintro e w2 ⟨rfl, hb⟩
     obtain ⟨w3, hup, hS3⟩ := hstoH.out w2 hb
     have r3' := cell_later hb r3
     have s4 := hXH.out.d4 hS3
     have hn3 := Lib.hid (hnextH.out w3 hS3)
     clear r3 r4 r1 qA' hb hS3
     go_wp2_with fail
     refine hn3.out.mono ?_
     rintro e w4 ⟨rfl, hd⟩
     have hdH := Lib.hid hd
     clear hd s4 r3' hup
     go_wp2_with fail
     go_roundw
     case rel => exact hfinH.out _ hdH.out
     case measure => simp [intOf]; omega
  ·have hkk : ((k : Int) < ((usesN l n).length : Int)) = False := eq_false (by omega)
   have hkl : k = (usesN l n).length := by omega
   have hfin := Lib.hid (show wkDone W0 l may mb n D wr from ⟨D1, by rw [← hkl]; exact hAt, hSt⟩)
   clear hAt hSt hlt hk hkl
   go_wp2_with fail
   go_end0
   exact ⟨rfl, hfin.out⟩
end Go.Proofs.YtpmnnoopoblpgaaGreat

/- Walks: reached and leans. -/
namespace Go.Proofs.YtpmnnoopoblpgaaGreat
open Go Go.RowKit Go.Maps

def RchRet (l : List Ent) (may : ByteArray → Bool) (n : ByteArray) (w : World) (e : Ending) (w' : World) : Prop :=
 ∃ ob m, e = .returned (.map (some ob)) ∧ w.heap.size ≤ ob ∧ m ≤ 720 ∧ SSet w' ob m m (rchB l may n) ∧ Below w.heap.size w w'
set_option maxHeartbeats 4000000 in
theorem reached_any {B xb : Nat} {w : World} {s : Sg} {l : List Ent} {g : FuncId} {cb : Array Value} {may : ByteArray → Bool} (h : DLib B w xb s l) (hf : MayFn g cb may w.heap.size w) (n : ByteArray) (hn : n.size ≤ big) :
  Calls Tryz.prog 152 #[.pointer (some ⟨xb, 0, none⟩), .string n, .func (.func g) #[] cb] w (RchRet l may n w) := by
 have hmm := @run_makeMap Tryz.prog
 have hD := h.mono h.1 (Nat.le_refl w.heap.size)
 have hDH := Lib.hid hD
 have hfH := Lib.hid hf
 clear h hD hf
 go_enter Tryz.func152, Tryz.ntmps152
 go_wp2_with fail
 obtain ⟨W0, hW0⟩ : ∃ W0, (((((w.alloc (.cells #[.pointer (some ⟨xb, 0, none⟩)] 61)).alloc (.cells #[.func (.func g) #[] cb] 44)).alloc (.map #[] 0)).alloc (.cells #[.map (some (w.heap.size + 1 + 1))] 88)).alloc
   (.cells #[wkV w.heap.size (w.heap.size + 1 + 1)] 174)) = W0 := ⟨_, rfl⟩
 have hb0 : Below w.heap.size w W0 := by
  rw [← hW0]
  exact ((below3 w _ _ _).trans ((below1 _ _).mono (by simp; omega))).trans ((below1 _ _).mono (by simp; omega))
 have hsz : W0.heap.size = w.heap.size + 5 := by rw [← hW0]; simp
 have c0 : W0.cell? ⟨w.heap.size, 0, none⟩ = some (.pointer (some ⟨xb, 0, none⟩)) := by rw [← hW0]; clear hW0; go_simp
 have c1 : W0.cell? ⟨w.heap.size + 1, 0, none⟩ = some (.func (.func g) #[] cb) := by rw [← hW0]; clear hW0; go_simp
 have c3 : W0.cell? ⟨w.heap.size + 1 + 1 + 1, 0, none⟩ = some (.map (some (w.heap.size + 1 + 1))) := by rw [← hW0]; clear hW0; go_simp
 have c4 : W0.cell? ⟨w.heap.size + 1 + 1 + 1 + 1, 0, none⟩ = some (wkV w.heap.size (w.heap.size + 1 + 1)) := by rw [← hW0]; clear hW0; go_simp
 have hm0 : SSet W0 (w.heap.size + 1 + 1) 0 0 (memB []) := by
  have h1 := SMap.made (P := Tryz.prog) (tk := 9) (te := 4) ((w.alloc (.cells #[.pointer (some ⟨xb, 0, none⟩)] 61)).alloc (.cells #[.func (.func g) #[] cb] 44))
  simp only [World.size_alloc] at h1
  rw [← hW0]
  exact (h1.below (below1 _ _) (by simp)).below (below1 _ _) (by simp)
 have hX : WkCx W0 w.heap.size w.heap.size (w.heap.size + 1 + 1) xb s l g cb may := ⟨hDH.out.below hb0, Nat.le_refl _, rfl, c0, c1, c3, c4, hfH.out.1, fun x hx W hb => hfH.out.2 x hx W (hb0.trans hb)⟩
 have hc := reachRec_any hX _ [] n W0 (Nat.le_refl _) List.nodup_nil (fun u h => by cases h) ⟨gby_refl _ _, hm0⟩ hn
 have hcH := Lib.hid hc
 have hXH := Lib.hid hX
 have hbH := Lib.hid hb0
 have hszH := Lib.hid hsz
 clear hc hX hb0 c0 c1 c3 c4 hm0 hsz
 rw [hW0]
 refine hcH.out.mono ?_
 rintro e w1 ⟨rfl, D, hAt, hS⟩
 have c3 := hXH.out.d3 hS
 have hU := allUses_len hDH.out.2.2.1
 have hle := nodupLe hAt.nd hAt.U
 have hm := hS.m
 rw [hAt.test] at hm
 have hfin := Lib.hid (show RchRet l may n w (.returned (.map (some (w.heap.size + 1 + 1)))) w1 from ⟨_, _, rfl, by omega, by omega, hm, hbH.out.trans (hXH.out.bel hS)⟩)
 clear hW0 hU hle hm hS hAt
 go_wp2_with fail
 go_ret
 exact hfin.out
theorem leans1_fn (B : Nat) (w : World) : MayFn 153 #[] (fun _ => true) B w := by
 refine ⟨enters_of Tryz.func153 (by kernel_rfl) rfl, fun x hx W _ => ?_⟩
 go_enter Tryz.func153, Tryz.ntmps153
 go_wp2_with fail
 go_ret
 exact ⟨rfl, .refl _ _⟩
theorem leans_any {B xb : Nat} {w : World} {s : Sg} {l : List Ent} (h : DLib B w xb s l) (n : ByteArray) (hn : n.size ≤ big) :
  Calls Tryz.prog 105 #[.pointer (some ⟨xb, 0, none⟩), .string n] w (RchRet l (fun _ => true) n w) := by
 have v := Lib.hid (reached_any h (leans1_fn _ w) n hn)
 clear h
 go_enter Tryz.func105, Tryz.ntmps105
 go_wp2_with fail
 refine v.out.mono ?_
 rintro e w1 ⟨ob, m, rfl, h1, h2, h3, h4⟩
 go_wp2_with fail
 go_ret
 exact ⟨ob, m, rfl, h1, h2, h3, h4⟩
end Go.Proofs.YtpmnnoopoblpgaaGreat

/- Walks: chosen. -/
namespace Go.Proofs.YtpmnnoopoblpgaaGreat
open Go Go.RowKit Go.Maps

def IxFn (g : FuncId) (cb : Array Value) (n : Nat) (pd : Nat → Bool) (B : Nat) (w : World) : Prop :=
 (∀ args W, (callFunc g args).run Tryz.prog W = .ok (.enter g args) W) ∧ ∀ (i : Nat), i < n → ∀ W, Below B w W → Calls Tryz.prog g (#[.int .i64 i] ++ cb) W fun e w' => e = .returned (.bool (pd i)) ∧ Below W.heap.size W w'
def chRel (l : List Ent) (pd : Nat → Bool) (w : World) (i v : Value) (wr : World) : Prop :=
 ∃ k : Nat, i = .int .i64 k ∧ k ≤ l.length ∧ OwnS wr w.heap.size v (chT l pd k) ∧ Below w.heap.size w wr
set_option maxHeartbeats 4000000 in
theorem chosen_any {B xb : Nat} {w : World} {s : Sg} {l : List Ent} {g : FuncId} {cb : Array Value} {pd : Nat → Bool} (h : DLib B w xb s l) (hf : IxFn g cb l.length pd w.heap.size w) :
  Calls Tryz.prog 68 #[.pointer (some ⟨xb, 0, none⟩), .func (.func g) #[] cb] w (SortedOut w (chB l pd)) := by
 obtain ⟨sa, sc, la, lc, bm, hO⟩ := h.op
 have hl60 := (okLib_parts hO.ok).2.1
 have hnd := (okLib_parts hO.ok).2.2.2
 have ml := hO.hL.le
 have q1 := hO.q1
 have eg := hf.1
 have hOH := Lib.hid hO
 have hfH := Lib.hid hf
 have hndH := Lib.hid hnd
 clear hO h hf hnd
 go_enter Tryz.func68, Tryz.ntmps68
 go_wp2_with fail
 go_loopw [13, 5] (fun i v wr => chRel l pd w i v wr) (fun i _ _ => l.length - (intOf i).toNat)
 case atStart => exact ⟨0, rfl, Nat.zero_le _, OwnL.nil _ _ _ _ _, .refl _ _⟩
 case round =>
  obtain ⟨k, rfl, hk, hO, hB⟩ := hrel
  by_cases hlt : k < l.length
  ·obtain ⟨b, off, a1, c1, a2, c2, a3, c3, rfl, hbB, p0, p1, p2, p3, p4, z1, z2, hI, hU, hP⟩ := (hOH.out.call hB).hL.ent k hlt
   obtain ⟨W, hW⟩ : ∃ W, wr.alloc (.cells #[.string (eNm l[k]), .string (eBy l[k]), .slice a1 (eSays l[k]).length c1, .slice a2 (eUses l[k]).length c2, .slice a3 (ePf l[k]).length c3] 37) = W := ⟨_, rfl⟩
   have hBW : Below wr.heap.size wr W := by rw [← hW]; exact below1 wr _
   have q0 : W.cell? ⟨wr.heap.size, 0, none⟩ = some (.string (eNm l[k])) := by rw [← hW]; clear hW; go_simp
   have hB1 := bcall hB hBW
   have ve := hfH.out.2 k hlt W hB1
   have hsu : (pd k = true → chT l pd (k + 1) = chT l pd k ++ [eNm l[k]]) ∧ (pd k = false → chT l pd (k + 1) = chT l pd k) :=
    ⟨fun h => by rw [chT_succ hlt, if_pos h], fun h => by rw [chT_succ hlt, if_neg (by rw [h]; simp)]⟩
   have hcl := chT_len l pd k
   have hO1 := OwnL.call hO hBW
   clear hI hU hP hO
   generalize eNm l[k] = nm at *
   generalize eBy l[k] = bn at *
   generalize (eSays l[k]).length = n1 at *
   generalize (eUses l[k]).length = n2 at *
   generalize (ePf l[k]).length = n3 at *
   have veH := Lib.hid ve
   have hsuH := Lib.hid hsu
   have hO1H := Lib.hid hO1
   have hBH := Lib.hid hB1
   have hWH := Lib.hid hW
   clear ve hsu hO1 hB1 hBW hB hW
   cases hpd : pd k with
   | false =>
    rw [hpd] at veH
    have hsu := hsuH.out.2 hpd
    have hsuH := Lib.hid hsu
    clear hsu hpd
    go_wp2_with fail
    rw [hWH.out]
    go_at_fn g
    refine veH.out.mono ?_
    rintro e w2 ⟨rfl, hb2⟩
    have hb2H := Lib.hid hb2
    clear hb2
    go_wp2_with fail
    go_roundw
    case rel => exact ⟨k + 1, by go_num, hlt, by rw [hsuH.out]; exact OwnL.call hO1H.out hb2H.out, bcall hBH.out hb2H.out⟩
    case measure => simp [intOf]; omega
   | true =>
    rw [hpd] at veH
    have hsu := hsuH.out.1 hpd
    have hsuH := Lib.hid hsu
    clear hsu hpd
    go_wp2_with fail
    rw [hWH.out]
    go_at_fn g
    refine veH.out.mono ?_
    rintro e w2 ⟨rfl, hb2⟩
    obtain ⟨v', W', hrun, ho, hg, -⟩ := OwnL.push (P := Tryz.prog) (t := 29) (ty := 29) (OwnL.call hO1H.out hb2) Tryz.underlying29 infoStr rfl (vs := [.string nm]) (x := nm) ⟨rfl, z1⟩ (by omega) (by unfold big; omega) (Nat.le_trans hBH.out.size hb2.size)
    rw [← hsuH.out] at ho
    have r0 := cell_later hb2 q0
    have hoH := Lib.hid ho
    have hgH := Lib.hid hg
    have hb2H := Lib.hid hb2
    clear ho hg hb2 q0
    go_wp2_with (at_builtin; refine wpList_append_run rfl _ _ _ rfl rfl rfl hrun ?_)
    go_roundw
    case rel => exact ⟨k + 1, by go_num, hlt, hoH.out, (bcall hBH.out hb2H.out).grown hgH.out (Nat.le_trans hBH.out.size hb2H.out.size) (fun j e => (OwnL.lt (OwnL.call hO1H.out hb2H.out) j e).1)⟩
    case measure => simp [intOf]; omega
  ·have hkl : k = l.length := by omega
   have hkk : ((k : Int) < (l.length : Int)) = False := eq_false (by omega)
   rw [hkl] at hO
   have hcl := chT_len l pd l.length
   have hn := chT_nodup (pd := pd) hndH.out
   have cs := sortS_any hO (by omega) hB.size
   have hm : ∀ x, x ∈ (((chT l pd l.length).map bs).mergeSort fun x y => decide (x ≤ y)).map nmOf ↔ chB l pd x = true := fun x => by
    rw [← chT_mem]
    refine mem_sort.trans ⟨fun h => ?_, fun h => List.mem_map.2 ⟨x, h, rfl⟩⟩
    obtain ⟨y, hy, e⟩ := List.mem_map.1 h
    rw [← bs_inj e]; exact hy
   have ha : AscN ((((chT l pd l.length).map bs).mergeSort fun x y => decide (x ≤ y)).map nmOf) := asc_sort (by
    refine List.pairwise_map.2 (hn.imp fun {a b} hab e => hab ?_)
    exact bs_inj e)
   have csH := Lib.hid cs
   have hmH := Lib.hid hm
   have haH := Lib.hid ha
   have hBH := Lib.hid hB
   clear cs hm ha hB hO hn hcl hlt hk hkl
   go_wp2_with fail
   refine csH.out.mono ?_
   rintro e w2 ⟨rfl, ho, hb⟩
   have hfin := Lib.hid (And.intro ho (hBH.out.trans hb))
   clear ho hb
   go_wp2_with fail
   go_ret
   exact ⟨_, _, rfl, hfin.out.1, haH.out, hmH.out, hfin.out.2⟩
end Go.Proofs.YtpmnnoopoblpgaaGreat

/- Walks: there, Leans, Missing. -/
namespace Go.Proofs.YtpmnnoopoblpgaaGreat
open Go Go.RowKit Go.Maps Go.Shelf

def NamesRet (f : ByteArray → Bool) (er : Int) (w : World) (e : Ending) (w' : World) : Prop :=
 ∃ v L, e = .returned (.tuple #[v, .int .i64 er]) ∧ OwnS w' w.heap.size v L ∧ AscN L ∧ (∀ x, x ∈ L ↔ f x = true) ∧ Below w.heap.size w w'
theorem NamesRet.nil {w w' : World} {er : Int} (hb : Below w.heap.size w w') : NamesRet (fun _ => false) er w (.returned (.tuple #[.slice none 0 0, .int .i64 er])) w' :=
 ⟨_, [], rfl, OwnL.nil _ _ _ _ _, .nil, by simp, hb⟩
theorem OwnS.base {w : World} {b b' : Nat} {v : Value} {l : List ByteArray} (h : OwnS w b v l) (hb : b' ≤ b) : OwnS w b' v l := by
 obtain ⟨ho, hr⟩ := OwnS.row h
 exact OwnS.of_row (ownsRow_base_a ho hb) hr
theorem SortedOut.names {w w0 : World} {f : ByteArray → Bool} {e : Ending} {w' : World} (h : SortedOut w f e w') (hb : Below w0.heap.size w0 w) : ∃ v, e = .returned v ∧ ∀ er, NamesRet f er w0 (.returned (.tuple #[v, .int .i64 er])) w' := by
 obtain ⟨v, L, rfl, h1, h2, h3, h4⟩ := h
 exact ⟨v, rfl, fun er => ⟨v, L, rfl, OwnS.base h1 hb.size, h2, h3, bcall hb h4⟩⟩
end Go.Proofs.YtpmnnoopoblpgaaGreat

/- Walks: givens, strongest, holds. -/
namespace Go.Proofs.YtpmnnoopoblpgaaGreat
open Go Go.RowKit Go.Maps

abbrev OwnG (B : Nat) (w : World) (base : Nat) (v : Value) (l : List (List Int)) : Prop := OwnL (slE intE) (fun b => b < B) w base 26 v l
def GivRet (B : Nat) (l : List Ent) (us : List ByteArray) (w : World) (e : Ending) (w' : World) : Prop :=
 Below w.heap.size w w' ∧ ((inAll l us = false ∧ e = .returned (.tuple #[.slice none 0 0, .bool false])) ∨ (inAll l us = true ∧ ∃ v, e = .returned (.tuple #[v, .bool true]) ∧ OwnG B w' w.heap.size v (givF l us)))
def gvRel (B : Nat) (l : List Ent) (us : List ByteArray) (w : World) (i v : Value) (wr : World) : Prop :=
 ∃ k : Nat, i = .int .i64 k ∧ k ≤ us.length ∧ inAll l (us.take k) = true ∧ OwnG B wr w.heap.size v (givF l (us.take k)) ∧ Below w.heap.size w wr
set_option maxHeartbeats 4000000 in
theorem givens_any {B xb : Nat} {w : World} {s : Sg} {l : List Ent} (h : DLib B w xb s l) (i : Nat) (hi : i < l.length) :
  Calls Tryz.prog 146 #[.pointer (some ⟨xb, 0, none⟩), .int .i64 i] w (GivRet B l (eUses l[i]) w) := by
 obtain ⟨sa, sc, la, lc, bm, hO⟩ := h.op
 have ml := hO.hL.le
 have q1 := hO.q1
 obtain ⟨b, off, a1, c1, a2, c2, a3, c3, rfl, hbB, p0, p1, p2, p3, p4, z1, z2, hI, hU, hP⟩ := hO.hL.ent i hi
 obtain ⟨us, hus⟩ : ∃ us, eUses l[i] = us := ⟨_, rfl⟩
 rw [hus] at hU p3 ⊢
 have hl12 : us.length ≤ 60 := by have := (okLib_parts hO.ok).2.2.1 l[i] (List.getElem_mem hi); unfold okEnt at this; simp only [Bool.and_eq_true, decide_eq_true_eq] at this; rw [hus] at this; omega
 have hii : (i : Int) < (l.length : Int) := by omega
 have mu := hU.le
 have hOH := Lib.hid hO
 have hUH := Lib.hid hU
 clear hO h hU hI hP hus p0 p1 p2 p4
 go_enter Tryz.func146, Tryz.ntmps146
 go_wp2_with fail
 go_loopw [20, 6] (fun i v wr => gvRel B l us w i v wr) (fun i _ _ => us.length - (intOf i).toNat)
 case atStart => exact ⟨0, rfl, Nat.zero_le _, rfl, OwnL.nil _ _ _ _ _, .refl _ _⟩
 case round =>
  obtain ⟨k, rfl, hk, hin, ho, hB⟩ := hrel
  by_cases hlt : k < us.length
  ·have hOr := hOH.out.call hB
   obtain ⟨b2, o2, rfl, -, qu, hzu⟩ := (hUH.out.below hB).str k hlt
   have r1 := hOr.q1
   have r2 := hOr.q2
   have hlk := hOr.look us[k] hzu
   cases hat : atN l us[k] with
   | none =>
    rw [hat] at hlk
    simp only [Option.getD_none, Option.isSome_none] at hlk
    have hfin := Lib.hid (show GivRet B l us w (.returned (.tuple #[.slice none 0 0, .bool false])) wr from ⟨hB, .inl ⟨inAll_bad hlt hat, rfl⟩⟩)
    clear hin ho hB hOr hat r1
    generalize us[k] = u at *
    go_wp2_with fail
    go_ret2
    exact hfin.out
   | some j =>
    rw [hat] at hlk
    simp only [Option.getD_some, Option.isSome_some] at hlk
    obtain ⟨hj, -⟩ := atN_some hat
    obtain ⟨b', off', d1, e1, d2, e2, d3, e3, hae, hbB', s0, s1, s2, s3, s4, -, -, hI, -, -⟩ := hOr.hL.ent j hj
    have hae' : b' = b ∧ off' = off := by simpa using hae.symm
    obtain ⟨rfl, rfl⟩ := hae'
    have hjj : (j : Int) < (l.length : Int) := by omega
    have hg := givF_take hlt hat hj
    have hin2 : inAll l (us.take (k + 1)) = true := by rw [inAll_take hlt, hin, hat]; rfl
    have hgl : (givF l (us.take k)).length ≤ 60 := by rw [givF_len, List.length_take]; omega
    obtain ⟨v', W', hrun, ho', hg2, -⟩ := OwnL.push (P := Tryz.prog) (t := 77) (ty := 77) ho Tryz.underlying77 infoTerm rfl (vs := [.slice d1 (eSays l[j]).length e1]) (x := eSays l[j])
     ⟨d1, e1, rfl, hI.weak (fun b hb => ⟨hb, fun e => by have := (OwnL.lt ho b e.symm).1; have := hOH.out.le; omega⟩)⟩ (by omega) (by unfold big; omega) hB.size
    rw [← hg] at ho'
    have hfin := Lib.hid (show gvRel B l us w (.int .i64 ((k : Int) + 1)) v' W' from ⟨k + 1, by simp, hlt, hin2, ho', hB.grown hg2 hB.size (fun j e => (OwnL.lt ho j e).1)⟩)
    clear hin ho hB hOr hat hg hin2 ho' hg2 hI s0 s1 s3 s4 hgl
    generalize us[k] = u at *
    generalize (eSays l[j]).length = n1 at *
    go_wp2_with (at_builtin; refine wpList_append_run rfl _ _ _ rfl rfl rfl hrun ?_)
    go_roundw
    case rel => exact hfin.out
    case measure => simp [intOf]; omega
  ·have hkk : ((k : Int) < (us.length : Int)) = False := eq_false (by omega)
   have hkl : k = us.length := by omega
   rw [hkl, List.take_length] at hin ho
   obtain ⟨v0, hv0⟩ : ∃ v0 : Value, v0 = u6 := ⟨_, rfl⟩
   have hfin := Lib.hid (show ∀ v, OwnG B wr w.heap.size v (givF l us) → GivRet B l us w (.returned (.tuple #[v, .bool true])) wr from fun v hv => ⟨hB, .inr ⟨hin, v, rfl, hv⟩⟩)
   have hoH := Lib.hid ho
   clear hin ho hB hlt hk hkl
   go_wp2_with fail
   go_ret2
   exact hfin.out _ hoH.out
end Go.Proofs.YtpmnnoopoblpgaaGreat

/- Walks: strongest, holds. -/
namespace Go.Proofs.YtpmnnoopoblpgaaGreat
open Go Go.RowKit Go.Maps

def StrRet (s : Sg) (l : List Ent) (i : Nat) (w : World) (e : Ending) (w' : World) : Prop :=
 ∃ t a c b, e = .returned (.tuple #[.slice a t.length c, .bool b]) ∧ Ints (fun _ => True) w' a c t ∧ strX s l i = (if b = true then some t else none) ∧ Below w.heap.size w w'
theorem okEnt_says {s : Sg} {x : Ent} (h : okEnt s x = true) : okT s (eSays x) = true := by
 unfold okEnt at h
 simp only [Bool.and_eq_true] at h
 have h2 := h.1.2.2
 unfold isCanonT at h2
 rw [Bool.and_eq_true] at h2
 exact h2.1
theorem keepS3 {K : Nat} {w w1 w2 : World} {p1 p2 p3 : Addr} {v1 v2 v3 : Value} (h : Below w.heap.size w w1 ∧ w1.cell? p1 = some v1 ∧ w1.cell? p2 = some v2 ∧ w1.cell? p3 = some v3) (hb : Below K w1 w2) (hK : K = w1.heap.size) :
  Below w.heap.size w w2 ∧ w2.cell? p1 = some v1 ∧ w2.cell? p2 = some v2 ∧ w2.cell? p3 = some v3 := by
 subst hK
 exact ⟨bcall h.1 hb, cell_later hb h.2.1, cell_later hb h.2.2.1, cell_later hb h.2.2.2⟩
set_option maxHeartbeats 4000000 in
theorem strongest_any {B xb : Nat} {w : World} {s : Sg} {l : List Ent} (h : DLib B w xb s l) (i : Nat) (hi : i < l.length) :
  Calls Tryz.prog 98 #[.pointer (some ⟨xb, 0, none⟩), .int .i64 i] w (StrRet s l i w) := by
 have va := axiom_any h i hi
 have vg := givens_any h i hi
 obtain ⟨sa, sc, la, lc, bm, hO⟩ := h.op
 have ml := hO.hL.le
 have ms := hO.hS.le
 obtain ⟨b, off, a1, c1, a2, c2, a3, c3, rfl, hbB, p0, p1, p2, p3, p4, z1, z2, hI, hU, hP⟩ := hO.hL.ent i hi
 have hii : (i : Int) < (l.length : Int) := by omega
 have hm1 := hI.le
 have hm3 := hP.le
 have hgd := getD_at hi
 have hsx : strX s l i = if ePf l[i] = [] then some (eSays l[i]) else if inAll l (eUses l[i]) = true then (if (saysE s (givF l (eUses l[i])) (ePf l[i])).2 = 0 then some (saysE s (givF l (eUses l[i])) (ePf l[i])).1 else none) else none := by unfold strX; rw [hgd]
 by_cases hp : ePf l[i] = []
 ·rw [if_pos hp] at hsx
  rw [decide_eq_true hp] at va
  have q1 := hO.q1
  have cl := Clone_any a1 c1 (eSays l[i]) w hI (by have := (okT_parts (okEnt_says ((okLib_parts hO.ok).2.2.1 _ (List.getElem_mem hi)))).2.2.1; unfold lim; omega)
  have vaH := Lib.hid va
  have clH := Lib.hid cl
  have hsxH := Lib.hid hsx
  clear va vg cl hsx hp hO h hI hU hP hgd p0 p1 p3 p4
  generalize eSays l[i] = t at *
  go_enter Tryz.func98, Tryz.ntmps98
  go_wp2_with fail
  refine vaH.out.mono ?_
  rintro e w1 ⟨rfl, rfl⟩
  go_wp2_with fail
  refine clH.out.mono ?_
  rintro e w2 ⟨v, rfl, ho, hb⟩
  obtain ⟨a, c, rfl, hI2⟩ := OwnI.ints ho
  have hfin := Lib.hid (show StrRet s l i w (.returned (.tuple #[.slice a t.length c, .bool true])) w2 from ⟨t, a, c, true, rfl, hI2.any, by rw [hsxH.out]; rfl, hb⟩)
  clear ho hI2 hb
  go_wp2_with fail
  go_ret2
  exact hfin.out
 ·rw [if_neg hp] at hsx
  rw [decide_eq_false hp] at va
  have vaH := Lib.hid va
  have vgH := Lib.hid vg
  have hOH := Lib.hid hO
  have hsxH := Lib.hid hsx
  have hPH := Lib.hid hP
  clear va vg hsx hp hO h hI hU hP hgd p0 p1 p2 p3
  go_enter Tryz.func98, Tryz.ntmps98
  go_wp2_with fail
  refine vaH.out.mono ?_
  rintro e w1 ⟨rfl, rfl⟩
  go_wp2_with fail
  refine vgH.out.mono ?_
  rintro e w2 ⟨hb, hg⟩
  rcases hg with ⟨hin, rfl⟩ | ⟨hin, v, rfl, ho⟩
  ·have hfin := Lib.hid (show StrRet s l i w (.returned (.tuple #[.slice none 0 0, .bool false])) w2 from ⟨[], none, 0, false, rfl, Sl.empty, by rw [hsxH.out, if_neg (by rw [hin]; simp)]; rfl, hb⟩)
   clear hin hb
   go_wp2_with fail
   go_ret2
   exact hfin.out
  ·have hsx := hsxH.out
   rw [if_pos hin] at hsx
   have hgl := givF_len l (eUses l[i])
   have hO2 := hOH.out.call hb
   obtain ⟨ag, cg, rfl, hT⟩ := OwnL.sl ho
   have vs := fun W (hw : Below w2.heap.size w2 W) => Says_any sa ag a3 sc cg c3 s (givF l (eUses l[i])) (ePf l[i]) W ((hO2.call hw).hS) (hT.below hw) ((hPH.out.below hb).below hw)
   have p4' := cell_later hb p4
   have q0 := hO2.q0
   have q1 := hO2.q1
   obtain ⟨r, hr⟩ : ∃ r, saysE s (givF l (eUses l[i])) (ePf l[i]) = r := ⟨_, rfl⟩
   rw [hr] at hsx
   simp only [hr] at vs
   obtain ⟨rt, re⟩ := r
   simp only at hsx
   have hbd : Below w2.heap.size w2 w2.drew := Below.drew (.refl w2.heap.size _)
   have hk0 : Below w2.heap.size w2 w2.drew ∧ w2.drew.cell? ⟨xb, 0, none⟩ = some (.slice sa s.length sc) ∧ w2.drew.cell? ⟨xb, 1, none⟩ = some (.slice (some ⟨b, off, none⟩) l.length lc) ∧ w2.drew.cell? ⟨b, off + i * 5 + 4, none⟩ = some (.slice a3 (ePf l[i]).length c3) :=
    ⟨hbd, cell_later hbd q0, cell_later hbd q1, cell_later hbd p4'⟩
   have vsH := Lib.hid vs
   have hsxH := Lib.hid hsx
   have hbH := Lib.hid hb
   clear vs hsx hr hO2 ho hT hin hbd hb hgl p4 p4' q0 q1
   generalize (ePf l[i]).length = n3 at *
   generalize (givF l (eUses l[i])).length = ng at *
   go_wp2_with fail
   go_region_held3 (fun w' => Below w2.heap.size w2 w' ∧ w'.cell? ⟨xb, 0, none⟩ = some (.slice sa s.length sc) ∧ w'.cell? ⟨xb, 1, none⟩ = some (.slice (some ⟨b, off, none⟩) l.length lc) ∧ w'.cell? ⟨b, off + i * 5 + 4, none⟩ = some (.slice a3 n3 c3))
    ((first | exact hk0 | exact keepS3 ‹_› hbS rfl))
    ((go_at_call 147; (with_reducible refine (vsH.out _ ?_).mono ?_); exact (And.left ‹_›); rintro e w3 ⟨a, c, rfl, hIS, hbS⟩))
   have hB3 := And.left (‹Below w2.heap.size w2 w3 ∧ _›)
   have hfin := Lib.hid (show StrRet s l i w (.returned (.tuple #[.slice a rt.length c, .bool (re == 0)])) w3 from ⟨rt, a, c, re == 0, rfl, hIS, by rw [hsxH.out]; by_cases h : re = 0 <;> simp [h], bcall hbH.out hB3⟩)
   clear hB3 hIS
   go_wp2_with fail
   go_ret2
   exact hfin.out
theorem okT_holdX {s : Sg} {l : List Ent} {i : Nat} {t : List Int} (h : strX s l i = some t) : holdX s l i = (okT s t && okT s (eSays (l.getD i default)) && instB s t (eSays (l.getD i default))) := by unfold holdX; rw [h]
theorem holdX_none {s : Sg} {l : List Ent} {i : Nat} (h : strX s l i = none) : holdX s l i = false := by unfold holdX; rw [h]
set_option maxHeartbeats 4000000 in
theorem holds_any {B xb : Nat} {w : World} {s : Sg} {l : List Ent} (h : DLib B w xb s l) (i : Nat) (hi : i < l.length) :
  Calls Tryz.prog 70 #[.pointer (some ⟨xb, 0, none⟩), .int .i64 i] w fun e w' => e = .returned (.bool (holdX s l i)) ∧ Below w.heap.size w w' := by
 have v := strongest_any h i hi
 obtain ⟨sa, sc, la, lc, bm, hO⟩ := h.op
 have ml := hO.hL.le
 have ms := hO.hS.le
 obtain ⟨b, off, a1, c1, a2, c2, a3, c3, rfl, hbB, p0, p1, p2, p3, p4, z1, z2, hI, hU, hP⟩ := hO.hL.ent i hi
 have hii : (i : Int) < (l.length : Int) := by omega
 have hm1 := hI.le
 have hgd := getD_at hi
 have vH := Lib.hid v
 have hOH := Lib.hid hO
 have hIH := Lib.hid hI
 have hgdH := Lib.hid hgd
 clear v hO h hI hU hP hgd p0 p1 p3 p4
 go_enter Tryz.func70, Tryz.ntmps70
 go_wp2_with fail
 refine vH.out.mono ?_
 rintro e w2 ⟨t, a, c, bb, rfl, hT, hx, hb⟩
 cases bb with
 | false =>
  simp only [Bool.false_eq_true, ↓reduceIte] at hx
  have hfin := Lib.hid (And.intro (holdX_none hx) hb)
  clear hx hb hT
  go_wp2_with fail
  go_quiet (fail)
  go_wp2_with fail
  go_ret
  exact ⟨ret_bool hfin.out.1.symm, below_drewN hfin.out.2 _⟩
 | true =>
  simp only [↓reduceIte] at hx
  have hh := okT_holdX hx
  rw [hgdH.out] at hh
  have hO2 := hOH.out.call hb
  have vi := fun W (hw : Below w2.heap.size w2 W) => Instance_any sa a a1 sc c c1 s t (eSays l[i]) W ((hO2.call hw).hS) (hT.below hw) ((hIH.out.below hb).below hw)
  have p2' := cell_later hb p2
  have q0 := hO2.q0
  have q1 := hO2.q1
  rw [← hh] at vi
  obtain ⟨r, hr⟩ : ∃ r, holdX s l i = r := ⟨_, rfl⟩
  simp only [hr] at vi
  have hrH := Lib.hid hr
  clear hr
  have hbd : Below w2.heap.size w2 w2.drew := Below.drew (.refl w2.heap.size _)
  have hk0 : Below w2.heap.size w2 w2.drew ∧ w2.drew.cell? ⟨xb, 0, none⟩ = some (.slice sa s.length sc) ∧ w2.drew.cell? ⟨xb, 1, none⟩ = some (.slice (some ⟨b, off, none⟩) l.length lc) ∧ w2.drew.cell? ⟨b, off + i * 5 + 2, none⟩ = some (.slice a1 (eSays l[i]).length c1) :=
   ⟨hbd, cell_later hbd q0, cell_later hbd q1, cell_later hbd p2'⟩
  have viH := Lib.hid vi
  have hbH := Lib.hid hb
  clear vi hh hx hO2 hT hbd hb p2 p2' q0 q1
  generalize (eSays l[i]).length = n1 at *
  go_wp2_with fail
  go_region_held3 (fun w' => Below w2.heap.size w2 w' ∧ w'.cell? ⟨xb, 0, none⟩ = some (.slice sa s.length sc) ∧ w'.cell? ⟨xb, 1, none⟩ = some (.slice (some ⟨b, off, none⟩) l.length lc) ∧ w'.cell? ⟨b, off + i * 5 + 2, none⟩ = some (.slice a1 n1 c1))
   ((first | exact hk0 | exact keepS3 ‹_› hbS rfl))
   ((go_at_call 123; (with_reducible refine (viH.out _ ?_).mono ?_); exact (And.left ‹_›); rintro e w3 ⟨rfl, hbS⟩))
  have hB3 := And.left (‹Below w2.heap.size w2 w3 ∧ _›)
  have hfin := Lib.hid (bcall hbH.out hB3)
  clear hB3
  go_wp2_with fail
  go_ret
  exact ⟨ret_bool hrH.out.symm, hfin.out⟩
end Go.Proofs.YtpmnnoopoblpgaaGreat

/- Walks: Breaks. -/
namespace Go.Proofs.YtpmnnoopoblpgaaGreat
open Go Go.RowKit Go.Maps

theorem setSays_nms {l : List Ent} {i : Nat} {t : List Int} : (setSays l i t).map eNm = l.map eNm := by
 apply List.ext_getElem
 ·simp [setSays_len]
 ·intro k h1 h2
  simp only [List.length_map, setSays_len] at h1 h2
  rw [List.getElem_map, List.getElem_map]
  by_cases e : i = k
  ·subst e; rw [setSays_self h2]; rfl
  ·rw [setSays_ne h2 e]
theorem setSays_ok {s : Sg} {l : List Ent} {i : Nat} {t : List Int} (h : okLib s l = true) (hi : i < l.length) (ht : isCanonT s t = true) : okLib s (setSays l i t) = true := by
 obtain ⟨h1, h2, h3, h4⟩ := okLib_parts h
 unfold okLib
 rw [h1, setSays_len, decide_eq_true h2, setSays_nms, decide_eq_true h4, Bool.true_and, Bool.true_and, Bool.and_true, List.all_eq_true]
 intro x hx
 obtain ⟨k, hk, rfl⟩ := List.getElem_of_mem hx
 have hkl : k < l.length := by rw [setSays_len] at hk; exact hk
 by_cases e : i = k
 ·subst e
  rw [setSays_self hi]
  have h0 := h3 l[i] (List.getElem_mem hi)
  unfold okEnt at h0 ⊢
  simp only [eNm, eBy, eSays, eUses, ePf, Bool.and_eq_true] at h0 ⊢
  exact ⟨⟨h0.1.1, h0.1.2.1, ht⟩, h0.2⟩
 ·rw [setSays_ne hkl e]
  exact h3 _ (List.getElem_mem hkl)
theorem entSays_cell {S : Nat → Prop} {w : World} {base g cap : Nat} {l : List Ent} (h : OwnE S w base (.slice (some ⟨g, 0, none⟩) l.length cap) l) (i : Nat) (hi : i < l.length) : ∃ v, w.cell? ⟨g, i * 5 + 2, none⟩ = some v ∧ w.frozen? ⟨g, i * 5 + 2, none⟩ = false := by
 obtain ⟨xs, ho, hl, hx⟩ := h
 have hln : ∀ x ∈ xs, x.length = 5 := fun x hxm => by
  obtain ⟨k, hk, rfl⟩ := List.getElem_of_mem hxm
  exact entE.len (hx k hk (by omega))
 have hf := flatten_get hln i (by omega) 2 (by rw [hln _ (List.getElem_mem (by omega))]; omega)
 exact ⟨_, (ho.cellAt (i * 5 + 2) (by show i * 5 + 2 < l.length * 5; omega)).trans hf, ho.frozenAt _⟩
end Go.Proofs.YtpmnnoopoblpgaaGreat
