/- The proof of a statement, some of its texts joined in build order: part H. -/
import Derived.Test.YtpmnnoopoblpgaaGreatRegS
import Derived.Test.YtpmnnoopoblpgaaGreatRange
import Derived.Test.YtpmnnoopoblpgaaGreatRangeG
import Derived.Test.YtpmnnoopoblpgaaGreatBoxList
import Derived.Test.YtpmnnoopoblpgaaGreatRegionIn
import Derived.Test.YtpmnnoopoblpgaaGreatMlP
import Derived.Test.YtpmnnoopoblpgaaGreatMlE
import Derived.Test.YtpmnnoopoblpgaaGreatMlI
import Derived.Test.YtpmnnoopoblpgaaGreatMlD
import Derived.Sort.OwnSorted
import Derived.Deep.RegionHeld3
import Derived.Lib.SliceRun
/- A range over a function whose iterator changes cells that lay before the loop. No program is named. -/
namespace Go.Proofs.YtpmnnoopoblpgaaGreat
open Go Go.RowKit

def OwnRowsB {β : Type} (Rw : World → Nat → Obj → Prop) (B : Nat) (I : β → World → Prop) : Prop :=
 ∀ s W W' row, I s W → W.grownBy W' row → (∀ r, row = some r → ∃ o : Obj, W.heap[r]? = some o ∧ ((B ≤ r ∧ o.isCells = false) ∨ Rw W r o)) → I s W'
theorem OwnRowsB.from {β : Type} {Rw : World → Nat → Obj → Prop} {B : Nat} {I : β → World → Prop} (h : OwnRowsB Rw B I) : OwnFrom B I := fun s W W' row hs hg hr =>
 h s W W' row hs hg (fun r e => by obtain ⟨g1, o, g2, g3⟩ := hr r e; exact ⟨o, g2, .inl ⟨g1, g3⟩⟩)
theorem OwnRowsB.and {β : Type} {Rw : World → Nat → Obj → Prop} {B : Nat} {I I' : β → World → Prop} (h : OwnRowsB Rw B I) (h' : OwnRowsB Rw B I') : OwnRowsB Rw B (fun s W => I s W ∧ I' s W) := fun s W W' row hs hg hr => ⟨h s W W' row hs.1 hg hr, h' s W W' row hs.2 hg hr⟩
section
variable {F : Fence} {n : Nat} {P : Program} {α : Type}
end
end Go.Proofs.YtpmnnoopoblpgaaGreat

/- A list kept in a box of the caller's, appended to in the rounds of a range over a function that turns a cell of its own. No program is named. -/
namespace Go.Proofs.YtpmnnoopoblpgaaGreat
open Go Go.RowKit

theorem wpListIn_appendU {F : Fence} {n : Nat} {P : Program} {Q : Exit → Act → World → Prop} {ops : Array Oper} {rest : List Oper} {o : Oper} {a : Act} {w : World} (hg : Region.wanted o (yielded ops a.tmps) = true) (s x : Operand) (t : TypeId)
  (ho : o.op = .call { callee := .builtin .append, args := #[s, x], argTypes := #[t, t] }) {vs vx : Value} (hs : a.eval s = vs) (hx : a.eval x = vx) {v' : Value} {w' : World}
  (hr : (Builtin.append_ #[t, t] o.type #[vs, vx]).run P w = .ok v' w') (h : wpListIn F n P ops Q rest (a.put o.dst v') w') : wpListIn F n P ops Q (o :: rest) a w :=
 NextIn.append (K := wpListIn F n P ops Q rest) hg s x t ho hs hx hr h
def BoxB {α : Type} (E : Enc α) (B0 : Nat) (T : TypeId) (base : Nat) (e : TypeId) (l : List α) (W : World) : Prop := ∃ v, Boxed W B0 T v ∧ OwnL E (fun b => base ≤ b) W base e v l
section
variable {α : Type} {E : Enc α} {B0 sb : Nat} {T e : TypeId} {base : Nat} {l : List α} {W : World}
theorem BoxB.below {W' : World} (h : BoxB E B0 T base e l W) (hb : Below W.heap.size W W') : BoxB E B0 T base e l W' := by
 obtain ⟨v, hv, ho⟩ := h
 exact ⟨v, (hb.block B0 hv.lt).trans hv, ho.call hb⟩
end
end Go.Proofs.YtpmnnoopoblpgaaGreat

/- The least circle, as the reference finds it by marks. No program is named. -/
namespace Go.Proofs.YtpmnnoopoblpgaaGreat

theorem first_hit {us : ByteArray → List ByteArray} {may : ByteArray → Prop} {n y : ByteArray} (h : Rch us may n y) : y ∈ us n ∨ ∃ m, Rch us (fun x => x ≠ y ∧ may x) n m ∧ y ∈ us m := by
 have key : ∀ z, Rch us may n z → (z ≠ y ∧ Rch us (fun x => x ≠ y ∧ may x) n z) ∨ (y ∈ us n ∨ ∃ m, Rch us (fun x => x ≠ y ∧ may x) n m ∧ y ∈ us m) := fun z hz => by
  induction hz with
  | one h1 h2 =>
   rename_i u
   by_cases e : u = y
   ·subst e; exact .inr (.inl h1)
   ·exact .inl ⟨e, .one h1 ⟨e, h2⟩⟩
  | more _h0 h1 h2 ih =>
   rename_i m u
   rcases ih with ⟨e0, hr⟩ | hit
   ·by_cases e : u = y
    ·subst e; exact .inr (.inr ⟨m, hr, h1⟩)
    ·exact .inl ⟨e, hr.more h1 ⟨e, h2⟩⟩
   ·exact .inr hit
 rcases key y h with ⟨e, -⟩ | hit
 ·exact (e rfl).elim
 ·exact hit
theorem rch_in {l : List Ent} {may : ByteArray → Prop} {n m : ByteArray} (h : Rch (usesN l) may n m) {v : ByteArray} (hv : v ∈ usesN l m) : Rch (usesN l) (fun x => may x ∧ (atN l x).isSome = true) n m := by
 have hin : ∀ m v, v ∈ usesN l m → (atN l m).isSome = true := fun m v hv => by
  unfold usesN at hv
  cases hat : atN l m with
  | none => rw [hat] at hv; cases hv
  | some k => rfl
 induction h generalizing v with
 | one h1 h2 => exact .one h1 ⟨h2, hin _ _ hv⟩
 | more _ h1 h2 ih => exact (ih h1).more h1 ⟨h2, hin _ _ hv⟩
theorem opB_of {l : List Ent} {sh : List Bool} {p : ByteArray → Bool} (hs : ∀ k, k < l.length → sh.getD k false = !p (nmI l k)) (x : ByteArray) : opB l sh x = true ↔ p x = true ∧ (atN l x).isSome = true := by
 unfold opB
 cases hat : atN l x with
 | none => simp
 | some k =>
  obtain ⟨h1, h2⟩ := nmI_of hat
  simp only [hs k h1, h2, Bool.not_not, Option.isSome_some, and_true]
theorem cit_loop {l : List Ent} {sh : List Bool} {i : Nat} (hs : ∀ k, k < l.length → sh.getD k false = !ltB (nmI l i) (nmI l k)) : citeB l sh i i = loopB l (nmI l i) := by
 have hop := opB_of (p := ltB (nmI l i)) hs
 rw [Bool.eq_iff_iff, citeB_iff]
 unfold loopB
 rw [rchB_iff]
 have hge : ∀ x, ltN (nmI l i) x → geB (nmI l i) x = true := fun x h => by
  unfold geB
  cases e : ltB x (nmI l i) with
  | false => rfl
  | true => exact (ltN_irr _ (ltN_tr _ _ _ h (ltB_iff.1 e))).elim
 have hgs : geB (nmI l i) (nmI l i) = true := by
  unfold geB
  cases e : ltB (nmI l i) (nmI l i) with
  | false => rfl
  | true => exact (ltN_irr _ (ltB_iff.1 e)).elim
 constructor
 ·rintro (h | ⟨m, h1, h2⟩)
  ·exact .one h hgs
  ·exact (h1.mono fun x hx => hge x (ltB_iff.1 ((hop x).1 hx).1)).more h2 hgs
 ·intro h
  rcases first_hit h with h1 | ⟨m, h1, h2⟩
  ·exact .inl h1
  ·refine .inr ⟨m, (rch_in h1 h2).mono fun x hx => (hop x).2 ⟨?_, hx.2⟩, h2⟩
   rw [ltB_iff]
   rcases ltN_tri x (nmI l i) with e | e | e
   ·have := hx.1.2
    unfold geB at this
    rw [ltB_iff.2 e] at this; cases this
   ·exact (hx.1.1 e).elim
   ·exact e
theorem cit_cand {l : List Ent} {sh : List Bool} {first : ByteArray} {out : List ByteArray} {f k : Nat} (hk : k < l.length) (hf : nmI l f = first) (hs : ∀ k, k < l.length → sh.getD k false = !(ltB first (nmI l k) && !memB out (nmI l k))) :
  (!sh.getD k false && citeB l sh k f) = candB l first out (nmI l k) := by
 have hop := opB_of (p := fun x => ltB first x && !memB out x) hs
 have hne : ∀ u, (ltB first u && !memB out u) = true → u ≠ first := fun u h e => by
  rw [Bool.and_eq_true, ltB_iff, e] at h
  exact ltN_irr _ h.1
 rw [hs k hk, Bool.not_not]
 generalize hu : nmI l k = u
 cases hp : (ltB first u && !memB out u) with
 | false =>
  rw [Bool.false_and]
  unfold candB freeB
  rw [hp]
  by_cases e : u = first
  ·simp [e]
  ·simp [e]
 | true =>
  have hun := hne u hp
  rw [Bool.true_and, Bool.eq_iff_iff, citeB_iff, hu, hf]
  unfold candB
  rw [Bool.and_eq_true, Bool.and_eq_true, rchB_iff]
  have hfr : freeB first out u = true := by unfold freeB; rw [hp]; simp
  have hwf : wioB first out u first = true := by
   have h2 : ¬ first = u := fun h => hun h.symm
   unfold wioB freeB; simp [h2]
  constructor
  ·intro h
   refine ⟨by simp [hun], hfr, ?_⟩
   rcases h with h1 | ⟨m, h1, h2⟩
   ·exact .one h1 hwf
   ·by_cases e : m = u
    ·subst e; exact .one h2 hwf
    ·refine ((h1.leave e).mono fun x hx => ?_).more h2 hwf
     have := ((hop x).1 hx.2).1
     unfold wioB freeB
     rw [this, decide_eq_false hx.1]; simp
  ·rintro ⟨-, -, h⟩
   rcases first_hit h with h1 | ⟨m, h1, h2⟩
   ·exact .inl h1
   ·refine .inr ⟨m, (rch_in h1 h2).mono fun x hx => (hop x).2 ⟨?_, hx.2⟩, h2⟩
    have := hx.1.2
    unfold wioB freeB at this
    rw [Bool.and_eq_true, Bool.or_eq_true, decide_eq_true_eq] at this
    rcases this.2 with e | e
    ·exact (hx.1.1 e).elim
    ·exact e
structure CiOn (l : List Ent) (first now : ByteArray) (out : List ByteArray) : Prop where
 nd : out.Nodup
 sub : ∀ x ∈ out, (atN l x).isSome = true
 rch : Rch (usesN l) (fun x => freeB first out x = true) now first
 acc : ∀ C, CircS l first out now C → CircS l first [first] first C
 fo : first ∈ out
theorem CiOn.start {l : List Ent} {x : ByteArray} (h : loopB l x = true) (hx : (atN l x).isSome = true) : CiOn l x x [x] :=
 ⟨by simp, fun y hy => by rw [List.mem_singleton] at hy; rw [hy]; exact hx, loop_start h, fun _ h => h, by simp⟩
theorem cand_in {l : List Ent} {first : ByteArray} {out : List ByteArray} {u : ByteArray} (h : candB l first out u = true) : (atN l u).isSome = true := by
 unfold candB at h
 rw [Bool.and_eq_true, Bool.and_eq_true, rchB_iff] at h
 have hin : ∀ m v, v ∈ usesN l m → (atN l m).isSome = true := fun m v hv => by
  unfold usesN at hv
  cases hat : atN l m with
  | none => rw [hat] at hv; cases hv
  | some k => rfl
 obtain ⟨v, hv, -⟩ := h.2.2.head
 exact hin u v hv
theorem CiOn.step {l : List Ent} {first now nx : ByteArray} {out : List ByteArray} (h : CiOn l first now out) (hno : first ∉ usesN l now) (hu : nx ∈ usesN l now) (hc : candB l first out nx = true) (hl : ∀ u ∈ usesN l now, candB l first out u = true → u = nx ∨ ltN nx u) : CiOn l first nx (out ++ [nx]) := by
 have hcn := hc
 unfold candB freeB at hcn
 rw [Bool.and_eq_true, Bool.and_eq_true, Bool.or_eq_true] at hcn
 have hni : nx ∉ out := fun hm => by
  rcases hcn.2.1 with e | e
  ·simp only [decide_eq_true_eq] at e; rw [e] at hcn; simp at hcn
  ·rw [Bool.and_eq_true, memB_iff.2 hm] at e; simp at e
 refine ⟨?_, fun x hx => ?_, cand_on hc, fun C hC => h.acc C (.step hno hu hc hl hC), List.mem_append_left _ h.fo⟩
 ·rw [List.nodup_append]
  exact ⟨h.nd, by simp, fun a ha b hb e => hni (by rw [List.mem_singleton] at hb; rw [← hb, ← e]; exact ha)⟩
 ·rcases List.mem_append.1 hx with e | e
  ·exact h.sub x e
  ·rw [List.mem_singleton] at e; rw [e]; exact cand_in hc
theorem CiOn.size {l : List Ent} {first now : ByteArray} {out : List ByteArray} (h : CiOn l first now out) : out.length ≤ l.length := by
 have := nodupLe (m := l.map eNm) h.nd (fun x hx => by
  have := h.sub x hx
  cases hat : atN l x with
  | none => rw [hat] at this; cases this
  | some k =>
   obtain ⟨hk, e⟩ := atN_some hat
   rw [← e]; exact List.mem_map.2 ⟨l[k], List.getElem_mem hk, rfl⟩)
 rwa [List.length_map] at this
end Go.Proofs.YtpmnnoopoblpgaaGreat

/- The least by name among those of a kind, come to step by step. No program is named. -/
namespace Go.Proofs.YtpmnnoopoblpgaaGreat

inductive LstR (l : List Ent) (p : Nat → Bool) (k : Nat) : Int → Prop
 | no : (∀ j, j < k → p j = false) → LstR l p k (-1)
 | yes (q : Nat) : q < k → p q = true → (∀ j, j < k → p j = true → ¬ ltN (nmI l j) (nmI l q)) → LstR l p k (q : Int)
section
variable {l : List Ent} {p : Nat → Bool} {k q : Nat}
theorem LstR.start : LstR l p 0 (-1) := .no fun j hj => by omega
theorem LstR.skip {v : Int} (h : LstR l p k v) (hp : p k = false) : LstR l p (k + 1) v := by
 have hl : ∀ j, j < k + 1 → j < k ∨ j = k := fun j hj => by omega
 cases h with
 | no h => exact .no fun j hj => (hl j hj).elim (h j) (fun e => by rw [e]; exact hp)
 | yes q h1 h2 h3 =>
  refine .yes q (by omega) h2 fun j hj hpj => (hl j hj).elim (fun h => h3 j h hpj) (fun e => ?_)
  rw [e, hp] at hpj; cases hpj
theorem LstR.first (h : LstR l p k (-1)) (hp : p k = true) : LstR l p (k + 1) (k : Int) := by
 generalize hv : (-1 : Int) = v at h
 cases h with
 | no h =>
  refine .yes k (by omega) hp fun j hj hpj => ?_
  rcases Nat.lt_or_ge j k with e | e
  ·rw [h j e] at hpj; cases hpj
  ·have : j = k := by omega
   rw [this]; exact ltN_irr _
 | yes q _ _ _ => omega
theorem LstR.open (h : LstR l p k (q : Int)) : q < k ∧ p q = true ∧ ∀ j, j < k → p j = true → ¬ ltN (nmI l j) (nmI l q) := by
 generalize hv : (q : Int) = v at h
 cases h with
 | no h => omega
 | yes q' h1 h2 h3 =>
  have : q = q' := by omega
  subst this
  exact ⟨h1, h2, h3⟩
theorem LstR.less (h : LstR l p k (q : Int)) (hp : p k = true) (hl : ltB (nmI l k) (nmI l q) = true) : LstR l p (k + 1) (k : Int) := by
 obtain ⟨h1, h2, h3⟩ := h.open
 refine .yes k (by omega) hp fun j hj hpj hlt => ?_
 rcases Nat.lt_or_ge j k with e | e
 ·exact h3 j e hpj (ltN_tr _ _ _ hlt (ltB_iff.1 hl))
 ·have : j = k := by omega
  rw [this] at hlt; exact ltN_irr _ hlt
theorem LstR.keep (h : LstR l p k (q : Int)) (hl : ltB (nmI l k) (nmI l q) = false) : LstR l p (k + 1) (q : Int) := by
 obtain ⟨h1, h2, h3⟩ := h.open
 refine .yes q (by omega) h2 fun j hj hpj hlt => ?_
 rcases Nat.lt_or_ge j k with e | e
 ·exact h3 j e hpj hlt
 ·have : j = k := by omega
  rw [this] at hlt
  rw [ltB_iff.2 hlt] at hl; cases hl
theorem LstR.cases {v : Int} (h : LstR l p k v) : v = -1 ∨ ∃ q : Nat, v = (q : Int) ∧ q < k := by
 cases h with
 | no _ => exact .inl rfl
 | yes q h1 _ _ => exact .inr ⟨q, rfl, h1⟩
end
def ShR (l : List Ent) (sh : List Bool) (i n : Nat) : Prop := sh.length = l.length ∧ ∀ k, k < n → k < l.length → sh.getD k false = !ltB (nmI l i) (nmI l k)
theorem ShR.step {l : List Ent} {sh : List Bool} {i n : Nat} (h : ShR l sh i n) (hn : n < l.length) : ShR l (sh.set n (!ltB (nmI l i) (nmI l n))) i (n + 1) := by
 refine ⟨by rw [List.length_set]; exact h.1, fun k hk hkl => ?_⟩
 by_cases e : k = n
 ·subst e; rw [List.getD_eq_getElem?_getD, List.getElem?_set_self (by rw [h.1]; exact hkl)]; rfl
 ·rw [List.getD_eq_getElem?_getD, List.getElem?_set_ne (fun e' => e e'.symm), ← List.getD_eq_getElem?_getD]; exact h.2 k (by omega) hkl
theorem nm_in {l : List Ent} {x : ByteArray} (h : x ∈ l.map eNm) : ∃ k, k < l.length ∧ nmI l k = x := by
 obtain ⟨y, hy, rfl⟩ := List.mem_map.1 h
 obtain ⟨k, hk, rfl⟩ := List.getElem_of_mem hy
 exact ⟨k, hk, nmI_at hk⟩
theorem loop_none {l : List Ent} (h : LstR l (fun k => loopB l (nmI l k)) l.length (-1)) : CircR l none := by
 generalize hv : (-1 : Int) = v at h
 cases h with
 | no h => intro x hx; obtain ⟨k, hk, rfl⟩ := nm_in hx; exact h k hk
 | yes q _ _ _ => omega
theorem loop_first {l : List Ent} {f : Nat} (h : LstR l (fun k => loopB l (nmI l k)) l.length (f : Int)) : f < l.length ∧ nmI l f ∈ l.map eNm ∧ loopB l (nmI l f) = true ∧ ∀ x ∈ l.map eNm, ltN x (nmI l f) → loopB l x = false := by
 obtain ⟨h1, h2, h3⟩ := h.open
 refine ⟨h1, by rw [nmI_at h1]; exact List.mem_map.2 ⟨_, List.getElem_mem h1, rfl⟩, h2, fun x hx hlt => ?_⟩
 obtain ⟨k, hk, rfl⟩ := nm_in hx
 cases e : loopB l (nmI l k) with
 | false => rfl
 | true => exact (h3 k hk e hlt).elim
def ShO (l : List Ent) (sh : List Bool) (first : ByteArray) (out : List ByteArray) : Prop := sh.length = l.length ∧ ∀ k, k < l.length → sh.getD k false = !(ltB first (nmI l k) && !memB out (nmI l k))
theorem ShR.begin {l : List Ent} {sh : List Bool} {f : Nat} (h : ShR l sh f l.length) : ShO l sh (nmI l f) [nmI l f] := by
 refine ⟨h.1, fun k hk => ?_⟩
 rw [h.2 k hk hk]
 cases e : ltB (nmI l f) (nmI l k) with
 | false => rfl
 | true =>
  have : memB [nmI l f] (nmI l k) = false := by
   unfold memB
   simp only [List.any_cons, List.any_nil, Bool.or_false, decide_eq_false_iff_not]
   intro e'
   rw [e'] at e; exact ltN_irr _ (ltB_iff.1 e)
  rw [this]; rfl
theorem ShO.next {l : List Ent} {sh : List Bool} {first : ByteArray} {out : List ByteArray} (hd : (l.map eNm).Nodup) (h : ShO l sh first out) {q : Nat} (hq : q < l.length) : ShO l (sh.set q true) first (out ++ [nmI l q]) := by
 refine ⟨by rw [List.length_set]; exact h.1, fun k hk => ?_⟩
 have hm : memB (out ++ [nmI l q]) (nmI l k) = (memB out (nmI l k) || decide (nmI l q = nmI l k)) := by unfold memB; rw [List.any_append]; simp
 by_cases e : k = q
 ·subst e
  rw [List.getD_eq_getElem?_getD, List.getElem?_set_self (by rw [h.1]; exact hk), hm]
  simp
 ·rw [List.getD_eq_getElem?_getD, List.getElem?_set_ne (fun e' => e e'.symm), ← List.getD_eq_getElem?_getD, h.2 k hk, hm]
  have : decide (nmI l q = nmI l k) = false := decide_eq_false fun e' => e (by
   have h1 := atN_nmI hd hq
   have h2 := atN_nmI hd hk
   rw [e'] at h1
   rw [h1] at h2
   injection h2 with h2; exact h2.symm)
  rw [this, Bool.or_false]
theorem next_step {l : List Ent} (hd : (l.map eNm).Nodup) {first : ByteArray} {out : List ByteArray} {at_ q : Nat} (hat : at_ < l.length) (hC : CiOn l first (nmI l at_) out) (hno : first ∉ usesN l (nmI l at_))
  (h : LstR l (fun k => memB (usI l at_) (nmI l k) && candB l first out (nmI l k)) l.length (q : Int)) : q < l.length ∧ CiOn l first (nmI l q) (out ++ [nmI l q]) := by
 obtain ⟨h1, h2, h3⟩ := h.open
 rw [Bool.and_eq_true] at h2
 have hu := usesN_nmI hd hat
 refine ⟨h1, hC.step hno (by rw [hu]; exact memB_iff.1 h2.1) h2.2 fun u hu2 hc => ?_⟩
 have hin := cand_in hc
 cases hx : atN l u with
 | none => rw [hx] at hin; cases hin
 | some k =>
  obtain ⟨hk, rfl⟩ := nmI_of hx
  rcases ltN_tri (nmI l k) (nmI l q) with e | e | e
  ·exact (h3 k hk (by rw [Bool.and_eq_true]; exact ⟨memB_iff.2 (by rw [← hu]; exact hu2), hc⟩) e).elim
  ·exact .inl e
  ·exact .inr e
theorem next_some {l : List Ent} (hd : (l.map eNm).Nodup) {first : ByteArray} {out : List ByteArray} {at_ : Nat} (hat : at_ < l.length) (hC : CiOn l first (nmI l at_) out) (hno : first ∉ usesN l (nmI l at_))
  (h : LstR l (fun k => memB (usI l at_) (nmI l k) && candB l first out (nmI l k)) l.length (-1)) : False := by
 obtain ⟨u, hu, hc⟩ := cand_ex hC.rch hno
 have hin := cand_in hc
 generalize hv : (-1 : Int) = v at h
 cases h with
 | yes q _ _ _ => omega
 | no h =>
  cases hx : atN l u with
  | none => rw [hx] at hin; cases hin
  | some k =>
   obtain ⟨hk, rfl⟩ := nmI_of hx
   have := h k hk
   rw [hc, Bool.and_true, memB_iff.2 (by rw [← usesN_nmI hd hat]; exact hu)] at this
   cases this
end Go.Proofs.YtpmnnoopoblpgaaGreat

/- Walks: slices.Sorted(slices.Values(l)) of a list of names. -/
namespace Go.Proofs.YtpmnnoopoblpgaaGreat
open Go Go.RowKit Go.Maps Go.Sort Go.Shelf

attribute [local go_sem] Oper.semAt_some

def KpV (K : Nat) (W W' : World) : Prop := ∀ b, b < K → W'.heap[b]? = W.heap[b]?
theorem KpV.trans {K : Nat} {A B C : World} (h : KpV K A B) (k : KpV K B C) : KpV K A C := fun b hb => (k b hb).trans (h b hb)
theorem KpV.cell {K : Nat} {A B : World} (h : KpV K A B) {b o : Nat} (hb : b < K) : B.cell? ⟨b, o, none⟩ = A.cell? ⟨b, o, none⟩ := by
 have := h b hb
 unfold World.cell?
 simp only [this]
theorem KpV.of_below {K : Nat} {A B : World} (h : Below K A B) : KpV K A B := fun b hb => h.block b hb
end Go.Proofs.YtpmnnoopoblpgaaGreat

/- Walks: circle where there is none; whole, Sound there. -/
namespace Go.Proofs.YtpmnnoopoblpgaaGreat
open Go Go.RowKit Go.Maps Go.Shelf

theorem bytesLess_ltB (x y : ByteArray) : Op.bytesLess x.toList y.toList = ltB x y := by
 unfold ltB
 rw [ByteArray.toList_eq, ByteArray.toList_eq, bytesLess_eq]
theorem circ1_fn {B b : Nat} {w : World} {first : ByteArray} (hb : b < B) (hc : w.cell? ⟨b, 0, none⟩ = some (.string first)) : MayFn 158 #[.pointer (some ⟨b, 0, none⟩)] (geB first) B w := by
 refine ⟨enters_of Tryz.func158 (by kernel_rfl) rfl, fun x hx W hB => ?_⟩
 have q := (hB.cell (p := ⟨b, 0, none⟩) hb).trans hc
 have hg : geB first x = !Op.bytesLess x.toList first.toList := by rw [bytesLess_ltB]; rfl
 have hgH := Lib.hid hg
 clear hc hB hg
 go_enter Tryz.func158, Tryz.ntmps158
 go_wp2_with fail
 go_ret
 exact ⟨ret_bool hgH.out.symm, .refl _ _⟩
theorem keysI_sorted {B xb : Nat} {w : World} {s : Sg} {l : List Ent} {sa : Option Addr} {sc : Nat} {la : Option Addr} {lc bm : Nat} (h : DOp B w xb s l sa sc la lc bm) :
  Calls Tryz.prog 138 #[.func (.func 187) #[] #[.pointer (some ⟨w.heap.size, 0, none⟩)]] (w.alloc (.cells #[.map (some bm)] 68)) (SortedOut w (fun x => (atN l x).isSome)) := by
 obtain ⟨n, hn, D, ho, ht, hs, hf⟩ := h.hM
 have c2 := sortedOf ho (by rw [hs]; omega) (keysI_seq ho) (enters_of Tryz.func187 (by kernel_rfl) rfl)
 have e : (fun x : ByteArray => has D (.string (bs x))) = fun x => (atN l x).isSome := funext fun x => by
  have := (hf x).1
  unfold atV at this
  rw [Option.isSome_map] at this
  exact this
 rw [e] at c2
 exact c2
theorem keepS2 {K : Nat} {w w1 w2 : World} {p1 p2 : Addr} {v1 v2 : Value} (h : Below w.heap.size w w1 ∧ w1.cell? p1 = some v1 ∧ w1.cell? p2 = some v2) (hb : Below K w1 w2) (hK : K = w1.heap.size) :
  Below w.heap.size w w2 ∧ w2.cell? p1 = some v1 ∧ w2.cell? p2 = some v2 := by
 subst hK
 exact ⟨bcall h.1 hb, cell_later hb h.2.1, cell_later hb h.2.2⟩
def noLoop (l : List Ent) : Prop := ∀ x, (atN l x).isSome = true → loopB l x = false
def ciRel (w1 : World) (L : List ByteArray) (i : Value) (wr : World) : Prop := ∃ k : Nat, i = .int .i64 k ∧ k ≤ L.length ∧ Below w1.heap.size w1 wr
set_option maxHeartbeats 4000000 in
theorem circleNo_any {B xb : Nat} {w : World} {s : Sg} {l : List Ent} (h : DLib B w xb s l) (hno : noLoop l) : Calls Tryz.prog 114 #[.pointer (some ⟨xb, 0, none⟩)] w fun e w' => e = .returned (.slice none 0 0) ∧ Below w.heap.size w w' := by
 obtain ⟨W, hW⟩ : ∃ W, w.alloc (.cells #[.pointer (some ⟨xb, 0, none⟩)] 61) = W := ⟨_, rfl⟩
 have hBW : Below w.heap.size w W := by rw [← hW]; exact below1 w _
 have q0 : W.cell? ⟨w.heap.size, 0, none⟩ = some (.pointer (some ⟨xb, 0, none⟩)) := by rw [← hW]; clear hW; go_simp
 have hDW := h.call hBW
 obtain ⟨sa, sc, la, lc, bm, hO⟩ := hDW.op
 have q2 := hO.q2
 have c1 := keysI_call (some bm) W
 have c2 := keysI_sorted hO
 have c1H := Lib.hid c1
 have c2H := Lib.hid c2
 have hDH := Lib.hid hDW
 have hnoH := Lib.hid hno
 have hBWH := Lib.hid hBW
 clear c1 c2 hO hDW h hno
 go_enter Tryz.func114, Tryz.ntmps114
 go_wp2_with fail
 try rw [hW]
 refine c1H.out.mono ?_
 rintro e w1 ⟨rfl, rfl⟩
 go_wp2_with fail
 refine c2H.out.mono ?_
 rintro e w2 ⟨v, L, rfl, hL, -, hmem, hb2⟩
 obtain ⟨aL, cL, rfl, hLs⟩ := OwnS.strs hL
 have mL := hLs.le
 have hLH := Lib.hid hLs
 have hmH := Lib.hid hmem
 have hb2H := Lib.hid hb2
 have p0 := cell_later hb2 q0
 clear hL hmem hb2 hLs q0 q2 hBW
 clear hW
 go_wp2_with fail
 go_loopw [18] (fun i wr => ciRel w2 L i wr) (fun i _ => L.length - (intOf i).toNat)
 case atStart => exact ⟨0, rfl, Nat.zero_le _, .refl _ _⟩
 case round =>
  obtain ⟨k, rfl, hk, hB⟩ := hrel
  by_cases hlt : k < L.length
  ·obtain ⟨bL, oL, rfl, -, qL, hz⟩ := (hLH.out.below hB).str k hlt
   have hlo := hnoH.out L[k] ((hmH.out _).1 (List.getElem_mem hlt))
   obtain ⟨first, hfst⟩ : ∃ first, L[k] = first := ⟨_, rfl⟩
   rw [hfst] at qL hz hlo
   obtain ⟨W3, hW3⟩ : ∃ W3, wr.alloc (.cells #[.string first] 9) = W3 := ⟨_, rfl⟩
   have hB3 : Below wr.heap.size wr W3 := by rw [← hW3]; exact below1 wr _
   have r4 : W3.cell? ⟨wr.heap.size, 0, none⟩ = some (.string first) := by rw [← hW3]; clear hW3; go_simp
   have r1 := cell_later hB3 (cell_later hB p0)
   have hBall := bcall hB hB3
   have hwr : wr.heap.size < W3.heap.size := by rw [← hW3]; simp
   have hDr := hDH.out.call (hb2H.out.trans (hBall.mono hb2H.out.size))
   have hbd : Below W3.heap.size W3 W3.drew := Below.drew (.refl W3.heap.size _)
   have vr : ∀ Wc, Below W3.heap.size W3 Wc → Calls Tryz.prog 152 #[.pointer (some ⟨xb, 0, none⟩), .string first, .func (.func 158) #[] #[.pointer (some ⟨wr.heap.size, 0, none⟩)]] Wc fun e w' => ∃ ob, e = .returned (.map (some ob)) ∧ (∀ W', Below w'.heap.size w' W' → (Instr.lookup 88 (.map (some ob)) (.string first) false).run Tryz.prog W' = .ok (.bool false) W') ∧ Below Wc.heap.size Wc w' := fun Wc hc => by
    refine (reached_any (hDr.call hc) (circ1_fn (by have := hc.size; omega) (cell_later hc r4)) first hz).mono ?_
    rintro e w' ⟨ob, m, rfl, h1, h2, h3, h4⟩
    refine ⟨ob, rfl, fun W' hb' => ?_, h4⟩
    have := (h3.below hb' h3.lt).look (tm := 88) Tryz.underlying88 Tryz.underlying9 Tryz.underlying4 (zBool W') first (big_max hz)
    rw [show rchB l (geB first) first first = false from hlo] at this
    exact this
   have hk0 : Below W3.heap.size W3 W3.drew ∧ W3.drew.cell? ⟨w.heap.size, 0, none⟩ = some (.pointer (some ⟨xb, 0, none⟩)) ∧ W3.drew.cell? ⟨wr.heap.size, 0, none⟩ = some (.string first) := ⟨hbd, cell_later hbd r1, cell_later hbd r4⟩
   have vrH := Lib.hid vr
   have hBaH := Lib.hid hBall
   have hWH := Lib.hid hW3
   clear vr hBall hDr hbd hB hB3 hlo hfst hwr r1 r4 hW3
   go_wp2_with fail
   rw [hWH.out]
   go_region_held3 (fun w' => Below W3.heap.size W3 w' ∧ w'.cell? ⟨w.heap.size, 0, none⟩ = some (.pointer (some ⟨xb, 0, none⟩)) ∧ w'.cell? ⟨wr.heap.size, 0, none⟩ = some (.string first))
    ((first | exact hk0 | exact keepS2 ‹_› hb4 rfl))
    ((go_at_call 152; (with_reducible refine (vrH.out _ ?_).mono ?_); exact (And.left ‹_›); rintro e w4 ⟨ob, rfl, hlkF, hb4⟩; have hlk := hlkF w4 (.refl _ _)))
   have hB4 := And.left (‹Below W3.heap.size W3 w4 ∧ _›)
   have hfin := Lib.hid (show ciRel w2 L (.int .i64 ((k : Int) + 1)) w4 from ⟨k + 1, by simp, hlt, bcall hBaH.out hB4⟩)
   clear hB4
   go_wp2_with fail
   go_roundw
   case rel => exact hfin.out
   case measure => simp [intOf]; omega
  ·have hkk : ((k : Int) < (L.length : Int)) = False := eq_false (by omega)
   have hfin := Lib.hid (hBWH.out.trans (hb2H.out.trans (hB.mono hb2H.out.size) |>.mono hBWH.out.size))
   clear hB hlt hk
   go_wp2_with fail
   go_ret
   exact ⟨rfl, hfin.out⟩
end Go.Proofs.YtpmnnoopoblpgaaGreat

/- Walks: whole, Sound. -/
namespace Go.Proofs.YtpmnnoopoblpgaaGreat
open Go Go.RowKit Go.Maps Go.Shelf

open Classical in
noncomputable def noneB (f : ByteArray → Bool) : Bool := decide (∀ x, f x = false)
theorem SMap.none {w : World} {b M n : Nat} {f : ByteArray → Bool} (h : SSet w b M n f) : (((n : Nat) : Int) == 0) = noneB f := by
 obtain ⟨D, ho, ht, hs, hf⟩ := h
 obtain ⟨hnd, hmem⟩ := strKeys_set ho (string_keyed Tryz.underlying9) Tryz.underlying9
 obtain ⟨es, rfl, _⟩ := ht
 rw [Bool.eq_iff_iff, beq_iff_eq]
 unfold noneB
 simp only [decide_eq_true_eq]
 have hlen : (strKeys (.map es : DataW Unit)).length = n := by rw [← hs]; simp [strKeys, Maps.size]
 constructor
 ·intro e x
  have : strKeys (.map es : DataW Unit) = [] := List.length_eq_zero_iff.1 (by omega)
  cases hx : f x with
  | false => rfl
  | true =>
   rw [← (hf x).1] at hx
   have := (hmem _).2 hx
   simp_all
 ·intro hall
  cases hk : strKeys (.map es : DataW Unit) with
  | nil => rw [hk] at hlen; simp at hlen; omega
  | cons y r =>
   have h1 := (hmem y).1 (by rw [hk]; simp)
   have h2 := (hf (nmOf y)).1
   have h3 : (nmOf y).data.toList = y := bs_nmOf y
   rw [h3, hall] at h2
   rw [h1] at h2
   cases h2
def CircNil (xb : Nat) (b : Bool) (w : World) : Prop := ∀ W, Below w.heap.size w W → Calls Tryz.prog 114 #[.pointer (some ⟨xb, 0, none⟩)] W fun e w' => ∃ a n c, e = .returned (.slice a n c) ∧ a.isNone = b ∧ Below W.heap.size W w'
theorem circNil_no {B xb : Nat} {w : World} {s : Sg} {l : List Ent} (h : DLib B w xb s l) (hno : noLoop l) : CircNil xb true w := fun _ hb =>
 (circleNo_any (h.call hb) hno).mono fun _ _ ⟨h1, h2⟩ => ⟨none, 0, 0, h1, rfl, h2⟩
set_option maxHeartbeats 1000000 in
theorem whole_any {B xb : Nat} {w : World} {s : Sg} {l : List Ent} {b : Bool} (h : DLib B w xb s l) (hc : CircNil xb b w) : Calls Tryz.prog 92 #[.pointer (some ⟨xb, 0, none⟩)] w fun e w' => e = .returned (.bool (noneB (misB l) && b)) ∧ Below w.heap.size w w' := by
 have vm := Lib.hid (missing_any h)
 have hcH := Lib.hid hc
 clear h hc
 go_enter Tryz.func92, Tryz.ntmps92
 go_wp2_with fail
 refine vm.out.mono ?_
 rintro e w1 ⟨ob, M, m, rfl, -, -, -, h4, h5⟩
 have hlen := h4.len (tm := 88) Tryz.underlying88 3
 have hn := SMap.none h4
 have vc := Lib.hid (hcH.out w1 h5)
 have hbH := Lib.hid h5
 clear h4 h5
 cases hz : noneB (misB l) with
 | false =>
  rw [hz] at hn
  have hzH := Lib.hid hz
  clear hz
  go_wp2_with fail
  go_ret
  exact ⟨ret_bool (by rw [hzH.out]; rfl), hbH.out⟩
 | true =>
  rw [hz] at hn
  have hzH := Lib.hid hz
  clear hz
  go_wp2_with fail
  refine vc.out.mono ?_
  rintro e w2 ⟨a, n, c, rfl, ha, hb⟩
  have hnl := Lib.run_eql_slice_nil (P := Tryz.prog) w2 29 9 a n c 0 0 Tryz.underlying29
  rw [ha] at hnl
  have hb2H := Lib.hid (bcall hbH.out hb)
  clear hb ha
  go_wp2_with fail
  go_ret
  exact ⟨ret_bool (by rw [hzH.out, Bool.true_and]), hb2H.out⟩
noncomputable def soundE (s : Sg) (l : List Ent) (b : Bool) : Bool × Int := if okLib s l = true then ((noneB (misB l) && b) && noneB (faiB s l), 0) else (false, 1)
set_option maxHeartbeats 1000000 in
theorem Sound_any {S1 S2 : Nat → Prop} {b : Bool} (sa la : Option Addr) (sc lc : Nat) (s : Sg) (l : List Ent) (w : World) (h1 : Sign S1 w sa sc s) (h2 : LibL S2 w la lc l) (hl : l.length ≤ 1000)
  (hc : ∀ B W xb, Below w.heap.size w W → DLib B W xb s l → CircNil xb b W) :
  Calls Tryz.prog 32 #[.slice sa s.length sc, .slice la l.length lc] w fun e w' => e = .returned (.tuple #[.bool (soundE s l b).1, .int .i64 (soundE s l b).2]) ∧ Below w.heap.size w w' := by
 have v := open_any sa la sc lc s l w h1 h2 hl
 have m := h2.le
 have m1 := h1.le
 obtain ⟨r, hr⟩ : ∃ r, soundE s l b = r := ⟨_, rfl⟩
 rw [hr]
 have vH := Lib.hid v
 have hrH := Lib.hid hr
 have hcH := Lib.hid hc
 clear v h1 h2 hr hc
 go_enter Tryz.func32, Tryz.ntmps32
 go_wp2_with fail
 refine vH.out.mono ?_
 rintro e w1 ⟨hb, h⟩
 have hbH := Lib.hid hb
 rcases h with ⟨hok, rfl⟩ | ⟨hok, xb, hxb, rfl, hD⟩
 ·have hf : soundE s l b = (false, 1) := by unfold soundE; rw [hok]; rfl
  have hfH := Lib.hid (hrH.out.symm.trans hf)
  clear hb hok vH hf
  go_wp2_with fail
  go_ret2
  exact ⟨by rw [hfH.out]; rfl, hbH.out⟩
 ·have hf : soundE s l b = ((noneB (misB l) && b) && noneB (faiB s l), 0) := by unfold soundE; rw [hok]; rfl
  have vw := whole_any hD (hcH.out _ w1 xb hb hD)
  have vf := fun W (hw : Below w1.heap.size w1 W) => failing_any (hD.call hw)
  have hfH := Lib.hid (hrH.out.symm.trans hf)
  have vwH := Lib.hid vw
  have vfH := Lib.hid vf
  clear hb hok vH hf hxb hD vw vf
  generalize (noneB (misB l) && b) = bw at *
  cases bw with
  | false =>
   go_wp2_with fail
   refine vwH.out.mono ?_
   rintro e w2 ⟨rfl, hb2⟩
   have hb2H := Lib.hid (bcall hbH.out hb2)
   clear hb2
   go_wp2_with fail
   go_ret2
   exact ⟨by rw [hfH.out]; rfl, hb2H.out⟩
  | true =>
   go_wp2_with fail
   refine vwH.out.mono ?_
   rintro e w2 ⟨rfl, hb2⟩
   have vf2 := Lib.hid (vfH.out w2 hb2)
   have hb2H := Lib.hid (bcall hbH.out hb2)
   clear hb2
   go_wp2_with fail
   refine vf2.out.mono ?_
   rintro e w3 ⟨ob, M, m, rfl, -, -, -, h4, h5⟩
   have hlen := h4.len (tm := 88) Tryz.underlying88 3
   have hn := SMap.none h4
   have hb3H := Lib.hid (bcall hb2H.out h5)
   clear h4 h5
   go_wp2_with fail
   go_ret2
   exact ⟨by rw [hfH.out]; rfl, hb3H.out⟩
end Go.Proofs.YtpmnnoopoblpgaaGreat

/- Walks: slices.Sorted of slices.Values, slices.Contains of names; what is free on the way along a circle. -/
namespace Go.Proofs.YtpmnnoopoblpgaaGreat
open Go Go.RowKit Go.Maps Go.Shelf

end Go.Proofs.YtpmnnoopoblpgaaGreat

/- Walks: what is free on the way along a circle. -/
namespace Go.Proofs.YtpmnnoopoblpgaaGreat
open Go Go.RowKit Go.Maps Go.Shelf

end Go.Proofs.YtpmnnoopoblpgaaGreat

/- Walks: where one can go on along a circle. -/
namespace Go.Proofs.YtpmnnoopoblpgaaGreat
open Go Go.RowKit Go.Maps Go.Shelf

end Go.Proofs.YtpmnnoopoblpgaaGreat

/- The circle's list in its box; which of the next ones is taken. -/
namespace Go.Proofs.YtpmnnoopoblpgaaGreat
open Go Go.RowKit Go.Maps Go.Shelf

theorem ownS_one (w : World) (x : ByteArray) (hx : x.size ≤ big) : OwnS (w.alloc (.cells #[.string x] 9)) w.heap.size (.slice (some ⟨w.heap.size, 0, none⟩) 1 1) [x] :=
 ⟨[[.string x]], ⟨by simp [strE], .inr ⟨w.heap.size, 1, #[.string x], rfl, Nat.le_refl _, heap_alloc_new w _, Nat.le_refl _, by decide, rfl, by simp [strE]⟩⟩, rfl, fun i h1 h2 => by
  have : i = 0 := by simp at h1; omega
  subst this
  exact ⟨rfl, hx⟩⟩
def CircOut (l : List Ent) (w : World) (e : Ending) (w' : World) : Prop := ∃ C, CircR l C ∧ (match C with | none => e = .returned (.slice none 0 0) | some L => ∃ v, e = .returned v ∧ L.length ≠ 0 ∧ OwnS w' w.heap.size v L) ∧ Below w.heap.size w w'
end Go.Proofs.YtpmnnoopoblpgaaGreat

/- Walks: the least circle. -/
namespace Go.Proofs.YtpmnnoopoblpgaaGreat
open Go Go.RowKit Go.Maps Go.Shelf

theorem mem_at {l : List Ent} {x : ByteArray} : x ∈ l.map eNm ↔ (atN l x).isSome = true := by
 rw [List.mem_map]
 constructor
 ·rintro ⟨y, hy, rfl⟩
  cases hat : atN l (eNm y) with
  | none => exact (atN_none hat y hy rfl).elim
  | some k => rfl
 ·intro h
  cases hat : atN l x with
  | none => rw [hat] at h; cases h
  | some k =>
   obtain ⟨hk, e⟩ := atN_some hat
   exact ⟨l[k], List.getElem_mem hk, e⟩
end Go.Proofs.YtpmnnoopoblpgaaGreat

/- Walks: deps.Holds, deps.Strongest; Sound in general. -/
namespace Go.Proofs.YtpmnnoopoblpgaaGreat
open Go Go.RowKit Go.Maps

def StgRet (r : List Int × Int) (w : World) (e : Ending) (w' : World) : Prop := ∃ a c, e = .returned (.tuple #[.slice a r.1.length c, .int .i64 r.2]) ∧ Ints (fun _ => True) w' a c r.1 ∧ Below w.heap.size w w'
theorem StgRet.nil {w w' : World} {er : Int} (hb : Below w.heap.size w w') : StgRet ([], er) w (.returned (.tuple #[.slice none 0 0, .int .i64 er])) w' := ⟨none, 0, rfl, Sl.empty, hb⟩
end Go.Proofs.YtpmnnoopoblpgaaGreat

/- Walks: circle of the reference. -/
namespace Go.Proofs.YtpmnnoopoblpgaaGreat
open Go Go.RowKit Go.Maps

theorem cmp_lt {x y : ByteArray} (h : ltN x y) : Op.bytesLess x.toList y.toList = true ∧ Op.bytesLess y.toList x.toList = false ∧ (x.toList == y.toList) = false ∧ (y.toList == x.toList) = false ∧ ltB x y = true ∧ ltB y x = false := by
 have h1 : ltB x y = true := ltB_iff.2 h
 have h2 : ltB y x = false := by
  cases e : ltB y x with
  | false => rfl
  | true => exact (ltN_irr _ (ltN_tr _ _ _ h (ltB_iff.1 e))).elim
 have hne : x ≠ y := fun e => by subst e; exact ltN_irr _ h
 exact ⟨by rw [bytesLess_ltB]; exact h1, by rw [bytesLess_ltB]; exact h2, str_neq hne, str_neq (fun e => hne e.symm), h1, h2⟩
theorem cmp_eq (x : ByteArray) : Op.bytesLess x.toList x.toList = false ∧ ltB x x = false := by
 have h2 : ltB x x = false := by
  cases e : ltB x x with
  | false => rfl
  | true => exact (ltN_irr _ (ltB_iff.1 e)).elim
 exact ⟨by rw [bytesLess_ltB]; exact h2, h2⟩
theorem Sl.nmc {S : Nat → Prop} {w : World} {b off c : Nat} {l : List Ent} (h : LibL S w (some ⟨b, off, none⟩) c l) {j : Nat} (hj : j < l.length) : w.cell? ⟨b, off + j * 5, none⟩ = some (.string (nmI l j)) ∧ (nmI l j).size ≤ big := by
 obtain ⟨b', off', a1, c1, a2, c2, a3, c3, e, -, p0, -, -, -, -, z1, -⟩ := h.ent j hj
 injection e with e
 injection e with e1 e2
 subst e1 e2
 rw [nmI_at hj]
 exact ⟨p0, z1⟩
theorem Sl.usc {S : Nat → Prop} {w : World} {b off c : Nat} {l : List Ent} (h : LibL S w (some ⟨b, off, none⟩) c l) {j : Nat} (hj : j < l.length) : ∃ a c', w.cell? ⟨b, off + j * 5 + 3, none⟩ = some (.slice a (usI l j).length c') ∧ Sl strE S w a c' (usI l j) := by
 obtain ⟨b', off', a1, c1, a2, c2, a3, c3, e, -, -, -, -, p3, -, -, -, -, hU, -⟩ := h.ent j hj
 injection e with e
 injection e with e1 e2
 subst e1 e2
 rw [usI_at hj]
 exact ⟨a2, c2, p3, hU⟩
abbrev shV (w : World) (l : List Ent) : Value := .slice (some ⟨w.heap.size, 0, none⟩) l.length l.length
def rc1Rel (l : List Ent) (w : World) (iv fv : Value) (wr : World) : Prop := ∃ (i : Nat) (v : Int) (sh : List Bool), iv = .int .i64 i ∧ i ≤ l.length ∧ fv = .int .i64 v ∧ LstR l (fun k => loopB l (nmI l k)) i v ∧ sh.length = l.length ∧ OwnB wr w.heap.size (shV w l) sh ∧ Below w.heap.size w wr
def rc2Rel (l : List Ent) (w : World) (i : Nat) (jv : Value) (wr : World) : Prop := ∃ (j : Nat) (sh : List Bool), jv = .int .i64 j ∧ j ≤ l.length ∧ ShR l sh i j ∧ OwnB wr w.heap.size (shV w l) sh ∧ Below w.heap.size w wr
theorem rc2_step {l : List Ent} {w wr : World} {i j : Nat} {sh : List Bool} {v : Bool} (hj : j < l.length) (hS : ShR l sh i j) (hO : OwnB wr w.heap.size (shV w l) sh) (hB : Below w.heap.size w wr) (hv : (!ltB (nmI l i) (nmI l j)) = v) :
  rc2Rel l w i (.int .i64 ((j : Int) + 1)) (wr.setCell ⟨w.heap.size, j, none⟩ (.bool v)).drew := by
 obtain ⟨h1, h2⟩ := OwnB.set hO hS.1.symm j v
 have h3 := hS.step hj
 rw [hv] at h3
 exact ⟨j + 1, _, by simp, hj, h3, OwnL.call h1 (Below.drew (.refl _ _)), (hB.grown h2 hB.size (fun k e => by injection e with e; omega)).trans ((Below.drew (.refl _ _)).mono (Nat.le_trans hB.size h2.size))⟩
def rc4Rel (l : List Ent) (w : World) (first : ByteArray) (d : Nat) (av ov : Value) (wr : World) : Prop := ∃ (a : Nat) (out : List ByteArray) (sh : List Bool), av = .int .i64 a ∧ a < l.length ∧ OwnS wr d ov out ∧ ShO l sh first out ∧ OwnB wr w.heap.size (shV w l) sh ∧ CiOn l first (nmI l a) out ∧ Below w.heap.size w wr ∧ w.heap.size < d ∧ d ≤ wr.heap.size
def rc5Rel (l : List Ent) (w4 : World) (P : Nat → Bool) (kv nv : Value) (wr : World) : Prop := ∃ (k : Nat) (v : Int), kv = .int .i64 k ∧ k ≤ l.length ∧ nv = .int .i64 v ∧ LstR l P k v ∧ Below w4.heap.size w4 wr
def lenS : Value → Nat
 | .slice _ n _ => n
 | _ => 0
theorem lenS_eq {w : World} {base : Nat} {v : Value} {l : List ByteArray} (h : OwnS w base v l) : lenS v = l.length := by
 obtain ⟨a, c, rfl, -⟩ := OwnS.strs h
 rfl
set_option maxRecDepth 100000 in
set_option maxHeartbeats 8000000 in
theorem rcircle_any {S1 : Nat → Prop} {s : Sg} (la : Option Addr) (lc : Nat) (l : List Ent) (w : World) (h : LibL S1 w la lc l) (hok : okLib s l = true) :
  Calls Tryz.prog 115 #[.slice la l.length lc] w (CircOut l w) := by
 have m := h.le
 have hp := okLib_parts hok
 have hl60 := hp.2.1
 have hdn := hp.2.2.2
 have hms := fun W => makeFalse (W := W) l.length (by omega)
 have hH := Lib.hid h.lt
 have hdnH := Lib.hid hdn
 have hokH := Lib.hid hok
 have hst := Lib.hid (show rc1Rel l w (.int .i64 0) (.int .i64 (-1)) (w.alloc (.cells (Array.replicate l.length (.bool false)) 4)).drew from
  ⟨0, -1, _, rfl, Nat.zero_le _, rfl, .start, by rw [List.length_replicate], OwnL.call (OwnB.made w l.length (by omega)) (Below.drew (.refl _ _)), bcall (below1 w _) (Below.drew (.refl _ _))⟩)
 clear h hok hp hdn
 go_enter Tryz.func115, Tryz.ntmps115
 go_wp2_with fail
 go_region
 clear hms
 go_wp2_with fail
 go_loopw [5, 3] (fun iv fv wr => rc1Rel l w iv fv wr) (fun iv _ _ => l.length - (intOf iv).toNat)
 case atStart => exact hst.out
 case round =>
  obtain ⟨i, v, sh, rfl, hi, rfl, hL, hsl, hO, hB⟩ := hrel
  by_cases hil : i < l.length
  ·obtain ⟨b, off, rfl, -⟩ := hH.out.dat (fun e => by rw [e] at hil; simp at hil)
   have hii : (i : Int) < (l.length : Int) := by omega
   have hLH := Lib.hid hL
   have h2 := Lib.hid (show rc2Rel l w i (.int .i64 0) wr from ⟨0, sh, rfl, Nat.zero_le _, ⟨hsl, fun k hk => by omega⟩, hO, hB⟩)
   clear hL hO hB hsl
   go_wp2_with fail
   go_loopw [6] (fun jv wr => rc2Rel l w i jv wr) (fun jv _ => l.length - (intOf jv).toNat)
   case atStart => exact h2.out
   case round =>
    obtain ⟨j, sh, rfl, hj, hS, hO, hB⟩ := hrel
    by_cases hjl : j < l.length
    ·obtain ⟨mc, mf⟩ := OwnB.cell hO hS.1.symm j (by rw [hS.1]; exact hjl)
     obtain ⟨pj, -⟩ := (hH.out.below hB).nmc hjl
     obtain ⟨pi, -⟩ := (hH.out.below hB).nmc hil
     have hjj : (j : Int) < (l.length : Int) := by omega
     obtain ⟨nj, hnj⟩ : ∃ nj, nmI l j = nj := ⟨_, rfl⟩
     obtain ⟨ni, hni⟩ : ∃ ni, nmI l i = ni := ⟨_, rfl⟩
     rw [hnj] at pj
     rw [hni] at pi
     generalize sh[j]'(by rw [hS.1]; exact hjl) = x0 at mc
     rcases ltN_tri nj ni with e | e | e
     ·obtain ⟨y1, y2, y3, y4, -, hlt⟩ := cmp_lt e
      clear e
      have hfin := Lib.hid (rc2_step hjl hS hO hB (v := true) (by rw [hni, hnj, hlt]; rfl))
      clear hlt hS hO hB hni hnj
      go_wp2_with fail
      go_region
      go_wp2_with fail
      go_roundw
      case rel => exact hfin.out
      case measure => simp [intOf]; omega
     ·have hq := str_eq e
      subst e
      obtain ⟨y1, hlt⟩ := cmp_eq nj
      have hfin := Lib.hid (rc2_step hjl hS hO hB (v := true) (by rw [hni, hnj, hlt]; rfl))
      clear hlt hS hO hB hni hnj
      go_wp2_with fail
      go_region
      go_wp2_with fail
      go_roundw
      case rel => exact hfin.out
      case measure => simp [intOf]; omega
     ·obtain ⟨y1, y2, y3, y4, hlt, -⟩ := cmp_lt e
      clear e
      have hfin := Lib.hid (rc2_step hjl hS hO hB (v := false) (by rw [hni, hnj, hlt]; rfl))
      clear hlt hS hO hB hni hnj
      go_wp2_with fail
      go_region
      go_wp2_with fail
      go_roundw
      case rel => exact hfin.out
      case measure => simp [intOf]; omega
    ·have hjn : j = l.length := by omega
     have hjj : ((j : Int) < (l.length : Int)) = False := eq_false (by omega)
     have hsl := hS.1
     have hcl : citeB l sh i i = loopB l (nmI l i) := cit_loop (fun k hk => hS.2 k (by omega) hk)
     have hbd : Below wr.heap.size wr wr.drew := Below.drew (.refl _ _)
     obtain ⟨aS, cS, eS, hSb⟩ := OwnB.bools hO
     injection eS with i1 i2 i3
     subst i1 i3
     clear i2
     have vc := rcited_any (some ⟨b, off, none⟩) (some ⟨w.heap.size, 0, none⟩) lc l.length l sh wr.drew ((hH.out.below hB).below hbd) hokH.out (hSb.below hbd) hsl i hil
     obtain ⟨pi, -⟩ := (hH.out.below hB).nmc hil
     obtain ⟨ni, hni⟩ : ∃ ni, nmI l i = ni := ⟨_, rfl⟩
     rw [hni] at pi
     have vcH := Lib.hid vc
     have hOH := Lib.hid hO
     have hBH := Lib.hid hB
     have hniH := Lib.hid hni
     obtain ⟨c, hc⟩ : ∃ c, loopB l (nmI l i) = c := ⟨_, rfl⟩
     rw [hc] at hcl
     clear vc hO hB hS hSb hni
     cases c with
     | false =>
      have hcH := Lib.hid hc
      clear hc
      go_wp2_with fail
      refine wp_region_held_drew (S := fun w' => w'.cell? ⟨b, off + i * 5, none⟩ = some (.string ni)) (by kernel_rfl) (cell_later hbd pi) (fun hS => ?_)
      refine rtk 0 41 (v := ?_) hS ?_ ?_; rotate_left; · (intro w9 hS9; have z0 := hS9; go_simp; try (with_reducible rfl))
      refine rtk 1 42 (v := ?_) hS ?_ ?_; rotate_left; · (intro w9 hS9; have z0 := hS9; go_simp; try (with_reducible rfl))
      refine rtk 2 43 (v := ?_) hS ?_ ?_; rotate_left; · (intro w9 hS9; have z0 := hS9; go_simp; try (with_reducible rfl))
      refine rtk 4 45 (v := ?_) hS ?_ ?_; rotate_left; · (intro w9 hS9; have z0 := hS9; go_simp; try (with_reducible rfl))
      refine region_call 3 rfl (by kernel_rfl) (fun K hK => ?_)
      go_simp
      (with_reducible refine vcH.out.mono ?_)
      rintro e w6 ⟨vc, rfl, hOc, hbc⟩
      obtain ⟨ac, cc, rfl, hSc⟩ := OwnB.bools hOc
      obtain ⟨bc, oc, rfl, -, qc⟩ := hSc.bool i (by simp; exact hil)
      simp only [List.getElem_map, List.getElem_range, hcl] at qc
      have hlen1 : ((List.range l.length).map (citeB l sh i)).length = l.length := by simp
      rw [hlen1]
      have hbcH := Lib.hid hbc
      clear hOc hSc hlen1
      go_simp
      refine hK.out _ _ (cell_later hbc hS) ?_
      clear hK hS K
      intro hS
      try simp only [Act.put, List.setIfInBounds_toArray, List.set_cons_zero, List.set_cons_succ]
      clear hbc
      refine rtk 5 46 (v := ?_) hS ?_ ?_; rotate_left; · (intro w9 hS9; have z0 := hS9; go_simp; try (with_reducible rfl))
      refine region_call 6 rfl (by kernel_rfl) (fun K hK => ?_)
      go_simp
      refine hK.out _ _ hS ?_
      clear hK hS K
      intro hS
      try simp only [Act.put, List.setIfInBounds_toArray, List.set_cons_zero, List.set_cons_succ]
      refine rtk 7 48 (v := ?_) hS ?_ ?_; rotate_left; · (intro w9 hS9; have z0 := hS9; go_simp; try (with_reducible rfl))
      refine rsk 8 49 hS ?_
      refine rsk 9 50 hS ?_
      refine rsk 10 51 hS ?_
      refine rsk 11 52 hS ?_
      refine rsk 12 53 hS ?_
      refine rsk 13 54 hS ?_
      refine rsk 14 55 hS ?_
      refine rsk 15 56 hS ?_
      refine rsk 16 57 hS ?_
      refine rsk 17 58 hS ?_
      refine rsk 18 59 hS ?_
      refine rsk 19 60 hS ?_
      refine rsk 20 61 hS ?_
      refine rsk 21 62 hS ?_
      refine rsk 22 63 hS ?_
      refine rtk 23 64 (v := ?_) hS ?_ ?_; rotate_left; · (intro w9 hS9; have z0 := hS9; go_simp; try (with_reducible rfl))
      refine wpAnyH_done (by kernel_rfl) ?_ _
      clear hS
      have hfin := Lib.hid (show rc1Rel l w (.int .i64 ((i : Int) + 1)) (.int .i64 v) w6 from ⟨i + 1, _, sh, by simp, hil, rfl, hLH.out.skip hcH.out, hsl, OwnL.call hOH.out (bcall hbd hbcH.out), bcall hBH.out (bcall hbd hbcH.out)⟩)
      go_wp2_with fail
      go_roundw
      case rel => exact hfin.out
      case measure => simp [intOf]; omega
     | true =>
      have hcH := Lib.hid hc
      clear hc
      rcases hLH.out.cases with rfl | ⟨f, rfl, hf⟩
      ·go_wp2_with fail
       refine wp_region_held_drew (S := fun w' => w'.cell? ⟨b, off + i * 5, none⟩ = some (.string ni)) (by kernel_rfl) (cell_later hbd pi) (fun hS => ?_)
       refine rtk 0 41 (v := ?_) hS ?_ ?_; rotate_left; · (intro w9 hS9; have z0 := hS9; go_simp; try (with_reducible rfl))
       refine rtk 1 42 (v := ?_) hS ?_ ?_; rotate_left; · (intro w9 hS9; have z0 := hS9; go_simp; try (with_reducible rfl))
       refine rtk 2 43 (v := ?_) hS ?_ ?_; rotate_left; · (intro w9 hS9; have z0 := hS9; go_simp; try (with_reducible rfl))
       refine rtk 4 45 (v := ?_) hS ?_ ?_; rotate_left; · (intro w9 hS9; have z0 := hS9; go_simp; try (with_reducible rfl))
       refine region_call 3 rfl (by kernel_rfl) (fun K hK => ?_)
       go_simp
       (with_reducible refine vcH.out.mono ?_)
       rintro e w6 ⟨vc, rfl, hOc, hbc⟩
       obtain ⟨ac, cc, rfl, hSc⟩ := OwnB.bools hOc
       obtain ⟨bc, oc, rfl, -, qc⟩ := hSc.bool i (by simp; exact hil)
       simp only [List.getElem_map, List.getElem_range, hcl] at qc
       have hlen1 : ((List.range l.length).map (citeB l sh i)).length = l.length := by simp
       rw [hlen1]
       have hbcH := Lib.hid hbc
       clear hOc hSc hlen1
       go_simp
       refine hK.out _ _ (cell_later hbc hS) ?_
       clear hK hS K
       intro hS
       try simp only [Act.put, List.setIfInBounds_toArray, List.set_cons_zero, List.set_cons_succ]
       clear hbc
       refine rtk 5 46 (v := ?_) hS ?_ ?_; rotate_left; · (intro w9 hS9; have z0 := hS9; go_simp; try (with_reducible rfl))
       refine region_call 6 rfl (by kernel_rfl) (fun K hK => ?_)
       go_simp
       refine hK.out _ _ hS ?_
       clear hK hS K
       intro hS
       try simp only [Act.put, List.setIfInBounds_toArray, List.set_cons_zero, List.set_cons_succ]
       refine rtk 7 48 (v := ?_) hS ?_ ?_; rotate_left; · (intro w9 hS9; have z0 := hS9; go_simp; try (with_reducible rfl))
       refine rtk 8 49 (v := ?_) hS ?_ ?_; rotate_left; · (intro w9 hS9; have z0 := hS9; go_simp; try (with_reducible rfl))
       refine rtk 9 50 (v := ?_) hS ?_ ?_; rotate_left; · (intro w9 hS9; have z0 := hS9; go_simp; try (with_reducible rfl))
       refine rtk 10 51 (v := ?_) hS ?_ ?_; rotate_left; · (intro w9 hS9; have z0 := hS9; go_simp; try (with_reducible rfl))
       refine rsk 11 52 hS ?_
       refine rsk 12 53 hS ?_
       refine rsk 13 54 hS ?_
       refine rsk 14 55 hS ?_
       refine rsk 15 56 hS ?_
       refine rsk 16 57 hS ?_
       refine rsk 17 58 hS ?_
       refine rsk 18 59 hS ?_
       refine rsk 19 60 hS ?_
       refine rsk 20 61 hS ?_
       refine rsk 21 62 hS ?_
       refine rtk 22 63 (v := ?_) hS ?_ ?_; rotate_left; · (intro w9 hS9; have z0 := hS9; go_simp; try (with_reducible rfl))
       refine rtk 23 64 (v := ?_) hS ?_ ?_; rotate_left; · (intro w9 hS9; have z0 := hS9; go_simp; try (with_reducible rfl))
       refine wpAnyH_done (by kernel_rfl) ?_ _
       clear hS
       have hfin := Lib.hid (show rc1Rel l w (.int .i64 ((i : Int) + 1)) (.int .i64 (i : Int)) w6 from ⟨i + 1, _, sh, by simp, hil, rfl, hLH.out.first hcH.out, hsl, OwnL.call hOH.out (bcall hbd hbcH.out), bcall hBH.out (bcall hbd hbcH.out)⟩)
       go_wp2_with fail
       go_roundw
       case rel => exact hfin.out
       case measure => simp [intOf]; omega
      ·have hfl : f < l.length := by omega
       have hff : (f : Int) < (l.length : Int) := by omega
       have hf0 : ((f : Int) < 0) = False := eq_false (by omega)
       obtain ⟨pf, -⟩ := (hH.out.below hBH.out).nmc hfl
       obtain ⟨nf, hnf⟩ : ∃ nf, nmI l f = nf := ⟨_, rfl⟩
       rw [hnf] at pf
       obtain ⟨bl, hbl⟩ : ∃ bl, Op.bytesLess ni.toList nf.toList = bl := ⟨_, rfl⟩
       have hlt := hbl
       rw [bytesLess_ltB, ← hniH.out, ← hnf] at hlt
       have hltH := Lib.hid hlt
       clear hlt hnf
       cases bl with
       | false =>
        go_wp2_with fail
        refine wp_region_held_drew (S := fun w' => w'.cell? ⟨b, off + i * 5, none⟩ = some (.string ni) ∧ w'.cell? ⟨b, off + f * 5, none⟩ = some (.string nf)) (by kernel_rfl) ⟨cell_later hbd pi, cell_later hbd pf⟩ (fun hS => ?_)
        refine rtk 0 41 (v := ?_) hS ?_ ?_; rotate_left; · (intro w9 hS9; obtain ⟨z0, z1⟩ := hS9; go_simp; try (with_reducible rfl))
        refine rtk 1 42 (v := ?_) hS ?_ ?_; rotate_left; · (intro w9 hS9; obtain ⟨z0, z1⟩ := hS9; go_simp; try (with_reducible rfl))
        refine rtk 2 43 (v := ?_) hS ?_ ?_; rotate_left; · (intro w9 hS9; obtain ⟨z0, z1⟩ := hS9; go_simp; try (with_reducible rfl))
        refine rtk 4 45 (v := ?_) hS ?_ ?_; rotate_left; · (intro w9 hS9; obtain ⟨z0, z1⟩ := hS9; go_simp; try (with_reducible rfl))
        refine region_call 3 rfl (by kernel_rfl) (fun K hK => ?_)
        go_simp
        (with_reducible refine vcH.out.mono ?_)
        rintro e w6 ⟨vc, rfl, hOc, hbc⟩
        obtain ⟨ac, cc, rfl, hSc⟩ := OwnB.bools hOc
        obtain ⟨bc, oc, rfl, -, qc⟩ := hSc.bool i (by simp; exact hil)
        simp only [List.getElem_map, List.getElem_range, hcl] at qc
        have hlen1 : ((List.range l.length).map (citeB l sh i)).length = l.length := by simp
        rw [hlen1]
        have hbcH := Lib.hid hbc
        clear hOc hSc hlen1
        go_simp
        refine hK.out _ _ ⟨cell_later hbc hS.1, cell_later hbc hS.2⟩ ?_
        clear hK hS K
        intro hS
        try simp only [Act.put, List.setIfInBounds_toArray, List.set_cons_zero, List.set_cons_succ]
        clear hbc
        refine rtk 5 46 (v := ?_) hS ?_ ?_; rotate_left; · (intro w9 hS9; obtain ⟨z0, z1⟩ := hS9; go_simp; try (with_reducible rfl))
        refine region_call 6 rfl (by kernel_rfl) (fun K hK => ?_)
        go_simp
        refine hK.out _ _ hS ?_
        clear hK hS K
        intro hS
        try simp only [Act.put, List.setIfInBounds_toArray, List.set_cons_zero, List.set_cons_succ]
        refine rtk 7 48 (v := ?_) hS ?_ ?_; rotate_left; · (intro w9 hS9; obtain ⟨z0, z1⟩ := hS9; go_simp; try (with_reducible rfl))
        refine rtk 8 49 (v := ?_) hS ?_ ?_; rotate_left; · (intro w9 hS9; obtain ⟨z0, z1⟩ := hS9; go_simp; try (with_reducible rfl))
        refine rtk 9 50 (v := ?_) hS ?_ ?_; rotate_left; · (intro w9 hS9; obtain ⟨z0, z1⟩ := hS9; go_simp; try (with_reducible rfl))
        refine rtk 10 51 (v := ?_) hS ?_ ?_; rotate_left; · (intro w9 hS9; obtain ⟨z0, z1⟩ := hS9; go_simp; try (with_reducible rfl))
        refine rtk 11 52 (v := ?_) hS ?_ ?_; rotate_left; · (intro w9 hS9; obtain ⟨z0, z1⟩ := hS9; go_simp; try (with_reducible rfl))
        refine rtk 12 53 (v := ?_) hS ?_ ?_; rotate_left; · (intro w9 hS9; obtain ⟨z0, z1⟩ := hS9; go_simp; try (with_reducible rfl))
        refine rtk 13 54 (v := ?_) hS ?_ ?_; rotate_left; · (intro w9 hS9; obtain ⟨z0, z1⟩ := hS9; go_simp; try (with_reducible rfl))
        refine rtk 14 55 (v := ?_) hS ?_ ?_; rotate_left; · (intro w9 hS9; obtain ⟨z0, z1⟩ := hS9; go_simp; try (with_reducible rfl))
        refine rtk 15 56 (v := ?_) hS ?_ ?_; rotate_left; · (intro w9 hS9; obtain ⟨z0, z1⟩ := hS9; go_simp; try (with_reducible rfl))
        refine rtk 16 57 (v := ?_) hS ?_ ?_; rotate_left; · (intro w9 hS9; obtain ⟨z0, z1⟩ := hS9; go_simp; try (with_reducible rfl))
        refine rtk 17 58 (v := ?_) hS ?_ ?_; rotate_left; · (intro w9 hS9; obtain ⟨z0, z1⟩ := hS9; go_simp; try (with_reducible rfl))
        refine rtk 18 59 (v := ?_) hS ?_ ?_; rotate_left; · (intro w9 hS9; obtain ⟨z0, z1⟩ := hS9; go_simp; try (with_reducible rfl))
        refine rtk 19 60 (v := ?_) hS ?_ ?_; rotate_left; · (intro w9 hS9; obtain ⟨z0, z1⟩ := hS9; go_simp; try (with_reducible rfl))
        refine rtk 20 61 (v := ?_) hS ?_ ?_; rotate_left; · (intro w9 hS9; obtain ⟨z0, z1⟩ := hS9; go_simp; try (with_reducible rfl))
        refine rtk 21 62 (v := ?_) hS ?_ ?_; rotate_left; · (intro w9 hS9; obtain ⟨z0, z1⟩ := hS9; go_simp; try (with_reducible rfl))
        refine rtk 22 63 (v := ?_) hS ?_ ?_; rotate_left; · (intro w9 hS9; obtain ⟨z0, z1⟩ := hS9; go_simp; try (with_reducible rfl))
        refine rtk 23 64 (v := ?_) hS ?_ ?_; rotate_left; · (intro w9 hS9; obtain ⟨z0, z1⟩ := hS9; go_simp; try (with_reducible rfl))
        refine wpAnyH_done (by kernel_rfl) ?_ _
        clear hS
        have hfin := Lib.hid (show rc1Rel l w (.int .i64 ((i : Int) + 1)) (.int .i64 (f : Int)) w6 from ⟨i + 1, _, sh, by simp, hil, rfl, hLH.out.keep hltH.out, hsl, OwnL.call hOH.out (bcall hbd hbcH.out), bcall hBH.out (bcall hbd hbcH.out)⟩)
        go_wp2_with fail
        go_roundw
        case rel => exact hfin.out
        case measure => simp [intOf]; omega
       | true =>
        go_wp2_with fail
        refine wp_region_held_drew (S := fun w' => w'.cell? ⟨b, off + i * 5, none⟩ = some (.string ni) ∧ w'.cell? ⟨b, off + f * 5, none⟩ = some (.string nf)) (by kernel_rfl) ⟨cell_later hbd pi, cell_later hbd pf⟩ (fun hS => ?_)
        refine rtk 0 41 (v := ?_) hS ?_ ?_; rotate_left; · (intro w9 hS9; obtain ⟨z0, z1⟩ := hS9; go_simp; try (with_reducible rfl))
        refine rtk 1 42 (v := ?_) hS ?_ ?_; rotate_left; · (intro w9 hS9; obtain ⟨z0, z1⟩ := hS9; go_simp; try (with_reducible rfl))
        refine rtk 2 43 (v := ?_) hS ?_ ?_; rotate_left; · (intro w9 hS9; obtain ⟨z0, z1⟩ := hS9; go_simp; try (with_reducible rfl))
        refine rtk 4 45 (v := ?_) hS ?_ ?_; rotate_left; · (intro w9 hS9; obtain ⟨z0, z1⟩ := hS9; go_simp; try (with_reducible rfl))
        refine region_call 3 rfl (by kernel_rfl) (fun K hK => ?_)
        go_simp
        (with_reducible refine vcH.out.mono ?_)
        rintro e w6 ⟨vc, rfl, hOc, hbc⟩
        obtain ⟨ac, cc, rfl, hSc⟩ := OwnB.bools hOc
        obtain ⟨bc, oc, rfl, -, qc⟩ := hSc.bool i (by simp; exact hil)
        simp only [List.getElem_map, List.getElem_range, hcl] at qc
        have hlen1 : ((List.range l.length).map (citeB l sh i)).length = l.length := by simp
        rw [hlen1]
        have hbcH := Lib.hid hbc
        clear hOc hSc hlen1
        go_simp
        refine hK.out _ _ ⟨cell_later hbc hS.1, cell_later hbc hS.2⟩ ?_
        clear hK hS K
        intro hS
        try simp only [Act.put, List.setIfInBounds_toArray, List.set_cons_zero, List.set_cons_succ]
        clear hbc
        refine rtk 5 46 (v := ?_) hS ?_ ?_; rotate_left; · (intro w9 hS9; obtain ⟨z0, z1⟩ := hS9; go_simp; try (with_reducible rfl))
        refine region_call 6 rfl (by kernel_rfl) (fun K hK => ?_)
        go_simp
        refine hK.out _ _ hS ?_
        clear hK hS K
        intro hS
        try simp only [Act.put, List.setIfInBounds_toArray, List.set_cons_zero, List.set_cons_succ]
        refine rtk 7 48 (v := ?_) hS ?_ ?_; rotate_left; · (intro w9 hS9; obtain ⟨z0, z1⟩ := hS9; go_simp; try (with_reducible rfl))
        refine rtk 8 49 (v := ?_) hS ?_ ?_; rotate_left; · (intro w9 hS9; obtain ⟨z0, z1⟩ := hS9; go_simp; try (with_reducible rfl))
        refine rtk 9 50 (v := ?_) hS ?_ ?_; rotate_left; · (intro w9 hS9; obtain ⟨z0, z1⟩ := hS9; go_simp; try (with_reducible rfl))
        refine rtk 10 51 (v := ?_) hS ?_ ?_; rotate_left; · (intro w9 hS9; obtain ⟨z0, z1⟩ := hS9; go_simp; try (with_reducible rfl))
        refine rtk 11 52 (v := ?_) hS ?_ ?_; rotate_left; · (intro w9 hS9; obtain ⟨z0, z1⟩ := hS9; go_simp; try (with_reducible rfl))
        refine rtk 12 53 (v := ?_) hS ?_ ?_; rotate_left; · (intro w9 hS9; obtain ⟨z0, z1⟩ := hS9; go_simp; try (with_reducible rfl))
        refine rtk 13 54 (v := ?_) hS ?_ ?_; rotate_left; · (intro w9 hS9; obtain ⟨z0, z1⟩ := hS9; go_simp; try (with_reducible rfl))
        refine rtk 14 55 (v := ?_) hS ?_ ?_; rotate_left; · (intro w9 hS9; obtain ⟨z0, z1⟩ := hS9; go_simp; try (with_reducible rfl))
        refine rtk 15 56 (v := ?_) hS ?_ ?_; rotate_left; · (intro w9 hS9; obtain ⟨z0, z1⟩ := hS9; go_simp; try (with_reducible rfl))
        refine rtk 16 57 (v := ?_) hS ?_ ?_; rotate_left; · (intro w9 hS9; obtain ⟨z0, z1⟩ := hS9; go_simp; try (with_reducible rfl))
        refine rtk 17 58 (v := ?_) hS ?_ ?_; rotate_left; · (intro w9 hS9; obtain ⟨z0, z1⟩ := hS9; go_simp; try (with_reducible rfl))
        refine rtk 18 59 (v := ?_) hS ?_ ?_; rotate_left; · (intro w9 hS9; obtain ⟨z0, z1⟩ := hS9; go_simp; try (with_reducible rfl))
        refine rtk 19 60 (v := ?_) hS ?_ ?_; rotate_left; · (intro w9 hS9; obtain ⟨z0, z1⟩ := hS9; go_simp; try (with_reducible rfl))
        refine rtk 20 61 (v := ?_) hS ?_ ?_; rotate_left; · (intro w9 hS9; obtain ⟨z0, z1⟩ := hS9; go_simp; try (with_reducible rfl))
        refine rtk 21 62 (v := ?_) hS ?_ ?_; rotate_left; · (intro w9 hS9; obtain ⟨z0, z1⟩ := hS9; go_simp; try (with_reducible rfl))
        refine rtk 22 63 (v := ?_) hS ?_ ?_; rotate_left; · (intro w9 hS9; obtain ⟨z0, z1⟩ := hS9; go_simp; try (with_reducible rfl))
        refine rtk 23 64 (v := ?_) hS ?_ ?_; rotate_left; · (intro w9 hS9; obtain ⟨z0, z1⟩ := hS9; go_simp; try (with_reducible rfl))
        refine wpAnyH_done (by kernel_rfl) ?_ _
        clear hS
        have hfin := Lib.hid (show rc1Rel l w (.int .i64 ((i : Int) + 1)) (.int .i64 (i : Int)) w6 from ⟨i + 1, _, sh, by simp, hil, rfl, hLH.out.less hcH.out hltH.out, hsl, OwnL.call hOH.out (bcall hbd hbcH.out), bcall hBH.out (bcall hbd hbcH.out)⟩)
        go_wp2_with fail
        go_roundw
        case rel => exact hfin.out
        case measure => simp [intOf]; omega
  ·have hin : i = l.length := by omega
   have hii : ((i : Int) < (l.length : Int)) = False := eq_false (by omega)
   rw [hin] at hL
   clear hin
   rcases hL.cases with rfl | ⟨f, rfl, hf⟩
   ·have hfin := Lib.hid (show CircOut l w (.returned (.slice none 0 0)) wr from ⟨none, loop_none hL, rfl, hB⟩)
    clear hL hO hB hil
    go_wp2_with fail
    go_ret
    exact hfin.out
   ·obtain ⟨hfl, hfm, hloop, hleast⟩ := loop_first hL
    obtain ⟨b, off, rfl, -⟩ := hH.out.dat (fun e => by rw [e] at hf; simp at hf)
    have hff : (f : Int) < (l.length : Int) := by omega
    have hf0 : ((f : Int) < 0) = False := eq_false (by omega)
    have hil := hfl
    have h2 := Lib.hid (show rc2Rel l w f (.int .i64 0) wr from ⟨0, sh, rfl, Nat.zero_le _, ⟨hsl, fun k hk => by omega⟩, hO, hB⟩)
    obtain ⟨first, hfn⟩ : ∃ first, nmI l f = first := ⟨_, rfl⟩
    rw [hfn] at hfm hloop hleast
    have hcR := Lib.hid (show ∀ C, CircS l first [first] first C → CircR l (some C) from fun C hC => ⟨first, hfm, hloop, hleast, hC⟩)
    have hci0 := Lib.hid (CiOn.start hloop (mem_at.1 hfm))
    clear hL hO hB hsl hfm hloop hleast
    go_wp2_with fail
    go_loopw [7] (fun jv wr => rc2Rel l w f jv wr) (fun jv _ => l.length - (intOf jv).toNat)
    case atStart => exact h2.out
    case round =>
     obtain ⟨j, sh, rfl, hj, hS, hO, hB⟩ := hrel
     by_cases hjl : j < l.length
     ·obtain ⟨mc, mf⟩ := OwnB.cell hO hS.1.symm j (by rw [hS.1]; exact hjl)
      obtain ⟨pj, -⟩ := (hH.out.below hB).nmc hjl
      obtain ⟨pi, -⟩ := (hH.out.below hB).nmc hil
      have hjj : (j : Int) < (l.length : Int) := by omega
      obtain ⟨nj, hnj⟩ : ∃ nj, nmI l j = nj := ⟨_, rfl⟩
      obtain ⟨ni, hni⟩ : ∃ ni, nmI l f = ni := ⟨_, rfl⟩
      rw [hnj] at pj
      rw [hni] at pi
      generalize sh[j]'(by rw [hS.1]; exact hjl) = x0 at mc
      rcases ltN_tri nj ni with e | e | e
      ·obtain ⟨y1, y2, y3, y4, -, hlt⟩ := cmp_lt e
       clear e
       have hfin := Lib.hid (rc2_step hjl hS hO hB (v := true) (by rw [hni, hnj, hlt]; rfl))
       clear hlt hS hO hB hni hnj
       go_wp2_with fail
       go_region
       go_wp2_with fail
       go_roundw
       case rel => exact hfin.out
       case measure => simp [intOf]; omega
      ·have hq := str_eq e
       subst e
       obtain ⟨y1, hlt⟩ := cmp_eq nj
       have hfin := Lib.hid (rc2_step hjl hS hO hB (v := true) (by rw [hni, hnj, hlt]; rfl))
       clear hlt hS hO hB hni hnj
       go_wp2_with fail
       go_region
       go_wp2_with fail
       go_roundw
       case rel => exact hfin.out
       case measure => simp [intOf]; omega
      ·obtain ⟨y1, y2, y3, y4, hlt, -⟩ := cmp_lt e
       clear e
       have hfin := Lib.hid (rc2_step hjl hS hO hB (v := false) (by rw [hni, hnj, hlt]; rfl))
       clear hlt hS hO hB hni hnj
       go_wp2_with fail
       go_region
       go_wp2_with fail
       go_roundw
       case rel => exact hfin.out
       case measure => simp [intOf]; omega
     ·have hjn : j = l.length := by omega
      have hjj : ((j : Int) < (l.length : Int)) = False := eq_false (by omega)
      rw [hjn] at hS
      clear hjn
      have hSb := hS.begin
      rw [hfn] at hSb
      obtain ⟨pf0, zf⟩ := (hH.out.below hB).nmc hfl
      rw [hfn] at pf0 zf
      have hlt0 := (OwnL.lt hO w.heap.size rfl).2
      obtain ⟨w3, hw3⟩ : ∃ w3, w3 = wr := ⟨_, rfl⟩
      subst hw3
      have hst4 := Lib.hid (show rc4Rel l w first w3.heap.size (.int .i64 f) (.slice (some ⟨w3.heap.size, 0, none⟩) 1 1) (w3.alloc (.cells #[.string first] 9)) from
       ⟨f, [first], sh, rfl, hfl, ownS_one w3 first zf, hSb, OwnL.call hO (below1 _ _), by rw [hfn]; exact hci0.out, bcall hB (below1 _ _), hlt0, by simp⟩)
      obtain ⟨d, hd⟩ : ∃ d, w3.heap.size = d := ⟨_, rfl⟩
      rw [hd] at hst4
      clear hS hO hB hSb
      go_wp2_with fail
      try rw [hd]
      go_loopw [9, 8] (fun av ov wr => rc4Rel l w first d av ov wr) (fun _ ov _ => l.length + 1 - lenS ov)
      case atStart => first | exact hst4.out | (rw [hd]; exact hst4.out)
      case round =>
       obtain ⟨a, out, sh, rfl, hal, ho, hSo, hO, hCi, hB, hd1, hd2⟩ := hrel
       obtain ⟨aO, cO, rfl, hSO⟩ := OwnS.strs ho
       have hne : out.length ≠ 0 := fun e => by have := hCi.fo; rw [List.length_eq_zero_iff.1 e] at this; cases this
       have haa : (a : Int) < (l.length : Int) := by omega
       obtain ⟨pf, -⟩ := (hH.out.below hB).nmc hfl
       rw [hfn] at pf
       obtain ⟨aU, cU, pa, hU⟩ := (hH.out.below hB).usc hal
       have hbd : Below wr.heap.size wr wr.drew := Below.drew (.refl _ _)
       have vh := rHas_any aU cU (usI l a) first wr.drew (hU.below hbd)
       have mU := hU.le
       have mO := hSO.le
       obtain ⟨nU, hUn⟩ : ∃ nU, (usI l a).length = nU := ⟨_, rfl⟩
       rw [hUn] at pa vh mU
       have hus := usesN_nmI hdnH.out hal
       cases hmb : memB (usI l a) first with
       | true =>
        rw [hmb] at vh
        have hstop : first ∈ usesN l (nmI l a) := by rw [hus]; exact memB_iff.1 hmb
        have hfin := Lib.hid (show CircOut l w (.returned (.slice aO out.length cO)) wr.drew from ⟨some out, hcR.out _ (hCi.acc out (.stop hstop)), ⟨_, rfl, hne, OwnL.baseMono (ho.call hbd) (by omega)⟩, bcall hB hbd⟩)
        have vhH := Lib.hid vh
        clear vh hmb ho hSo hO hCi hB hSO hU hstop
        go_wp2_with fail
        refine wp_region_held_drew (S := fun w' => w'.cell? ⟨b, off + a * 5 + 3, none⟩ = some (.slice aU nU cU) ∧ w'.cell? ⟨b, off + f * 5, none⟩ = some (.string first)) (by kernel_rfl) ⟨cell_later hbd pa, cell_later hbd pf⟩ (fun hS => ?_)
        refine rtk 0 95 (v := ?_) hS ?_ ?_; rotate_left; · (intro w9 hS9; obtain ⟨z0, z1⟩ := hS9; go_simp; try (with_reducible rfl))
        refine rtk 1 96 (v := ?_) hS ?_ ?_; rotate_left; · (intro w9 hS9; obtain ⟨z0, z1⟩ := hS9; go_simp; try (with_reducible rfl))
        refine rtk 2 97 (v := ?_) hS ?_ ?_; rotate_left; · (intro w9 hS9; obtain ⟨z0, z1⟩ := hS9; go_simp; try (with_reducible rfl))
        refine rtk 3 98 (v := ?_) hS ?_ ?_; rotate_left; · (intro w9 hS9; obtain ⟨z0, z1⟩ := hS9; go_simp; try (with_reducible rfl))
        refine rtk 4 99 (v := ?_) hS ?_ ?_; rotate_left; · (intro w9 hS9; obtain ⟨z0, z1⟩ := hS9; go_simp; try (with_reducible rfl))
        refine rtk 5 100 (v := ?_) hS ?_ ?_; rotate_left; · (intro w9 hS9; obtain ⟨z0, z1⟩ := hS9; go_simp; try (with_reducible rfl))
        refine rtk 6 101 (v := ?_) hS ?_ ?_; rotate_left; · (intro w9 hS9; obtain ⟨z0, z1⟩ := hS9; go_simp; try (with_reducible rfl))
        refine rtk 7 102 (v := ?_) hS ?_ ?_; rotate_left; · (intro w9 hS9; obtain ⟨z0, z1⟩ := hS9; go_simp; try (with_reducible rfl))
        refine rtk 8 103 (v := ?_) hS ?_ ?_; rotate_left; · (intro w9 hS9; obtain ⟨z0, z1⟩ := hS9; go_simp; try (with_reducible rfl))
        refine rtk 9 104 (v := ?_) hS ?_ ?_; rotate_left; · (intro w9 hS9; obtain ⟨z0, z1⟩ := hS9; go_simp; try (with_reducible rfl))
        refine region_call 10 rfl (by kernel_rfl) (fun K hK => ?_)
        go_simp
        (with_reducible refine vhH.out.mono ?_)
        rintro e w6 ⟨rfl, rfl⟩
        go_simp
        refine hK.out _ _ hS ?_
        clear hK hS K
        intro hS
        try simp only [Act.put, List.setIfInBounds_toArray, List.set_cons_zero, List.set_cons_succ]
        refine rtk 11 106 (v := ?_) hS ?_ ?_; rotate_left; · (intro w9 hS9; obtain ⟨z0, z1⟩ := hS9; go_simp; try (with_reducible rfl))
        refine wpAnyH_done (by kernel_rfl) ?_ _
        clear hS
        go_wp2_with fail
        go_ret
        exact hfin.out
       | false =>
        rw [hmb] at vh
        have hno : first ∉ usesN l (nmI l a) := fun e => by rw [hus] at e; rw [memB_iff.2 e] at hmb; cases hmb
        obtain ⟨w4, hw4⟩ : ∃ w4, wr.drew = w4 := ⟨_, rfl⟩
        have hbd4 := hbd
        rw [hw4] at hbd4
        have hw44 : wr.heap.size ≤ w4.heap.size := hbd4.size
        have pa4 := cell_later hbd4 pa
        have hd2 : d ≤ w4.heap.size := by omega
        obtain ⟨ov0, hov⟩ : ∃ ov0, Value.slice aO out.length cO = ov0 := ⟨_, rfl⟩
        rw [hov] at ho
        have hB4H := Lib.hid (bcall hB hbd4)
        have hO4H := Lib.hid (OwnL.call hO hbd4)
        have hoH := Lib.hid (ho.call hbd4)
        have hSoH := Lib.hid hSo
        have hCiH := Lib.hid hCi
        have hnoH := Lib.hid hno
        have hUH := Lib.hid (hU.below hbd4)
        have vhH := Lib.hid vh
        have hst5 := Lib.hid (show rc5Rel l w4 (fun k => memB (usI l a) (nmI l k) && candB l first out (nmI l k)) (.int .i64 0) (.int .i64 (-1)) w4 from ⟨0, -1, rfl, Nat.zero_le _, rfl, .start, .refl _ _⟩)
        have hw4H := Lib.hid hw4
        have hovH := Lib.hid hov
        clear vh hmb ho hSo hO hCi hB hSO hU hno hus hw4 hov
        go_wp2_with fail
        refine wp_region_held_drew (S := fun w' => w'.cell? ⟨b, off + a * 5 + 3, none⟩ = some (.slice aU nU cU) ∧ w'.cell? ⟨b, off + f * 5, none⟩ = some (.string first)) (by kernel_rfl) ⟨cell_later hbd pa, cell_later hbd pf⟩ (fun hS => ?_)
        refine rtk 0 95 (v := ?_) hS ?_ ?_; rotate_left; · (intro w9 hS9; obtain ⟨z0, z1⟩ := hS9; go_simp; try (with_reducible rfl))
        refine rtk 1 96 (v := ?_) hS ?_ ?_; rotate_left; · (intro w9 hS9; obtain ⟨z0, z1⟩ := hS9; go_simp; try (with_reducible rfl))
        refine rtk 2 97 (v := ?_) hS ?_ ?_; rotate_left; · (intro w9 hS9; obtain ⟨z0, z1⟩ := hS9; go_simp; try (with_reducible rfl))
        refine rtk 3 98 (v := ?_) hS ?_ ?_; rotate_left; · (intro w9 hS9; obtain ⟨z0, z1⟩ := hS9; go_simp; try (with_reducible rfl))
        refine rtk 4 99 (v := ?_) hS ?_ ?_; rotate_left; · (intro w9 hS9; obtain ⟨z0, z1⟩ := hS9; go_simp; try (with_reducible rfl))
        refine rtk 5 100 (v := ?_) hS ?_ ?_; rotate_left; · (intro w9 hS9; obtain ⟨z0, z1⟩ := hS9; go_simp; try (with_reducible rfl))
        refine rtk 6 101 (v := ?_) hS ?_ ?_; rotate_left; · (intro w9 hS9; obtain ⟨z0, z1⟩ := hS9; go_simp; try (with_reducible rfl))
        refine rtk 7 102 (v := ?_) hS ?_ ?_; rotate_left; · (intro w9 hS9; obtain ⟨z0, z1⟩ := hS9; go_simp; try (with_reducible rfl))
        refine rtk 8 103 (v := ?_) hS ?_ ?_; rotate_left; · (intro w9 hS9; obtain ⟨z0, z1⟩ := hS9; go_simp; try (with_reducible rfl))
        refine rtk 9 104 (v := ?_) hS ?_ ?_; rotate_left; · (intro w9 hS9; obtain ⟨z0, z1⟩ := hS9; go_simp; try (with_reducible rfl))
        refine region_call 10 rfl (by kernel_rfl) (fun K hK => ?_)
        go_simp
        (with_reducible refine vhH.out.mono ?_)
        rintro e w6 ⟨rfl, rfl⟩
        go_simp
        refine hK.out _ _ hS ?_
        clear hK hS K
        intro hS
        try simp only [Act.put, List.setIfInBounds_toArray, List.set_cons_zero, List.set_cons_succ]
        refine rtk 11 106 (v := ?_) hS ?_ ?_; rotate_left; · (intro w9 hS9; obtain ⟨z0, z1⟩ := hS9; go_simp; try (with_reducible rfl))
        refine wpAnyH_done (by kernel_rfl) ?_ _
        clear hS
        clear vhH hbd pa hbd4
        go_wp2_with fail
        rw [hw4H.out]
        try rw [hovH.out]
        clear hw4H
        go_loopw [11, 10] (fun kv nv wr => rc5Rel l w4 (fun k => memB (usI l a) (nmI l k) && candB l first out (nmI l k)) kv nv wr) (fun kv _ _ => l.length - (intOf kv).toNat)
        case atStart => exact hst5.out
        case round =>
         obtain ⟨k, v, rfl, hk, rfl, hL5, hB5⟩ := hrel
         by_cases hkl : k < l.length
         ·have hkk : (k : Int) < (l.length : Int) := by omega
          have hbd : Below wr.heap.size wr wr.drew := Below.drew (.refl _ _)
          have hw4r : w4.heap.size ≤ wr.heap.size := hB5.size
          obtain ⟨pk, -⟩ := ((hH.out.below hB4H.out).below hB5).nmc hkl
          have pa := cell_later hB5 pa4
          have ps := cell_later hB5 (OwnB.cell hO4H.out hSoH.out.1.symm k (by rw [hSoH.out.1]; exact hkl)).1
          have hgs : sh.getD k false = sh[k]'(by rw [hSoH.out.1]; exact hkl) := by rw [List.getD_eq_getElem?_getD, List.getElem?_eq_getElem (by rw [hSoH.out.1]; exact hkl)]; rfl
          rw [← hgs] at ps
          have hcd := cit_cand hkl hfn hSoH.out.2
          obtain ⟨aS, cS, eS, hSb⟩ := OwnB.bools hO4H.out
          injection eS with i1 i2 i3
          subst i1 i3
          clear i2
          have vc := rcited_any (some ⟨b, off, none⟩) (some ⟨w.heap.size, 0, none⟩) lc l.length l sh wr.drew (((hH.out.below hB4H.out).below hB5).below hbd) hokH.out ((hSb.below hB5).below hbd) hSoH.out.1 k hkl
          have vh := rHas_any aU cU (usI l a) (nmI l k) wr.drew ((hUH.out.below hB5).below hbd)
          rw [hUn] at vh
          obtain ⟨nk, hnk⟩ : ∃ nk, nmI l k = nk := ⟨_, rfl⟩
          rw [hnk] at pk vh
          obtain ⟨hm, hhm⟩ : ∃ hm, memB (usI l a) nk = hm := ⟨_, rfl⟩
          rw [hhm] at vh
          obtain ⟨cf, hcl⟩ : ∃ cf, citeB l sh k f = cf := ⟨_, rfl⟩
          obtain ⟨sk, hsk⟩ : ∃ sk, sh.getD k false = sk := ⟨_, rfl⟩
          rw [hsk] at ps hcd
          rw [hcl] at hcd
          have hP : (fun k => memB (usI l a) (nmI l k) && candB l first out (nmI l k)) k = (hm && (!sk && cf)) := by
           show (memB (usI l a) (nmI l k) && candB l first out (nmI l k)) = _
           rw [← hcd, hnk, hhm]
          have hPH := Lib.hid hP
          have vcH := Lib.hid vc
          have vhH := Lib.hid vh
          have hL5H := Lib.hid hL5
          have hB5H := Lib.hid hB5
          have hnkH := Lib.hid hnk
          clear hP vc vh hL5 hB5 hSb hgs hcd hhm hsk hnk
          cases hm with
          | false =>
           go_wp2_with fail
           refine wp_region_held_drew (S := fun w' => w'.cell? ⟨b, off + a * 5 + 3, none⟩ = some (.slice aU nU cU) ∧ w'.cell? ⟨b, off + k * 5, none⟩ = some (.string nk) ∧ w'.cell? ⟨w.heap.size, k, none⟩ = some (.bool sk)) (by kernel_rfl) ⟨cell_later hbd pa, cell_later hbd pk, cell_later hbd ps⟩ (fun hS => ?_)
           refine rtk 0 113 (v := ?_) hS ?_ ?_; rotate_left; · (intro w9 hS9; obtain ⟨z0, z1, z2⟩ := hS9; go_simp; try (with_reducible rfl))
           refine rtk 1 114 (v := ?_) hS ?_ ?_; rotate_left; · (intro w9 hS9; obtain ⟨z0, z1, z2⟩ := hS9; go_simp; try (with_reducible rfl))
           refine rtk 2 115 (v := ?_) hS ?_ ?_; rotate_left; · (intro w9 hS9; obtain ⟨z0, z1, z2⟩ := hS9; go_simp; try (with_reducible rfl))
           refine rtk 3 116 (v := ?_) hS ?_ ?_; rotate_left; · (intro w9 hS9; obtain ⟨z0, z1, z2⟩ := hS9; go_simp; try (with_reducible rfl))
           refine rtk 4 117 (v := ?_) hS ?_ ?_; rotate_left; · (intro w9 hS9; obtain ⟨z0, z1, z2⟩ := hS9; go_simp; try (with_reducible rfl))
           refine rtk 5 118 (v := ?_) hS ?_ ?_; rotate_left; · (intro w9 hS9; obtain ⟨z0, z1, z2⟩ := hS9; go_simp; try (with_reducible rfl))
           refine rtk 6 119 (v := ?_) hS ?_ ?_; rotate_left; · (intro w9 hS9; obtain ⟨z0, z1, z2⟩ := hS9; go_simp; try (with_reducible rfl))
           refine rtk 7 120 (v := ?_) hS ?_ ?_; rotate_left; · (intro w9 hS9; obtain ⟨z0, z1, z2⟩ := hS9; go_simp; try (with_reducible rfl))
           refine rtk 8 121 (v := ?_) hS ?_ ?_; rotate_left; · (intro w9 hS9; obtain ⟨z0, z1, z2⟩ := hS9; go_simp; try (with_reducible rfl))
           refine rtk 9 122 (v := ?_) hS ?_ ?_; rotate_left; · (intro w9 hS9; obtain ⟨z0, z1, z2⟩ := hS9; go_simp; try (with_reducible rfl))
           refine region_call 10 rfl (by kernel_rfl) (fun K hK => ?_)
           go_simp
           (with_reducible refine vhH.out.mono ?_)
           rintro e w6 ⟨rfl, rfl⟩
           go_simp
           refine hK.out _ _ hS ?_
           clear hK hS K
           intro hS
           try simp only [Act.put, List.setIfInBounds_toArray, List.set_cons_zero, List.set_cons_succ]
           refine rtk 11 124 (v := ?_) hS ?_ ?_; rotate_left; · (intro w9 hS9; obtain ⟨z0, z1, z2⟩ := hS9; go_simp; try (with_reducible rfl))
           refine rsk 12 125 hS ?_
           refine rsk 13 126 hS ?_
           refine rsk 14 127 hS ?_
           refine rsk 15 128 hS ?_
           refine rsk 16 129 hS ?_
           refine rtk 17 130 (v := ?_) hS ?_ ?_; rotate_left; · (intro w9 hS9; obtain ⟨z0, z1, z2⟩ := hS9; go_simp; try (with_reducible rfl))
           refine rtk 18 131 (v := ?_) hS ?_ ?_; rotate_left; · (intro w9 hS9; obtain ⟨z0, z1, z2⟩ := hS9; go_simp; try (with_reducible rfl))
           refine rsk 19 132 hS ?_
           refine rsk 20 133 hS ?_
           refine rsk 21 134 hS ?_
           refine rsk 22 135 hS ?_
           refine rsk 23 136 hS ?_
           refine rsk 24 137 hS ?_
           refine rsk 25 138 hS ?_
           refine rtk 26 139 (v := ?_) hS ?_ ?_; rotate_left; · (intro w9 hS9; obtain ⟨z0, z1, z2⟩ := hS9; go_simp; try (with_reducible rfl))
           refine rtk 27 140 (v := ?_) hS ?_ ?_; rotate_left; · (intro w9 hS9; obtain ⟨z0, z1, z2⟩ := hS9; go_simp; try (with_reducible rfl))
           refine rsk 28 141 hS ?_
           refine rsk 29 142 hS ?_
           refine rsk 30 143 hS ?_
           refine rsk 31 144 hS ?_
           refine rsk 32 145 hS ?_
           refine rsk 33 146 hS ?_
           refine rsk 34 147 hS ?_
           refine rsk 35 148 hS ?_
           refine rsk 36 149 hS ?_
           refine rsk 37 150 hS ?_
           refine rsk 38 151 hS ?_
           refine rsk 39 152 hS ?_
           refine rsk 40 153 hS ?_
           refine rsk 41 154 hS ?_
           refine rsk 42 155 hS ?_
           refine rtk 43 156 (v := ?_) hS ?_ ?_; rotate_left; · (intro w9 hS9; obtain ⟨z0, z1, z2⟩ := hS9; go_simp; try (with_reducible rfl))
           refine wpAnyH_done (by kernel_rfl) ?_ _
           clear hS
           have hfin := Lib.hid (show rc5Rel l w4 (fun k => memB (usI l a) (nmI l k) && candB l first out (nmI l k)) (.int .i64 ((k : Int) + 1)) (.int .i64 v) wr.drew from ⟨k + 1, _, by simp, hkl, rfl, hL5H.out.skip (by rw [hPH.out]; rfl), bcall hB5H.out hbd⟩)
           go_wp2_with fail
           go_roundw
           case rel => exact hfin.out
           case measure => simp [intOf]; omega
          | true =>
           cases sk with
           | true =>
            go_wp2_with fail
            refine wp_region_held_drew (S := fun w' => w'.cell? ⟨b, off + a * 5 + 3, none⟩ = some (.slice aU nU cU) ∧ w'.cell? ⟨b, off + k * 5, none⟩ = some (.string nk) ∧ w'.cell? ⟨w.heap.size, k, none⟩ = some (.bool true)) (by kernel_rfl) ⟨cell_later hbd pa, cell_later hbd pk, cell_later hbd ps⟩ (fun hS => ?_)
            refine rtk 0 113 (v := ?_) hS ?_ ?_; rotate_left; · (intro w9 hS9; obtain ⟨z0, z1, z2⟩ := hS9; go_simp; try (with_reducible rfl))
            refine rtk 1 114 (v := ?_) hS ?_ ?_; rotate_left; · (intro w9 hS9; obtain ⟨z0, z1, z2⟩ := hS9; go_simp; try (with_reducible rfl))
            refine rtk 2 115 (v := ?_) hS ?_ ?_; rotate_left; · (intro w9 hS9; obtain ⟨z0, z1, z2⟩ := hS9; go_simp; try (with_reducible rfl))
            refine rtk 3 116 (v := ?_) hS ?_ ?_; rotate_left; · (intro w9 hS9; obtain ⟨z0, z1, z2⟩ := hS9; go_simp; try (with_reducible rfl))
            refine rtk 4 117 (v := ?_) hS ?_ ?_; rotate_left; · (intro w9 hS9; obtain ⟨z0, z1, z2⟩ := hS9; go_simp; try (with_reducible rfl))
            refine rtk 5 118 (v := ?_) hS ?_ ?_; rotate_left; · (intro w9 hS9; obtain ⟨z0, z1, z2⟩ := hS9; go_simp; try (with_reducible rfl))
            refine rtk 6 119 (v := ?_) hS ?_ ?_; rotate_left; · (intro w9 hS9; obtain ⟨z0, z1, z2⟩ := hS9; go_simp; try (with_reducible rfl))
            refine rtk 7 120 (v := ?_) hS ?_ ?_; rotate_left; · (intro w9 hS9; obtain ⟨z0, z1, z2⟩ := hS9; go_simp; try (with_reducible rfl))
            refine rtk 8 121 (v := ?_) hS ?_ ?_; rotate_left; · (intro w9 hS9; obtain ⟨z0, z1, z2⟩ := hS9; go_simp; try (with_reducible rfl))
            refine rtk 9 122 (v := ?_) hS ?_ ?_; rotate_left; · (intro w9 hS9; obtain ⟨z0, z1, z2⟩ := hS9; go_simp; try (with_reducible rfl))
            refine region_call 10 rfl (by kernel_rfl) (fun K hK => ?_)
            go_simp
            (with_reducible refine vhH.out.mono ?_)
            rintro e w6 ⟨rfl, rfl⟩
            go_simp
            refine hK.out _ _ hS ?_
            clear hK hS K
            intro hS
            try simp only [Act.put, List.setIfInBounds_toArray, List.set_cons_zero, List.set_cons_succ]
            refine rtk 11 124 (v := ?_) hS ?_ ?_; rotate_left; · (intro w9 hS9; obtain ⟨z0, z1, z2⟩ := hS9; go_simp; try (with_reducible rfl))
            refine rtk 12 125 (v := ?_) hS ?_ ?_; rotate_left; · (intro w9 hS9; obtain ⟨z0, z1, z2⟩ := hS9; go_simp; try (with_reducible rfl))
            refine rtk 13 126 (v := ?_) hS ?_ ?_; rotate_left; · (intro w9 hS9; obtain ⟨z0, z1, z2⟩ := hS9; go_simp; try (with_reducible rfl))
            refine rtk 14 127 (v := ?_) hS ?_ ?_; rotate_left; · (intro w9 hS9; obtain ⟨z0, z1, z2⟩ := hS9; go_simp; try (with_reducible rfl))
            refine rtk 15 128 (v := ?_) hS ?_ ?_; rotate_left; · (intro w9 hS9; obtain ⟨z0, z1, z2⟩ := hS9; go_simp; try (with_reducible rfl))
            refine rtk 16 129 (v := ?_) hS ?_ ?_; rotate_left; · (intro w9 hS9; obtain ⟨z0, z1, z2⟩ := hS9; go_simp; try (with_reducible rfl))
            refine rtk 17 130 (v := ?_) hS ?_ ?_; rotate_left; · (intro w9 hS9; obtain ⟨z0, z1, z2⟩ := hS9; go_simp; try (with_reducible rfl))
            refine rtk 18 131 (v := ?_) hS ?_ ?_; rotate_left; · (intro w9 hS9; obtain ⟨z0, z1, z2⟩ := hS9; go_simp; try (with_reducible rfl))
            refine rsk 19 132 hS ?_
            refine rsk 20 133 hS ?_
            refine rsk 21 134 hS ?_
            refine rsk 22 135 hS ?_
            refine rsk 23 136 hS ?_
            refine rsk 24 137 hS ?_
            refine rsk 25 138 hS ?_
            refine rtk 26 139 (v := ?_) hS ?_ ?_; rotate_left; · (intro w9 hS9; obtain ⟨z0, z1, z2⟩ := hS9; go_simp; try (with_reducible rfl))
            refine rtk 27 140 (v := ?_) hS ?_ ?_; rotate_left; · (intro w9 hS9; obtain ⟨z0, z1, z2⟩ := hS9; go_simp; try (with_reducible rfl))
            refine rsk 28 141 hS ?_
            refine rsk 29 142 hS ?_
            refine rsk 30 143 hS ?_
            refine rsk 31 144 hS ?_
            refine rsk 32 145 hS ?_
            refine rsk 33 146 hS ?_
            refine rsk 34 147 hS ?_
            refine rsk 35 148 hS ?_
            refine rsk 36 149 hS ?_
            refine rsk 37 150 hS ?_
            refine rsk 38 151 hS ?_
            refine rsk 39 152 hS ?_
            refine rsk 40 153 hS ?_
            refine rsk 41 154 hS ?_
            refine rsk 42 155 hS ?_
            refine rtk 43 156 (v := ?_) hS ?_ ?_; rotate_left; · (intro w9 hS9; obtain ⟨z0, z1, z2⟩ := hS9; go_simp; try (with_reducible rfl))
            refine wpAnyH_done (by kernel_rfl) ?_ _
            clear hS
            have hfin := Lib.hid (show rc5Rel l w4 (fun k => memB (usI l a) (nmI l k) && candB l first out (nmI l k)) (.int .i64 ((k : Int) + 1)) (.int .i64 v) wr.drew from ⟨k + 1, _, by simp, hkl, rfl, hL5H.out.skip (by rw [hPH.out]; rfl), bcall hB5H.out hbd⟩)
            go_wp2_with fail
            go_roundw
            case rel => exact hfin.out
            case measure => simp [intOf]; omega
           | false =>
            cases cf with
            | false =>
             go_wp2_with fail
             refine wp_region_held_drew (S := fun w' => w'.cell? ⟨b, off + a * 5 + 3, none⟩ = some (.slice aU nU cU) ∧ w'.cell? ⟨b, off + k * 5, none⟩ = some (.string nk) ∧ w'.cell? ⟨w.heap.size, k, none⟩ = some (.bool false)) (by kernel_rfl) ⟨cell_later hbd pa, cell_later hbd pk, cell_later hbd ps⟩ (fun hS => ?_)
             refine rtk 0 113 (v := ?_) hS ?_ ?_; rotate_left; · (intro w9 hS9; obtain ⟨z0, z1, z2⟩ := hS9; go_simp; try (with_reducible rfl))
             refine rtk 1 114 (v := ?_) hS ?_ ?_; rotate_left; · (intro w9 hS9; obtain ⟨z0, z1, z2⟩ := hS9; go_simp; try (with_reducible rfl))
             refine rtk 2 115 (v := ?_) hS ?_ ?_; rotate_left; · (intro w9 hS9; obtain ⟨z0, z1, z2⟩ := hS9; go_simp; try (with_reducible rfl))
             refine rtk 3 116 (v := ?_) hS ?_ ?_; rotate_left; · (intro w9 hS9; obtain ⟨z0, z1, z2⟩ := hS9; go_simp; try (with_reducible rfl))
             refine rtk 4 117 (v := ?_) hS ?_ ?_; rotate_left; · (intro w9 hS9; obtain ⟨z0, z1, z2⟩ := hS9; go_simp; try (with_reducible rfl))
             refine rtk 5 118 (v := ?_) hS ?_ ?_; rotate_left; · (intro w9 hS9; obtain ⟨z0, z1, z2⟩ := hS9; go_simp; try (with_reducible rfl))
             refine rtk 6 119 (v := ?_) hS ?_ ?_; rotate_left; · (intro w9 hS9; obtain ⟨z0, z1, z2⟩ := hS9; go_simp; try (with_reducible rfl))
             refine rtk 7 120 (v := ?_) hS ?_ ?_; rotate_left; · (intro w9 hS9; obtain ⟨z0, z1, z2⟩ := hS9; go_simp; try (with_reducible rfl))
             refine rtk 8 121 (v := ?_) hS ?_ ?_; rotate_left; · (intro w9 hS9; obtain ⟨z0, z1, z2⟩ := hS9; go_simp; try (with_reducible rfl))
             refine rtk 9 122 (v := ?_) hS ?_ ?_; rotate_left; · (intro w9 hS9; obtain ⟨z0, z1, z2⟩ := hS9; go_simp; try (with_reducible rfl))
             refine region_call 10 rfl (by kernel_rfl) (fun K hK => ?_)
             go_simp
             (with_reducible refine vhH.out.mono ?_)
             rintro e w6 ⟨rfl, rfl⟩
             go_simp
             refine hK.out _ _ hS ?_
             clear hK hS K
             intro hS
             try simp only [Act.put, List.setIfInBounds_toArray, List.set_cons_zero, List.set_cons_succ]
             refine rtk 11 124 (v := ?_) hS ?_ ?_; rotate_left; · (intro w9 hS9; obtain ⟨z0, z1, z2⟩ := hS9; go_simp; try (with_reducible rfl))
             refine rtk 12 125 (v := ?_) hS ?_ ?_; rotate_left; · (intro w9 hS9; obtain ⟨z0, z1, z2⟩ := hS9; go_simp; try (with_reducible rfl))
             refine rtk 13 126 (v := ?_) hS ?_ ?_; rotate_left; · (intro w9 hS9; obtain ⟨z0, z1, z2⟩ := hS9; go_simp; try (with_reducible rfl))
             refine rtk 14 127 (v := ?_) hS ?_ ?_; rotate_left; · (intro w9 hS9; obtain ⟨z0, z1, z2⟩ := hS9; go_simp; try (with_reducible rfl))
             refine rtk 15 128 (v := ?_) hS ?_ ?_; rotate_left; · (intro w9 hS9; obtain ⟨z0, z1, z2⟩ := hS9; go_simp; try (with_reducible rfl))
             refine rtk 16 129 (v := ?_) hS ?_ ?_; rotate_left; · (intro w9 hS9; obtain ⟨z0, z1, z2⟩ := hS9; go_simp; try (with_reducible rfl))
             refine rtk 17 130 (v := ?_) hS ?_ ?_; rotate_left; · (intro w9 hS9; obtain ⟨z0, z1, z2⟩ := hS9; go_simp; try (with_reducible rfl))
             refine rtk 18 131 (v := ?_) hS ?_ ?_; rotate_left; · (intro w9 hS9; obtain ⟨z0, z1, z2⟩ := hS9; go_simp; try (with_reducible rfl))
             refine rtk 19 132 (v := ?_) hS ?_ ?_; rotate_left; · (intro w9 hS9; obtain ⟨z0, z1, z2⟩ := hS9; go_simp; try (with_reducible rfl))
             refine rtk 20 133 (v := ?_) hS ?_ ?_; rotate_left; · (intro w9 hS9; obtain ⟨z0, z1, z2⟩ := hS9; go_simp; try (with_reducible rfl))
             refine rtk 21 134 (v := ?_) hS ?_ ?_; rotate_left; · (intro w9 hS9; obtain ⟨z0, z1, z2⟩ := hS9; go_simp; try (with_reducible rfl))
             refine rtk 23 136 (v := ?_) hS ?_ ?_; rotate_left; · (intro w9 hS9; obtain ⟨z0, z1, z2⟩ := hS9; go_simp; try (with_reducible rfl))
             refine region_call 22 rfl (by kernel_rfl) (fun K hK => ?_)
             go_simp
             (with_reducible refine vcH.out.mono ?_)
             rintro e w6 ⟨vc, rfl, hOc, hbc⟩
             obtain ⟨ac, cc, rfl, hSc⟩ := OwnB.bools hOc
             obtain ⟨bc, oc, rfl, -, qc⟩ := hSc.bool f (by simp; exact hfl)
             simp only [List.getElem_map, List.getElem_range, hcl] at qc
             have hlen1 : ((List.range l.length).map (citeB l sh k)).length = l.length := by simp
             rw [hlen1]
             have hbcH := Lib.hid hbc
             clear hOc hSc hlen1
             go_simp
             refine hK.out _ _ ⟨cell_later hbc hS.1, cell_later hbc hS.2.1, cell_later hbc hS.2.2⟩ ?_
             clear hK hS K
             intro hS
             try simp only [Act.put, List.setIfInBounds_toArray, List.set_cons_zero, List.set_cons_succ]
             clear hbc
             refine rtk 24 137 (v := ?_) hS ?_ ?_; rotate_left; · (intro w9 hS9; obtain ⟨z0, z1, z2⟩ := hS9; go_simp; try (with_reducible rfl))
             refine region_call 25 rfl (by kernel_rfl) (fun K hK => ?_)
             go_simp
             refine hK.out _ _ hS ?_
             clear hK hS K
             intro hS
             try simp only [Act.put, List.setIfInBounds_toArray, List.set_cons_zero, List.set_cons_succ]
             refine rtk 26 139 (v := ?_) hS ?_ ?_; rotate_left; · (intro w9 hS9; obtain ⟨z0, z1, z2⟩ := hS9; go_simp; try (with_reducible rfl))
             refine rtk 27 140 (v := ?_) hS ?_ ?_; rotate_left; · (intro w9 hS9; obtain ⟨z0, z1, z2⟩ := hS9; go_simp; try (with_reducible rfl))
             refine rsk 28 141 hS ?_
             refine rsk 29 142 hS ?_
             refine rsk 30 143 hS ?_
             refine rsk 31 144 hS ?_
             refine rsk 32 145 hS ?_
             refine rsk 33 146 hS ?_
             refine rsk 34 147 hS ?_
             refine rsk 35 148 hS ?_
             refine rsk 36 149 hS ?_
             refine rsk 37 150 hS ?_
             refine rsk 38 151 hS ?_
             refine rsk 39 152 hS ?_
             refine rsk 40 153 hS ?_
             refine rsk 41 154 hS ?_
             refine rsk 42 155 hS ?_
             refine rtk 43 156 (v := ?_) hS ?_ ?_; rotate_left; · (intro w9 hS9; obtain ⟨z0, z1, z2⟩ := hS9; go_simp; try (with_reducible rfl))
             refine wpAnyH_done (by kernel_rfl) ?_ _
             clear hS
             have hfin := Lib.hid (show rc5Rel l w4 (fun k => memB (usI l a) (nmI l k) && candB l first out (nmI l k)) (.int .i64 ((k : Int) + 1)) (.int .i64 v) w6 from ⟨k + 1, _, by simp, hkl, rfl, hL5H.out.skip (by rw [hPH.out]; rfl), bcall hB5H.out (bcall hbd hbcH.out)⟩)
             go_wp2_with fail
             go_roundw
             case rel => exact hfin.out
             case measure => simp [intOf]; omega
            | true =>
             rcases hL5H.out.cases with rfl | ⟨q, rfl, hq⟩
             ·go_wp2_with fail
              refine wp_region_held_drew (S := fun w' => w'.cell? ⟨b, off + a * 5 + 3, none⟩ = some (.slice aU nU cU) ∧ w'.cell? ⟨b, off + k * 5, none⟩ = some (.string nk) ∧ w'.cell? ⟨w.heap.size, k, none⟩ = some (.bool false)) (by kernel_rfl) ⟨cell_later hbd pa, cell_later hbd pk, cell_later hbd ps⟩ (fun hS => ?_)
              refine rtk 0 113 (v := ?_) hS ?_ ?_; rotate_left; · (intro w9 hS9; obtain ⟨z0, z1, z2⟩ := hS9; go_simp; try (with_reducible rfl))
              refine rtk 1 114 (v := ?_) hS ?_ ?_; rotate_left; · (intro w9 hS9; obtain ⟨z0, z1, z2⟩ := hS9; go_simp; try (with_reducible rfl))
              refine rtk 2 115 (v := ?_) hS ?_ ?_; rotate_left; · (intro w9 hS9; obtain ⟨z0, z1, z2⟩ := hS9; go_simp; try (with_reducible rfl))
              refine rtk 3 116 (v := ?_) hS ?_ ?_; rotate_left; · (intro w9 hS9; obtain ⟨z0, z1, z2⟩ := hS9; go_simp; try (with_reducible rfl))
              refine rtk 4 117 (v := ?_) hS ?_ ?_; rotate_left; · (intro w9 hS9; obtain ⟨z0, z1, z2⟩ := hS9; go_simp; try (with_reducible rfl))
              refine rtk 5 118 (v := ?_) hS ?_ ?_; rotate_left; · (intro w9 hS9; obtain ⟨z0, z1, z2⟩ := hS9; go_simp; try (with_reducible rfl))
              refine rtk 6 119 (v := ?_) hS ?_ ?_; rotate_left; · (intro w9 hS9; obtain ⟨z0, z1, z2⟩ := hS9; go_simp; try (with_reducible rfl))
              refine rtk 7 120 (v := ?_) hS ?_ ?_; rotate_left; · (intro w9 hS9; obtain ⟨z0, z1, z2⟩ := hS9; go_simp; try (with_reducible rfl))
              refine rtk 8 121 (v := ?_) hS ?_ ?_; rotate_left; · (intro w9 hS9; obtain ⟨z0, z1, z2⟩ := hS9; go_simp; try (with_reducible rfl))
              refine rtk 9 122 (v := ?_) hS ?_ ?_; rotate_left; · (intro w9 hS9; obtain ⟨z0, z1, z2⟩ := hS9; go_simp; try (with_reducible rfl))
              refine region_call 10 rfl (by kernel_rfl) (fun K hK => ?_)
              go_simp
              (with_reducible refine vhH.out.mono ?_)
              rintro e w6 ⟨rfl, rfl⟩
              go_simp
              refine hK.out _ _ hS ?_
              clear hK hS K
              intro hS
              try simp only [Act.put, List.setIfInBounds_toArray, List.set_cons_zero, List.set_cons_succ]
              refine rtk 11 124 (v := ?_) hS ?_ ?_; rotate_left; · (intro w9 hS9; obtain ⟨z0, z1, z2⟩ := hS9; go_simp; try (with_reducible rfl))
              refine rtk 12 125 (v := ?_) hS ?_ ?_; rotate_left; · (intro w9 hS9; obtain ⟨z0, z1, z2⟩ := hS9; go_simp; try (with_reducible rfl))
              refine rtk 13 126 (v := ?_) hS ?_ ?_; rotate_left; · (intro w9 hS9; obtain ⟨z0, z1, z2⟩ := hS9; go_simp; try (with_reducible rfl))
              refine rtk 14 127 (v := ?_) hS ?_ ?_; rotate_left; · (intro w9 hS9; obtain ⟨z0, z1, z2⟩ := hS9; go_simp; try (with_reducible rfl))
              refine rtk 15 128 (v := ?_) hS ?_ ?_; rotate_left; · (intro w9 hS9; obtain ⟨z0, z1, z2⟩ := hS9; go_simp; try (with_reducible rfl))
              refine rtk 16 129 (v := ?_) hS ?_ ?_; rotate_left; · (intro w9 hS9; obtain ⟨z0, z1, z2⟩ := hS9; go_simp; try (with_reducible rfl))
              refine rtk 17 130 (v := ?_) hS ?_ ?_; rotate_left; · (intro w9 hS9; obtain ⟨z0, z1, z2⟩ := hS9; go_simp; try (with_reducible rfl))
              refine rtk 18 131 (v := ?_) hS ?_ ?_; rotate_left; · (intro w9 hS9; obtain ⟨z0, z1, z2⟩ := hS9; go_simp; try (with_reducible rfl))
              refine rtk 19 132 (v := ?_) hS ?_ ?_; rotate_left; · (intro w9 hS9; obtain ⟨z0, z1, z2⟩ := hS9; go_simp; try (with_reducible rfl))
              refine rtk 20 133 (v := ?_) hS ?_ ?_; rotate_left; · (intro w9 hS9; obtain ⟨z0, z1, z2⟩ := hS9; go_simp; try (with_reducible rfl))
              refine rtk 21 134 (v := ?_) hS ?_ ?_; rotate_left; · (intro w9 hS9; obtain ⟨z0, z1, z2⟩ := hS9; go_simp; try (with_reducible rfl))
              refine rtk 23 136 (v := ?_) hS ?_ ?_; rotate_left; · (intro w9 hS9; obtain ⟨z0, z1, z2⟩ := hS9; go_simp; try (with_reducible rfl))
              refine region_call 22 rfl (by kernel_rfl) (fun K hK => ?_)
              go_simp
              (with_reducible refine vcH.out.mono ?_)
              rintro e w6 ⟨vc, rfl, hOc, hbc⟩
              obtain ⟨ac, cc, rfl, hSc⟩ := OwnB.bools hOc
              obtain ⟨bc, oc, rfl, -, qc⟩ := hSc.bool f (by simp; exact hfl)
              simp only [List.getElem_map, List.getElem_range, hcl] at qc
              have hlen1 : ((List.range l.length).map (citeB l sh k)).length = l.length := by simp
              rw [hlen1]
              have hbcH := Lib.hid hbc
              clear hOc hSc hlen1
              go_simp
              refine hK.out _ _ ⟨cell_later hbc hS.1, cell_later hbc hS.2.1, cell_later hbc hS.2.2⟩ ?_
              clear hK hS K
              intro hS
              try simp only [Act.put, List.setIfInBounds_toArray, List.set_cons_zero, List.set_cons_succ]
              clear hbc
              refine rtk 24 137 (v := ?_) hS ?_ ?_; rotate_left; · (intro w9 hS9; obtain ⟨z0, z1, z2⟩ := hS9; go_simp; try (with_reducible rfl))
              refine region_call 25 rfl (by kernel_rfl) (fun K hK => ?_)
              go_simp
              refine hK.out _ _ hS ?_
              clear hK hS K
              intro hS
              try simp only [Act.put, List.setIfInBounds_toArray, List.set_cons_zero, List.set_cons_succ]
              refine rtk 26 139 (v := ?_) hS ?_ ?_; rotate_left; · (intro w9 hS9; obtain ⟨z0, z1, z2⟩ := hS9; go_simp; try (with_reducible rfl))
              refine rtk 27 140 (v := ?_) hS ?_ ?_; rotate_left; · (intro w9 hS9; obtain ⟨z0, z1, z2⟩ := hS9; go_simp; try (with_reducible rfl))
              refine rtk 28 141 (v := ?_) hS ?_ ?_; rotate_left; · (intro w9 hS9; obtain ⟨z0, z1, z2⟩ := hS9; go_simp; try (with_reducible rfl))
              refine rtk 29 142 (v := ?_) hS ?_ ?_; rotate_left; · (intro w9 hS9; obtain ⟨z0, z1, z2⟩ := hS9; go_simp; try (with_reducible rfl))
              refine rtk 30 143 (v := ?_) hS ?_ ?_; rotate_left; · (intro w9 hS9; obtain ⟨z0, z1, z2⟩ := hS9; go_simp; try (with_reducible rfl))
              refine rsk 31 144 hS ?_
              refine rsk 32 145 hS ?_
              refine rsk 33 146 hS ?_
              refine rsk 34 147 hS ?_
              refine rsk 35 148 hS ?_
              refine rsk 36 149 hS ?_
              refine rsk 37 150 hS ?_
              refine rsk 38 151 hS ?_
              refine rsk 39 152 hS ?_
              refine rsk 40 153 hS ?_
              refine rsk 41 154 hS ?_
              refine rtk 42 155 (v := ?_) hS ?_ ?_; rotate_left; · (intro w9 hS9; obtain ⟨z0, z1, z2⟩ := hS9; go_simp; try (with_reducible rfl))
              refine rtk 43 156 (v := ?_) hS ?_ ?_; rotate_left; · (intro w9 hS9; obtain ⟨z0, z1, z2⟩ := hS9; go_simp; try (with_reducible rfl))
              refine wpAnyH_done (by kernel_rfl) ?_ _
              clear hS
              have hfin := Lib.hid (show rc5Rel l w4 (fun k => memB (usI l a) (nmI l k) && candB l first out (nmI l k)) (.int .i64 ((k : Int) + 1)) (.int .i64 (k : Int)) w6 from ⟨k + 1, _, by simp, hkl, rfl, hL5H.out.first (by rw [hPH.out]; rfl), bcall hB5H.out (bcall hbd hbcH.out)⟩)
              go_wp2_with fail
              go_roundw
              case rel => exact hfin.out
              case measure => simp [intOf]; omega
             ·have hql : q < l.length := by omega
              have hqq : (q : Int) < (l.length : Int) := by omega
              have hq0 : ((q : Int) < 0) = False := eq_false (by omega)
              obtain ⟨pq, -⟩ := ((hH.out.below hB4H.out).below hB5H.out).nmc hql
              obtain ⟨nq, hnq⟩ : ∃ nq, nmI l q = nq := ⟨_, rfl⟩
              rw [hnq] at pq
              obtain ⟨bl, hbl⟩ : ∃ bl, Op.bytesLess nk.toList nq.toList = bl := ⟨_, rfl⟩
              have hlt := hbl
              rw [bytesLess_ltB, ← hnkH.out, ← hnq] at hlt
              have hltH := Lib.hid hlt
              clear hlt hnq
              cases bl with
              | false =>
               go_wp2_with fail
               refine wp_region_held_drew (S := fun w' => w'.cell? ⟨b, off + a * 5 + 3, none⟩ = some (.slice aU nU cU) ∧ w'.cell? ⟨b, off + k * 5, none⟩ = some (.string nk) ∧ w'.cell? ⟨w.heap.size, k, none⟩ = some (.bool false) ∧ w'.cell? ⟨b, off + q * 5, none⟩ = some (.string nq)) (by kernel_rfl) ⟨cell_later hbd pa, cell_later hbd pk, cell_later hbd ps, cell_later hbd pq⟩ (fun hS => ?_)
               refine rtk 0 113 (v := ?_) hS ?_ ?_; rotate_left; · (intro w9 hS9; obtain ⟨z0, z1, z2, z3⟩ := hS9; go_simp; try (with_reducible rfl))
               refine rtk 1 114 (v := ?_) hS ?_ ?_; rotate_left; · (intro w9 hS9; obtain ⟨z0, z1, z2, z3⟩ := hS9; go_simp; try (with_reducible rfl))
               refine rtk 2 115 (v := ?_) hS ?_ ?_; rotate_left; · (intro w9 hS9; obtain ⟨z0, z1, z2, z3⟩ := hS9; go_simp; try (with_reducible rfl))
               refine rtk 3 116 (v := ?_) hS ?_ ?_; rotate_left; · (intro w9 hS9; obtain ⟨z0, z1, z2, z3⟩ := hS9; go_simp; try (with_reducible rfl))
               refine rtk 4 117 (v := ?_) hS ?_ ?_; rotate_left; · (intro w9 hS9; obtain ⟨z0, z1, z2, z3⟩ := hS9; go_simp; try (with_reducible rfl))
               refine rtk 5 118 (v := ?_) hS ?_ ?_; rotate_left; · (intro w9 hS9; obtain ⟨z0, z1, z2, z3⟩ := hS9; go_simp; try (with_reducible rfl))
               refine rtk 6 119 (v := ?_) hS ?_ ?_; rotate_left; · (intro w9 hS9; obtain ⟨z0, z1, z2, z3⟩ := hS9; go_simp; try (with_reducible rfl))
               refine rtk 7 120 (v := ?_) hS ?_ ?_; rotate_left; · (intro w9 hS9; obtain ⟨z0, z1, z2, z3⟩ := hS9; go_simp; try (with_reducible rfl))
               refine rtk 8 121 (v := ?_) hS ?_ ?_; rotate_left; · (intro w9 hS9; obtain ⟨z0, z1, z2, z3⟩ := hS9; go_simp; try (with_reducible rfl))
               refine rtk 9 122 (v := ?_) hS ?_ ?_; rotate_left; · (intro w9 hS9; obtain ⟨z0, z1, z2, z3⟩ := hS9; go_simp; try (with_reducible rfl))
               refine region_call 10 rfl (by kernel_rfl) (fun K hK => ?_)
               go_simp
               (with_reducible refine vhH.out.mono ?_)
               rintro e w6 ⟨rfl, rfl⟩
               go_simp
               refine hK.out _ _ hS ?_
               clear hK hS K
               intro hS
               try simp only [Act.put, List.setIfInBounds_toArray, List.set_cons_zero, List.set_cons_succ]
               refine rtk 11 124 (v := ?_) hS ?_ ?_; rotate_left; · (intro w9 hS9; obtain ⟨z0, z1, z2, z3⟩ := hS9; go_simp; try (with_reducible rfl))
               refine rtk 12 125 (v := ?_) hS ?_ ?_; rotate_left; · (intro w9 hS9; obtain ⟨z0, z1, z2, z3⟩ := hS9; go_simp; try (with_reducible rfl))
               refine rtk 13 126 (v := ?_) hS ?_ ?_; rotate_left; · (intro w9 hS9; obtain ⟨z0, z1, z2, z3⟩ := hS9; go_simp; try (with_reducible rfl))
               refine rtk 14 127 (v := ?_) hS ?_ ?_; rotate_left; · (intro w9 hS9; obtain ⟨z0, z1, z2, z3⟩ := hS9; go_simp; try (with_reducible rfl))
               refine rtk 15 128 (v := ?_) hS ?_ ?_; rotate_left; · (intro w9 hS9; obtain ⟨z0, z1, z2, z3⟩ := hS9; go_simp; try (with_reducible rfl))
               refine rtk 16 129 (v := ?_) hS ?_ ?_; rotate_left; · (intro w9 hS9; obtain ⟨z0, z1, z2, z3⟩ := hS9; go_simp; try (with_reducible rfl))
               refine rtk 17 130 (v := ?_) hS ?_ ?_; rotate_left; · (intro w9 hS9; obtain ⟨z0, z1, z2, z3⟩ := hS9; go_simp; try (with_reducible rfl))
               refine rtk 18 131 (v := ?_) hS ?_ ?_; rotate_left; · (intro w9 hS9; obtain ⟨z0, z1, z2, z3⟩ := hS9; go_simp; try (with_reducible rfl))
               refine rtk 19 132 (v := ?_) hS ?_ ?_; rotate_left; · (intro w9 hS9; obtain ⟨z0, z1, z2, z3⟩ := hS9; go_simp; try (with_reducible rfl))
               refine rtk 20 133 (v := ?_) hS ?_ ?_; rotate_left; · (intro w9 hS9; obtain ⟨z0, z1, z2, z3⟩ := hS9; go_simp; try (with_reducible rfl))
               refine rtk 21 134 (v := ?_) hS ?_ ?_; rotate_left; · (intro w9 hS9; obtain ⟨z0, z1, z2, z3⟩ := hS9; go_simp; try (with_reducible rfl))
               refine rtk 23 136 (v := ?_) hS ?_ ?_; rotate_left; · (intro w9 hS9; obtain ⟨z0, z1, z2, z3⟩ := hS9; go_simp; try (with_reducible rfl))
               refine region_call 22 rfl (by kernel_rfl) (fun K hK => ?_)
               go_simp
               (with_reducible refine vcH.out.mono ?_)
               rintro e w6 ⟨vc, rfl, hOc, hbc⟩
               obtain ⟨ac, cc, rfl, hSc⟩ := OwnB.bools hOc
               obtain ⟨bc, oc, rfl, -, qc⟩ := hSc.bool f (by simp; exact hfl)
               simp only [List.getElem_map, List.getElem_range, hcl] at qc
               have hlen1 : ((List.range l.length).map (citeB l sh k)).length = l.length := by simp
               rw [hlen1]
               have hbcH := Lib.hid hbc
               clear hOc hSc hlen1
               go_simp
               refine hK.out _ _ ⟨cell_later hbc hS.1, cell_later hbc hS.2.1, cell_later hbc hS.2.2.1, cell_later hbc hS.2.2.2⟩ ?_
               clear hK hS K
               intro hS
               try simp only [Act.put, List.setIfInBounds_toArray, List.set_cons_zero, List.set_cons_succ]
               clear hbc
               refine rtk 24 137 (v := ?_) hS ?_ ?_; rotate_left; · (intro w9 hS9; obtain ⟨z0, z1, z2, z3⟩ := hS9; go_simp; try (with_reducible rfl))
               refine region_call 25 rfl (by kernel_rfl) (fun K hK => ?_)
               go_simp
               refine hK.out _ _ hS ?_
               clear hK hS K
               intro hS
               try simp only [Act.put, List.setIfInBounds_toArray, List.set_cons_zero, List.set_cons_succ]
               refine rtk 26 139 (v := ?_) hS ?_ ?_; rotate_left; · (intro w9 hS9; obtain ⟨z0, z1, z2, z3⟩ := hS9; go_simp; try (with_reducible rfl))
               refine rtk 27 140 (v := ?_) hS ?_ ?_; rotate_left; · (intro w9 hS9; obtain ⟨z0, z1, z2, z3⟩ := hS9; go_simp; try (with_reducible rfl))
               refine rtk 28 141 (v := ?_) hS ?_ ?_; rotate_left; · (intro w9 hS9; obtain ⟨z0, z1, z2, z3⟩ := hS9; go_simp; try (with_reducible rfl))
               refine rtk 29 142 (v := ?_) hS ?_ ?_; rotate_left; · (intro w9 hS9; obtain ⟨z0, z1, z2, z3⟩ := hS9; go_simp; try (with_reducible rfl))
               refine rtk 30 143 (v := ?_) hS ?_ ?_; rotate_left; · (intro w9 hS9; obtain ⟨z0, z1, z2, z3⟩ := hS9; go_simp; try (with_reducible rfl))
               refine rtk 31 144 (v := ?_) hS ?_ ?_; rotate_left; · (intro w9 hS9; obtain ⟨z0, z1, z2, z3⟩ := hS9; go_simp; try (with_reducible rfl))
               refine rtk 32 145 (v := ?_) hS ?_ ?_; rotate_left; · (intro w9 hS9; obtain ⟨z0, z1, z2, z3⟩ := hS9; go_simp; try (with_reducible rfl))
               refine rtk 33 146 (v := ?_) hS ?_ ?_; rotate_left; · (intro w9 hS9; obtain ⟨z0, z1, z2, z3⟩ := hS9; go_simp; try (with_reducible rfl))
               refine rtk 34 147 (v := ?_) hS ?_ ?_; rotate_left; · (intro w9 hS9; obtain ⟨z0, z1, z2, z3⟩ := hS9; go_simp; try (with_reducible rfl))
               refine rtk 35 148 (v := ?_) hS ?_ ?_; rotate_left; · (intro w9 hS9; obtain ⟨z0, z1, z2, z3⟩ := hS9; go_simp; try (with_reducible rfl))
               refine rtk 36 149 (v := ?_) hS ?_ ?_; rotate_left; · (intro w9 hS9; obtain ⟨z0, z1, z2, z3⟩ := hS9; go_simp; try (with_reducible rfl))
               refine rtk 37 150 (v := ?_) hS ?_ ?_; rotate_left; · (intro w9 hS9; obtain ⟨z0, z1, z2, z3⟩ := hS9; go_simp; try (with_reducible rfl))
               refine rtk 38 151 (v := ?_) hS ?_ ?_; rotate_left; · (intro w9 hS9; obtain ⟨z0, z1, z2, z3⟩ := hS9; go_simp; try (with_reducible rfl))
               refine rtk 39 152 (v := ?_) hS ?_ ?_; rotate_left; · (intro w9 hS9; obtain ⟨z0, z1, z2, z3⟩ := hS9; go_simp; try (with_reducible rfl))
               refine rtk 40 153 (v := ?_) hS ?_ ?_; rotate_left; · (intro w9 hS9; obtain ⟨z0, z1, z2, z3⟩ := hS9; go_simp; try (with_reducible rfl))
               refine rtk 41 154 (v := ?_) hS ?_ ?_; rotate_left; · (intro w9 hS9; obtain ⟨z0, z1, z2, z3⟩ := hS9; go_simp; try (with_reducible rfl))
               refine rtk 42 155 (v := ?_) hS ?_ ?_; rotate_left; · (intro w9 hS9; obtain ⟨z0, z1, z2, z3⟩ := hS9; go_simp; try (with_reducible rfl))
               refine rtk 43 156 (v := ?_) hS ?_ ?_; rotate_left; · (intro w9 hS9; obtain ⟨z0, z1, z2, z3⟩ := hS9; go_simp; try (with_reducible rfl))
               refine wpAnyH_done (by kernel_rfl) ?_ _
               clear hS
               have hfin := Lib.hid (show rc5Rel l w4 (fun k => memB (usI l a) (nmI l k) && candB l first out (nmI l k)) (.int .i64 ((k : Int) + 1)) (.int .i64 (q : Int)) w6 from ⟨k + 1, _, by simp, hkl, rfl, hL5H.out.keep hltH.out, bcall hB5H.out (bcall hbd hbcH.out)⟩)
               go_wp2_with fail
               go_roundw
               case rel => exact hfin.out
               case measure => simp [intOf]; omega
              | true =>
               go_wp2_with fail
               refine wp_region_held_drew (S := fun w' => w'.cell? ⟨b, off + a * 5 + 3, none⟩ = some (.slice aU nU cU) ∧ w'.cell? ⟨b, off + k * 5, none⟩ = some (.string nk) ∧ w'.cell? ⟨w.heap.size, k, none⟩ = some (.bool false) ∧ w'.cell? ⟨b, off + q * 5, none⟩ = some (.string nq)) (by kernel_rfl) ⟨cell_later hbd pa, cell_later hbd pk, cell_later hbd ps, cell_later hbd pq⟩ (fun hS => ?_)
               refine rtk 0 113 (v := ?_) hS ?_ ?_; rotate_left; · (intro w9 hS9; obtain ⟨z0, z1, z2, z3⟩ := hS9; go_simp; try (with_reducible rfl))
               refine rtk 1 114 (v := ?_) hS ?_ ?_; rotate_left; · (intro w9 hS9; obtain ⟨z0, z1, z2, z3⟩ := hS9; go_simp; try (with_reducible rfl))
               refine rtk 2 115 (v := ?_) hS ?_ ?_; rotate_left; · (intro w9 hS9; obtain ⟨z0, z1, z2, z3⟩ := hS9; go_simp; try (with_reducible rfl))
               refine rtk 3 116 (v := ?_) hS ?_ ?_; rotate_left; · (intro w9 hS9; obtain ⟨z0, z1, z2, z3⟩ := hS9; go_simp; try (with_reducible rfl))
               refine rtk 4 117 (v := ?_) hS ?_ ?_; rotate_left; · (intro w9 hS9; obtain ⟨z0, z1, z2, z3⟩ := hS9; go_simp; try (with_reducible rfl))
               refine rtk 5 118 (v := ?_) hS ?_ ?_; rotate_left; · (intro w9 hS9; obtain ⟨z0, z1, z2, z3⟩ := hS9; go_simp; try (with_reducible rfl))
               refine rtk 6 119 (v := ?_) hS ?_ ?_; rotate_left; · (intro w9 hS9; obtain ⟨z0, z1, z2, z3⟩ := hS9; go_simp; try (with_reducible rfl))
               refine rtk 7 120 (v := ?_) hS ?_ ?_; rotate_left; · (intro w9 hS9; obtain ⟨z0, z1, z2, z3⟩ := hS9; go_simp; try (with_reducible rfl))
               refine rtk 8 121 (v := ?_) hS ?_ ?_; rotate_left; · (intro w9 hS9; obtain ⟨z0, z1, z2, z3⟩ := hS9; go_simp; try (with_reducible rfl))
               refine rtk 9 122 (v := ?_) hS ?_ ?_; rotate_left; · (intro w9 hS9; obtain ⟨z0, z1, z2, z3⟩ := hS9; go_simp; try (with_reducible rfl))
               refine region_call 10 rfl (by kernel_rfl) (fun K hK => ?_)
               go_simp
               (with_reducible refine vhH.out.mono ?_)
               rintro e w6 ⟨rfl, rfl⟩
               go_simp
               refine hK.out _ _ hS ?_
               clear hK hS K
               intro hS
               try simp only [Act.put, List.setIfInBounds_toArray, List.set_cons_zero, List.set_cons_succ]
               refine rtk 11 124 (v := ?_) hS ?_ ?_; rotate_left; · (intro w9 hS9; obtain ⟨z0, z1, z2, z3⟩ := hS9; go_simp; try (with_reducible rfl))
               refine rtk 12 125 (v := ?_) hS ?_ ?_; rotate_left; · (intro w9 hS9; obtain ⟨z0, z1, z2, z3⟩ := hS9; go_simp; try (with_reducible rfl))
               refine rtk 13 126 (v := ?_) hS ?_ ?_; rotate_left; · (intro w9 hS9; obtain ⟨z0, z1, z2, z3⟩ := hS9; go_simp; try (with_reducible rfl))
               refine rtk 14 127 (v := ?_) hS ?_ ?_; rotate_left; · (intro w9 hS9; obtain ⟨z0, z1, z2, z3⟩ := hS9; go_simp; try (with_reducible rfl))
               refine rtk 15 128 (v := ?_) hS ?_ ?_; rotate_left; · (intro w9 hS9; obtain ⟨z0, z1, z2, z3⟩ := hS9; go_simp; try (with_reducible rfl))
               refine rtk 16 129 (v := ?_) hS ?_ ?_; rotate_left; · (intro w9 hS9; obtain ⟨z0, z1, z2, z3⟩ := hS9; go_simp; try (with_reducible rfl))
               refine rtk 17 130 (v := ?_) hS ?_ ?_; rotate_left; · (intro w9 hS9; obtain ⟨z0, z1, z2, z3⟩ := hS9; go_simp; try (with_reducible rfl))
               refine rtk 18 131 (v := ?_) hS ?_ ?_; rotate_left; · (intro w9 hS9; obtain ⟨z0, z1, z2, z3⟩ := hS9; go_simp; try (with_reducible rfl))
               refine rtk 19 132 (v := ?_) hS ?_ ?_; rotate_left; · (intro w9 hS9; obtain ⟨z0, z1, z2, z3⟩ := hS9; go_simp; try (with_reducible rfl))
               refine rtk 20 133 (v := ?_) hS ?_ ?_; rotate_left; · (intro w9 hS9; obtain ⟨z0, z1, z2, z3⟩ := hS9; go_simp; try (with_reducible rfl))
               refine rtk 21 134 (v := ?_) hS ?_ ?_; rotate_left; · (intro w9 hS9; obtain ⟨z0, z1, z2, z3⟩ := hS9; go_simp; try (with_reducible rfl))
               refine rtk 23 136 (v := ?_) hS ?_ ?_; rotate_left; · (intro w9 hS9; obtain ⟨z0, z1, z2, z3⟩ := hS9; go_simp; try (with_reducible rfl))
               refine region_call 22 rfl (by kernel_rfl) (fun K hK => ?_)
               go_simp
               (with_reducible refine vcH.out.mono ?_)
               rintro e w6 ⟨vc, rfl, hOc, hbc⟩
               obtain ⟨ac, cc, rfl, hSc⟩ := OwnB.bools hOc
               obtain ⟨bc, oc, rfl, -, qc⟩ := hSc.bool f (by simp; exact hfl)
               simp only [List.getElem_map, List.getElem_range, hcl] at qc
               have hlen1 : ((List.range l.length).map (citeB l sh k)).length = l.length := by simp
               rw [hlen1]
               have hbcH := Lib.hid hbc
               clear hOc hSc hlen1
               go_simp
               refine hK.out _ _ ⟨cell_later hbc hS.1, cell_later hbc hS.2.1, cell_later hbc hS.2.2.1, cell_later hbc hS.2.2.2⟩ ?_
               clear hK hS K
               intro hS
               try simp only [Act.put, List.setIfInBounds_toArray, List.set_cons_zero, List.set_cons_succ]
               clear hbc
               refine rtk 24 137 (v := ?_) hS ?_ ?_; rotate_left; · (intro w9 hS9; obtain ⟨z0, z1, z2, z3⟩ := hS9; go_simp; try (with_reducible rfl))
               refine region_call 25 rfl (by kernel_rfl) (fun K hK => ?_)
               go_simp
               refine hK.out _ _ hS ?_
               clear hK hS K
               intro hS
               try simp only [Act.put, List.setIfInBounds_toArray, List.set_cons_zero, List.set_cons_succ]
               refine rtk 26 139 (v := ?_) hS ?_ ?_; rotate_left; · (intro w9 hS9; obtain ⟨z0, z1, z2, z3⟩ := hS9; go_simp; try (with_reducible rfl))
               refine rtk 27 140 (v := ?_) hS ?_ ?_; rotate_left; · (intro w9 hS9; obtain ⟨z0, z1, z2, z3⟩ := hS9; go_simp; try (with_reducible rfl))
               refine rtk 28 141 (v := ?_) hS ?_ ?_; rotate_left; · (intro w9 hS9; obtain ⟨z0, z1, z2, z3⟩ := hS9; go_simp; try (with_reducible rfl))
               refine rtk 29 142 (v := ?_) hS ?_ ?_; rotate_left; · (intro w9 hS9; obtain ⟨z0, z1, z2, z3⟩ := hS9; go_simp; try (with_reducible rfl))
               refine rtk 30 143 (v := ?_) hS ?_ ?_; rotate_left; · (intro w9 hS9; obtain ⟨z0, z1, z2, z3⟩ := hS9; go_simp; try (with_reducible rfl))
               refine rtk 31 144 (v := ?_) hS ?_ ?_; rotate_left; · (intro w9 hS9; obtain ⟨z0, z1, z2, z3⟩ := hS9; go_simp; try (with_reducible rfl))
               refine rtk 32 145 (v := ?_) hS ?_ ?_; rotate_left; · (intro w9 hS9; obtain ⟨z0, z1, z2, z3⟩ := hS9; go_simp; try (with_reducible rfl))
               refine rtk 33 146 (v := ?_) hS ?_ ?_; rotate_left; · (intro w9 hS9; obtain ⟨z0, z1, z2, z3⟩ := hS9; go_simp; try (with_reducible rfl))
               refine rtk 34 147 (v := ?_) hS ?_ ?_; rotate_left; · (intro w9 hS9; obtain ⟨z0, z1, z2, z3⟩ := hS9; go_simp; try (with_reducible rfl))
               refine rtk 35 148 (v := ?_) hS ?_ ?_; rotate_left; · (intro w9 hS9; obtain ⟨z0, z1, z2, z3⟩ := hS9; go_simp; try (with_reducible rfl))
               refine rtk 36 149 (v := ?_) hS ?_ ?_; rotate_left; · (intro w9 hS9; obtain ⟨z0, z1, z2, z3⟩ := hS9; go_simp; try (with_reducible rfl))
               refine rtk 37 150 (v := ?_) hS ?_ ?_; rotate_left; · (intro w9 hS9; obtain ⟨z0, z1, z2, z3⟩ := hS9; go_simp; try (with_reducible rfl))
               refine rtk 38 151 (v := ?_) hS ?_ ?_; rotate_left; · (intro w9 hS9; obtain ⟨z0, z1, z2, z3⟩ := hS9; go_simp; try (with_reducible rfl))
               refine rtk 39 152 (v := ?_) hS ?_ ?_; rotate_left; · (intro w9 hS9; obtain ⟨z0, z1, z2, z3⟩ := hS9; go_simp; try (with_reducible rfl))
               refine rtk 40 153 (v := ?_) hS ?_ ?_; rotate_left; · (intro w9 hS9; obtain ⟨z0, z1, z2, z3⟩ := hS9; go_simp; try (with_reducible rfl))
               refine rtk 41 154 (v := ?_) hS ?_ ?_; rotate_left; · (intro w9 hS9; obtain ⟨z0, z1, z2, z3⟩ := hS9; go_simp; try (with_reducible rfl))
               refine rtk 42 155 (v := ?_) hS ?_ ?_; rotate_left; · (intro w9 hS9; obtain ⟨z0, z1, z2, z3⟩ := hS9; go_simp; try (with_reducible rfl))
               refine rtk 43 156 (v := ?_) hS ?_ ?_; rotate_left; · (intro w9 hS9; obtain ⟨z0, z1, z2, z3⟩ := hS9; go_simp; try (with_reducible rfl))
               refine wpAnyH_done (by kernel_rfl) ?_ _
               clear hS
               have hfin := Lib.hid (show rc5Rel l w4 (fun k => memB (usI l a) (nmI l k) && candB l first out (nmI l k)) (.int .i64 ((k : Int) + 1)) (.int .i64 (k : Int)) w6 from ⟨k + 1, _, by simp, hkl, rfl, hL5H.out.less (by rw [hPH.out]; rfl) hltH.out, bcall hB5H.out (bcall hbd hbcH.out)⟩)
               go_wp2_with fail
               go_roundw
               case rel => exact hfin.out
               case measure => simp [intOf]; omega
         ·have hkk : ((k : Int) < (l.length : Int)) = False := eq_false (by omega)
          have hkn : k = l.length := by omega
          rw [hkn] at hL5
          clear hkn
          rcases hL5.cases with rfl | ⟨q, rfl, hq⟩
          ·exact (next_some hdnH.out hal hCiH.out hnoH.out hL5).elim
          ·obtain ⟨hql, hCn⟩ := next_step hdnH.out hal hCiH.out hnoH.out hL5
           have hqq : (q : Int) < (l.length : Int) := by omega
           obtain ⟨pq, zq⟩ := ((hH.out.below hB4H.out).below hB5).nmc hql
           have hout := hCn.size
           rw [List.length_append, List.length_singleton] at hout
           have hw4r : w4.heap.size ≤ wr.heap.size := hB5.size
           have ho5 := hoH.out.call hB5
           have hO5 := OwnL.call hO4H.out hB5
           obtain ⟨v', W', hrun, hop, hg, -⟩ := OwnL.push (P := Tryz.prog) (t := 29) (ty := 29) ho5 Tryz.underlying29 infoStr rfl (vs := [.string (nmI l q)]) (x := nmI l q) ⟨rfl, zq⟩ (by omega) (by unfold big; omega) (by omega)
           have hO6 := OwnL.grown hO5 hg (fun kk hkk e => by have := (OwnL.lt ho5 kk e).1; simp [Value.ownBlock] at hkk; omega) (fun bb hbb _ => hbb.elim)
           have hB6 : Below w.heap.size w W' := (bcall hB4H.out hB5).grown hg (Nat.le_trans hB4H.out.size hw4r) (fun kk e => by have := (OwnL.lt ho5 kk e).1; omega)
           obtain ⟨mc, mf⟩ := OwnB.cell hO6 hSoH.out.1.symm q (by rw [hSoH.out.1]; exact hql)
           obtain ⟨hO7, hg7⟩ := OwnB.set hO6 hSoH.out.1.symm q true
           have hop7 := OwnL.grown hop hg7 (fun kk hkk e => by have := (OwnL.lt hop kk hkk).1; injection e with e; omega) (fun bb hbb _ => hbb.elim)
           have hW' : wr.heap.size ≤ W'.heap.size := hg.size
           have hfin := Lib.hid (show rc4Rel l w first d (.int .i64 q) v' (W'.setCell ⟨w.heap.size, q, none⟩ (.bool true)) from
            ⟨q, out ++ [nmI l q], sh.set q true, rfl, hql, hop7, hSoH.out.next hdnH.out hql, hO7, hCn, hB6.grown hg7 (Nat.le_trans hB4H.out.size (Nat.le_trans hw4r hW')) (fun kk e => by injection e with e; omega), hd1, Nat.le_trans (Nat.le_trans hd2 hw4r) (Nat.le_trans hW' hg7.size)⟩)
           have hms := Lib.hid (show l.length + 1 - lenS v' < l.length + 1 - lenS ov0 by
            rw [lenS_eq hop, lenS_eq hoH.out, List.length_append, List.length_singleton]; omega)
           clear hL5 hCn hop hO6 hB6 hO7 hg7 hop7 ho5 hO5 hg hB5
           generalize nmI l q = nq at *
           go_wp2_with (at_builtin; refine wpList_append_run rfl _ _ _ rfl rfl rfl hrun ?_)
           go_roundw
           case rel => exact hfin.out
           case measure => first | exact hms.out | (rw [hovH.out]; exact hms.out)
end Go.Proofs.YtpmnnoopoblpgaaGreat

/- Walks: Holds, Shaken, Sound, Strongest, SameTerm of the reference. -/
namespace Go.Proofs.YtpmnnoopoblpgaaGreat
open Go Go.RowKit Go.Maps

theorem noneB_len {f : ByteArray → Bool} {L : List ByteArray} (h : ∀ x, x ∈ L ↔ f x = true) : (((L.length : Nat) : Int) == 0) = noneB f := by
 unfold noneB
 rw [Bool.eq_iff_iff]
 simp only [beq_iff_eq, decide_eq_true_eq]
 constructor
 ·intro hz x
  have hL : L = [] := List.length_eq_zero_iff.1 (by omega)
  subst hL
  cases e : f x with
  | false => rfl
  | true => exact absurd ((h x).2 e) (by simp)
 ·intro hn
  cases L with
  | nil => rfl
  | cons x r => have := (h x).1 (by simp); rw [hn x] at this; cases this
end Go.Proofs.YtpmnnoopoblpgaaGreat
