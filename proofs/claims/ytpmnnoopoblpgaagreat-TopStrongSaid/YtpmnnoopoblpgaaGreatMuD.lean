/- The proof of a statement, some of its texts joined in build order: part D. -/
import Derived.Test.YtpmnnoopoblpgaaGreatMuA
import Derived.Test.YtpmnnoopoblpgaaGreatMuB
import Derived.Test.YtpmnnoopoblpgaaGreatWalkL
import Derived.Test.YtpmnnoopoblpgaaGreatBld
import Derived.BigQuiet
import Derived.Test.YtpmnnoopoblpgaaGreatSMap
import Derived.Test.YtpmnnoopoblpgaaGreatWalkA
import Derived.Test.YtpmnnoopoblpgaaGreatWalkD
/- Libraries in plain words: entries, names, what is valid, what is missing, what is come to. No program is named. -/
namespace Go.Proofs.YtpmnnoopoblpgaaGreat

abbrev Ent := ByteArray × ByteArray × List Int × List ByteArray × List Stp
def eNm (x : Ent) : ByteArray := x.1
def eBy (x : Ent) : ByteArray := x.2.1
def eSays (x : Ent) : List Int := x.2.2.1
def eUses (x : Ent) : List ByteArray := x.2.2.2.1
def ePf (x : Ent) : List Stp := x.2.2.2.2
/-! ### names -/
def nmC (i : Nat) (c : UInt8) : Bool := (decide (97 ≤ c.toNat) && decide (c.toNat ≤ 122)) || (decide (i ≠ 0) && (decide (c.toNat = 95) || (decide (48 ≤ c.toNat) && decide (c.toNat ≤ 57))))
def nmTo (s : ByteArray) (k : Nat) : Bool := (List.range k).all (fun i => nmC i (s.data.toList.getD i 0))
def nameB (s : ByteArray) : Bool := nmTo s s.size && (decide (1 ≤ s.size) && decide (s.size ≤ 16))
theorem nmTo_succ (s : ByteArray) (k : Nat) : nmTo s (k + 1) = (nmTo s k && nmC k (s.data.toList.getD k 0)) := by
 unfold nmTo
 rw [List.range_succ, List.all_append, List.all_cons, List.all_nil, Bool.and_true]
theorem nmTo_bad {s : ByteArray} {k : Nat} (hk : k < s.size) (h : nmC k (s.data.toList.getD k 0) = false) : nameB s = false := by
 have : nmTo s s.size = false := by
  unfold nmTo
  rw [List.all_eq_false]
  exact ⟨k, List.mem_range.2 hk, by rw [h]; simp⟩
 unfold nameB
 rw [this]; rfl
theorem nameB_size {s : ByteArray} (h : nameB s = true) : 1 ≤ s.size ∧ s.size ≤ 16 := by
 unfold nameB at h
 simp only [Bool.and_eq_true, decide_eq_true_eq] at h
 exact h.2
/-! ### how many different ones -/
def memB (l : List ByteArray) (x : ByteArray) : Bool := l.any (fun y => decide (y = x))
theorem memB_iff {l : List ByteArray} {x : ByteArray} : memB l x = true ↔ x ∈ l := by
 unfold memB
 rw [List.any_eq_true]
 exact ⟨fun ⟨y, hy, e⟩ => by rw [decide_eq_true_eq] at e; rw [← e]; exact hy, fun h => ⟨x, h, by simp⟩⟩
def cntD : List ByteArray → List ByteArray → Nat
 | _, [] => 0
 | met, x :: r => (if memB met x = true then 0 else 1) + cntD (met ++ [x]) r
theorem cntD_le : ∀ (r met : List ByteArray), cntD met r ≤ r.length
 | [], _ => Nat.le_refl _
 | x :: r, met => by
  rw [cntD, List.length_cons]
  have := cntD_le r (met ++ [x])
  split <;> omega
theorem cntD_nodup : ∀ (r met : List ByteArray), met.Nodup → (cntD met r = r.length ↔ (met ++ r).Nodup)
 | [], met, h => by simp [cntD, h]
 | x :: r, met, h => by
  have hl := cntD_le r (met ++ [x])
  rw [cntD, List.length_cons]
  by_cases hx : x ∈ met
  ·rw [if_pos (memB_iff.2 hx)]
   constructor
   ·intro e; omega
   ·intro e
    rw [List.nodup_append] at e
    exact (e.2.2 x hx x (by simp) rfl).elim
  ·rw [if_neg (fun h => hx (memB_iff.1 h))]
   have hn : (met ++ [x]).Nodup := by
    rw [List.nodup_append]
    exact ⟨h, by simp, fun a ha b hb e => hx (by rw [List.mem_singleton] at hb; rw [← hb, ← e]; exact ha)⟩
   have ih := cntD_nodup r (met ++ [x]) hn
   rw [List.append_assoc, List.singleton_append] at ih
   rw [← ih]
   omega
theorem cntD_snoc : ∀ (r met : List ByteArray) (x : ByteArray), cntD met (r ++ [x]) = cntD met r + (if memB (met ++ r) x = true then 0 else 1)
 | [], met, x => by simp [cntD]
 | y :: r, met, x => by
  rw [List.cons_append, cntD, cntD, cntD_snoc r (met ++ [y]) x, List.append_assoc, List.singleton_append]
  omega
/-! ### valid entries and libraries -/

def okEnt (s : Sg) (x : Ent) : Bool :=
 (nameB (eNm x) && (nameB (eBy x) && isCanonT s (eSays x))) && ((decide ((eUses x).length ≤ 12) && (decide (eUses x).Nodup && (eUses x).all nameB)) && ((decide (eUses x = []) && decide (ePf x = [])) || proofB (eUses x).length (ePf x)))
def okLib (s : Sg) (l : List Ent) : Bool := okSign s && (decide (l.length ≤ 60) && (l.all (okEnt s) && decide (l.map eNm).Nodup))
def atN (l : List Ent) (n : ByteArray) : Option Nat := l.findIdx? (fun x => decide (eNm x = n))
theorem atN_some {l : List Ent} {n : ByteArray} {i : Nat} (h : atN l n = some i) : ∃ hi : i < l.length, eNm l[i] = n := by
 unfold atN at h
 rw [List.findIdx?_eq_some_iff_getElem] at h
 obtain ⟨hi, h1, -⟩ := h
 exact ⟨hi, by simpa using h1⟩
theorem atN_none {l : List Ent} {n : ByteArray} (h : atN l n = none) : ∀ x ∈ l, eNm x ≠ n := by
 unfold atN at h
 rw [List.findIdx?_eq_none_iff] at h
 intro x hx e
 have := h x hx
 rw [e] at this
 simp at this
theorem atN_at {l : List Ent} (hd : (l.map eNm).Nodup) {i : Nat} (hi : i < l.length) : atN l (eNm l[i]) = some i := by
 cases h : atN l (eNm l[i]) with
 | none => exact (atN_none h _ (List.getElem_mem hi) rfl).elim
 | some j =>
  obtain ⟨hj, e⟩ := atN_some h
  have := (List.getElem_inj (xs := l.map eNm) (i := j) (j := i) (h₀ := by rw [List.length_map]; exact hj) (h₁ := by rw [List.length_map]; exact hi) hd).1 (by rw [List.getElem_map, List.getElem_map]; exact e)
  rw [this]
def usesN (l : List Ent) (n : ByteArray) : List ByteArray := match atN l n with | some i => eUses (l.getD i default) | none => []
/-! ### what one comes to -/
inductive Rch (us : ByteArray → List ByteArray) (may : ByteArray → Prop) : ByteArray → ByteArray → Prop
 | one {n u : ByteArray} : u ∈ us n → may u → Rch us may n u
 | more {n m u : ByteArray} : Rch us may n m → u ∈ us m → may u → Rch us may n u
theorem Rch.may {us : ByteArray → List ByteArray} {may : ByteArray → Prop} {n u : ByteArray} (h : Rch us may n u) : may u := by cases h <;> assumption
theorem Rch.trans {us : ByteArray → List ByteArray} {may : ByteArray → Prop} {n m u : ByteArray} (h : Rch us may n m) (k : Rch us may m u) : Rch us may n u := by
 induction k with
 | one h1 h2 => exact h.more h1 h2
 | more _ h1 h2 ih => exact ih.more h1 h2
theorem Rch.closed {us : ByteArray → List ByteArray} {may : ByteArray → Prop} {n : ByteArray} {S : ByteArray → Prop} (h0 : ∀ u ∈ us n, may u → S u) (h1 : ∀ m, S m → ∀ u ∈ us m, may u → S u) {u : ByteArray} (h : Rch us may n u) : S u := by
 induction h with
 | one h2 h3 => exact h0 _ h2 h3
 | more _ h2 h3 ih => exact h1 _ ih _ h2 h3
/-! ### proofs of entries -/
end Go.Proofs.YtpmnnoopoblpgaaGreat

/- A tree's text read back: what the read proof has and says. No program is named. -/
namespace Go.Proofs.YtpmnnoopoblpgaaGreat

structure InsT (G : Int) (p : List Stp) (t : Tr) (p' : List Stp) (k : Nat) : Prop where
 nd : p'.Nodup
 ok : okSteps G 0 p' = true
 pre : p <+: p'
 lt : k < p'.length
 tr : (trees p').getD k (.g 0) = t
 all : ∀ u ∈ trees p', u ∈ trees p ∨ u ∈ t.subs
 new : t ∉ trees p → k + 1 = p'.length
inductive Nd (p : List Stp) : Nat → Nat → Prop where
 | self (k : Nat) : Nd p k k
 | a {k j : Nat} (hk : k < p.length) (h2 : p[k].1 = 2) (h : Nd p p[k].2.1.toNat j) : Nd p k j
 | b {k j : Nat} (hk : k < p.length) (h2 : p[k].1 = 2) (h : Nd p p[k].2.2.toNat j) : Nd p k j
/-! ### what trees say -/
end Go.Proofs.YtpmnnoopoblpgaaGreat

/- Unification by the reference's solver, in plain words. No program is named. -/
namespace Go.Proofs.YtpmnnoopoblpgaaGreat

structure Slv2 (s : Sg) (B : Bd) (θ : Int → List Int) (ρ : Int → Nat) (a b : List Int) (B' : Bd) (θ' : Int → List Int) (ρ' : Int → Nat) : Prop where
 slv : Slv s B' θ' ρ'
 rg : RgB B'
 sat : ∀ η, Wsub s η → (Sat B' η ↔ Sat B η ∧ ap η a = ap η b)
 less : (B' = B ∧ θ' = θ ∧ ρ' = ρ) ∨ free B' < free B
section
variable {s : Sg} {B : Bd} {θ : Int → List Int} {ρ : Int → Nat} {a b p q : List Int}
theorem W1.head_var {p : List Int} (h : W1 s p) (h0 : p.headD 0 < 0) : p = [p.headD 0] := by
 cases p with
 | nil => exact (h.ne rfl).elim
 | cons n x => have := h.leaf h0; subst this; rfl
theorem Slv2.same (h : Slv s B θ ρ) (hr : RgB B) (ha : W1 s a) (hb : W1 s b) (hp : Lkd B a p) (hq : Lkd B b q) (h0 : p.headD 0 < 0) (e : q.headD 0 = p.headD 0) : Slv2 s B θ ρ a b B θ ρ := by
 refine ⟨h, hr, fun η hw => ⟨fun hs => ⟨hs, ?_⟩, fun hs => hs.1⟩, .inl ⟨rfl, rfl, rfl⟩⟩
 have h1 := (hp.spec h ha).1.head_var h0
 have h2 := (hq.spec h hb).1.head_var (by omega)
 rw [← hp.eta hs ha (fun n u hB => (h.wf n u hB).1), ← hq.eta hs hb (fun n u hB => (h.wf n u hB).1), h1, h2, e]
theorem Slv2.bound (h : Slv s B θ ρ) (hr : RgB B) (ha : W1 s a) (hb : W1 s b) (ra : Rg a) (rb : Rg b) (hp : Lkd B a p) (hq : Lkd B b q) (h0 : p.headD 0 < 0) (ho : p.headD 0 ∉ ap θ q) :
  ∃ θ' ρ', Slv2 s B θ ρ a b (upB B (p.headD 0) q) θ' ρ' := by
 obtain ⟨p1, p2, p3⟩ := hp.spec h ha
 obtain ⟨q1, q2, q3⟩ := hq.spec h hb
 have h1 := p1.head_var h0
 have hB : B (p.headD 0) = none := p3 _ [] h1 h0
 obtain ⟨θ', ρ', hs⟩ := h.bind h0 hB q1 ho
 have hrp := hp.rg hr ra
 have h24 : -24 ≤ p.headD 0 := hrp _ (by rw [h1]; simp) h0
 refine ⟨θ', ρ', hs, ?_, fun η hw => ?_, .inr (free_bind h0 h24 hB)⟩
 ·intro n u hn
  unfold upB at hn
  split at hn
  ·rename_i e
   cases hn
   exact ⟨hq.rg hr rb, by omega⟩
  ·exact hr n u hn
 ·rw [sat_upB hB]
  constructor
  ·rintro ⟨g1, g2⟩
   refine ⟨g1, ?_⟩
   rw [← hp.eta g1 ha (fun n u hB => (h.wf n u hB).1), ← hq.eta g1 hb (fun n u hB => (h.wf n u hB).1), h1, ap_one h0]; exact g2
  ·rintro ⟨g1, g2⟩
   refine ⟨g1, ?_⟩
   rw [← hp.eta g1 ha (fun n u hB => (h.wf n u hB).1), ← hq.eta g1 hb (fun n u hB => (h.wf n u hB).1), h1, ap_one h0] at g2; exact g2
structure SlvK (s : Sg) (B : Bd) (θ : Int → List Int) (ρ : Int → Nat) (p q : List Int) (k : Nat) (B' : Bd) (θ' : Int → List Int) (ρ' : Int → Nat) : Prop where
 slv : Slv s B' θ' ρ'
 rg : RgB B'
 sat : ∀ η, Wsub s η → (Sat B' η ↔ Sat B η ∧ ((argsW s p).take k).map (ap η) = ((argsW s q).take k).map (ap η))
 less : (B' = B ∧ θ' = θ ∧ ρ' = ρ) ∨ free B' < free B
theorem SlvK.start (h : Slv s B θ ρ) (hr : RgB B) : SlvK s B θ ρ p q 0 B θ ρ := ⟨h, hr, fun η _ => by simp, .inl ⟨rfl, rfl, rfl⟩⟩
theorem take_map_snoc {x y : List (List Int)} {k : Nat} (f : List Int → List Int) (hx : k < x.length) (hy : k < y.length) : (x.take (k + 1)).map f = (y.take (k + 1)).map f ↔ (x.take k).map f = (y.take k).map f ∧ f x[k] = f y[k] := by
 rw [List.take_succ_eq_append_getElem hx, List.take_succ_eq_append_getElem hy, List.map_append, List.map_append]
 constructor
 ·intro h
  have := List.append_inj h (by simp; omega)
  exact ⟨this.1, by simpa using this.2⟩
 ·rintro ⟨h1, h2⟩
  rw [h1]; simp [h2]
theorem SlvK.step {k : Nat} {B1 B2 : Bd} {θ1 θ2 : Int → List Int} {ρ1 ρ2 : Int → Nat} (h : SlvK s B θ ρ p q k B1 θ1 ρ1) (hx : k < (argsW s p).length) (hy : k < (argsW s q).length) (h2 : Slv2 s B1 θ1 ρ1 (argsW s p)[k] (argsW s q)[k] B2 θ2 ρ2) :
  SlvK s B θ ρ p q (k + 1) B2 θ2 ρ2 := by
 refine ⟨h2.slv, h2.rg, fun η hw => ?_, ?_⟩
 ·rw [h2.sat η hw, h.sat η hw, take_map_snoc (ap η) hx hy, and_assoc]
 ·rcases h2.less with ⟨e1, e2, e3⟩ | e
  ·rw [e1, e2, e3]; exact h.less
  ·rcases h.less with ⟨g1, -, -⟩ | g
   ·rw [g1] at e; exact .inr e
   ·exact .inr (by omega)
theorem SlvK.eq_args (h : Slv s B θ ρ) (ha : W1 s a) (hb : W1 s b) (hp : Lkd B a p) (hq : Lkd B b q) (h0 : 0 ≤ p.headD 0) (e : q.headD 0 = p.headD 0) {η : Int → List Int} (hw : Wsub s η) (hs : Sat B η) :
  ap η a = ap η b ↔ (argsW s p).map (ap η) = (argsW s q).map (ap η) := by
 obtain ⟨p1, p2, p3⟩ := hp.spec h ha
 obtain ⟨q1, q2, q3⟩ := hq.spec h hb
 rw [← hp.eta hs ha (fun n u hB => (h.wf n u hB).1), ← hq.eta hs hb (fun n u hB => (h.wf n u hB).1)]
 cases p with
 | nil => exact (p1.ne rfl).elim
 | cons n x =>
  cases q with
  | nil => exact (q1.ne rfl).elim
  | cons m y =>
   simp only [List.headD_cons] at h0 e
   subst e
   exact ap_eq_args hw p1 q1 h0
theorem SlvK.fin {k : Nat} {B1 : Bd} {θ1 : Int → List Int} {ρ1 : Int → Nat} (h : Slv s B θ ρ) (ha : W1 s a) (hb : W1 s b) (hp : Lkd B a p) (hq : Lkd B b q) (h0 : 0 ≤ p.headD 0) (e : q.headD 0 = p.headD 0)
  (hk : SlvK s B θ ρ p q k B1 θ1 ρ1) (h1 : (argsW s p).length ≤ k) (h2 : (argsW s q).length ≤ k) : Slv2 s B θ ρ a b B1 θ1 ρ1 := by
 refine ⟨hk.slv, hk.rg, fun η hw => ?_, hk.less⟩
 rw [hk.sat η hw, List.take_of_length_le h1, List.take_of_length_le h2]
 constructor
 ·rintro ⟨g1, g2⟩; exact ⟨g1, (SlvK.eq_args h ha hb hp hq h0 e hw g1).2 g2⟩
 ·rintro ⟨g1, g2⟩; exact ⟨g1, (SlvK.eq_args h ha hb hp hq h0 e hw g1).1 g2⟩
theorem SlvK.fail {k : Nat} {B1 : Bd} {θ1 : Int → List Int} {ρ1 : Int → Nat} (h : Slv s B θ ρ) (ha : W1 s a) (hb : W1 s b) (hp : Lkd B a p) (hq : Lkd B b q) (h0 : 0 ≤ p.headD 0) (e : q.headD 0 = p.headD 0)
  (hk : SlvK s B θ ρ p q k B1 θ1 ρ1) (hx : k < (argsW s p).length) (hy : k < (argsW s q).length) (hf : ∀ η, Wsub s η → Sat B1 η → ap η (argsW s p)[k] ≠ ap η (argsW s q)[k]) :
  ∀ η, Wsub s η → Sat B η → ap η a ≠ ap η b := by
 intro η hw hs he
 have h2 := (SlvK.eq_args h ha hb hp hq h0 e hw hs).1 he
 have h3 : ∀ i, ((argsW s p).take i).map (ap η) = ((argsW s q).take i).map (ap η) := fun i => by rw [List.map_take, List.map_take, h2]
 exact hf η hw ((hk.sat η hw).2 ⟨hs, h3 k⟩) ((take_map_snoc (ap η) hx hy).1 (h3 (k + 1))).2
end
end Go.Proofs.YtpmnnoopoblpgaaGreat

/- Walks of the reference: where parts end, arguments, parts; with any variables. -/
namespace Go.Proofs.YtpmnnoopoblpgaaGreat
open Go Go.RowKit Go.Maps

end Go.Proofs.YtpmnnoopoblpgaaGreat

/- The reference's solver in the world. -/
namespace Go.Proofs.YtpmnnoopoblpgaaGreat
open Go Go.RowKit

theorem gby_refl (w : World) (row : Option Nat) : w.grownBy w row := ⟨rfl, rfl, rfl, Nat.le_refl _, fun _ _ _ => rfl⟩
theorem gby_trans {a w w' : World} {row : Option Nat} (h : a.grownBy w row) (k : w.grownBy w' row) : a.grownBy w' row :=
 ⟨k.os.trans h.os, k.tape.trans h.tape, k.output.trans h.output, Nat.le_trans h.size k.size, fun i hi hr => (k.block i (Nat.lt_of_lt_of_le hi h.size) hr).trans (h.block i hi hr)⟩
theorem gby_below {w w' : World} {row : Option Nat} (hb : Below w.heap.size w w') : w.grownBy w' row := ⟨hb.os, hb.tape, hb.output, hb.size, fun i hi _ => hb.block i hi⟩
theorem gby_set (w : World) (b i : Nat) (v : Value) : w.grownBy (w.setCell ⟨b, i, none⟩ v) (some b) :=
 ⟨rfl, rfl, rfl, by simp [World.setCell], fun k _ hk => Below.heap_setCell _ _ _ _ (fun e => hk (by simp [e]))⟩
theorem heap_set {w : World} {b i : Nat} {cs : Array Value} {T : TypeId} {fr : Nat × Nat} (hb : w.heap[b]? = some (.cells cs T fr)) (v : Value) :
  (w.setCell ⟨b, i, none⟩ v).heap[b]? = some (.cells (cs.setIfInBounds i v) T fr) := by
 simp [World.setCell, Array.getElem?_modify, hb]
theorem below_of_gby {w w1 w' : World} {K b : Nat} (h1 : Below K w w1) (h2 : w1.grownBy w' (some b)) (hK : K ≤ w1.heap.size) (hb : K ≤ b) : Below K w w' := h1.grown h2 hK (fun k e => by cases e; exact hb)

def SlotW (S : Nat → Prop) (w : World) : Option (List Int) → Value → Prop
 | none, v => v = .slice none 0 0
 | some u, v => ∃ a c, v = .slice a u.length c ∧ Ints S w a c u
theorem SlotW.mono {S S' : Nat → Prop} {w w' : World} {o : Option (List Int)} {v : Value} (h : SlotW S w o v) (hS : ∀ b, b < w.heap.size → S b → S' b) (hA : Agree S w w') : SlotW S' w' o v := by
 cases o with
 | none => exact h
 | some u => obtain ⟨a, c, h1, h2⟩ := h; exact ⟨a, c, h1, h2.mono hS hA⟩
structure SolX (S : Nat → Prop) (w : World) (xb : Nat) (a1 : Option Addr) (c1 : Nat) (s : Sg) (B : Bd) : Prop where
 blk : ∃ vs : List Value, w.heap[xb]? = some (.cells (Value.slice a1 s.length c1 :: vs).toArray 202 (0, 0)) ∧ vs.length = 24 ∧ ∀ i (h : i < vs.length), SlotW S w (B (-(i : Int) - 1)) vs[i]
 sg : Sign S w a1 c1 s
 len : ∀ n u, B n = some u → u.length ≤ 60
section
variable {S S' : Nat → Prop} {w w' : World} {xb : Nat} {a1 : Option Addr} {c1 : Nat} {s : Sg} {B : Bd}
theorem SolX.lt (h : SolX S w xb a1 c1 s B) : xb < w.heap.size := by obtain ⟨vs, h1, -⟩ := h.blk; exact (Array.getElem?_eq_some_iff.1 h1).1
theorem SolX.mono (h : SolX S w xb a1 c1 s B) (hS : ∀ b, b < w.heap.size → S b → S' b) (hA : Agree S w w') (hx : w'.heap[xb]? = w.heap[xb]?) : SolX S' w' xb a1 c1 s B := by
 obtain ⟨vs, h1, h2, h3⟩ := h.blk
 exact ⟨⟨vs, hx.trans h1, h2, fun i hi => (h3 i hi).mono hS hA⟩, h.sg.mono hS hA, h.len⟩
theorem SolX.below (h : SolX S w xb a1 c1 s B) (hb : Below w.heap.size w w') : SolX S w' xb a1 c1 s B := h.mono (fun _ _ h => h) (.all hb) (hb.block xb h.lt)
theorem SolX.lts (h : SolX S w xb a1 c1 s B) : SolX (fun b => S b ∧ b < w.heap.size) w xb a1 c1 s B := h.mono (fun _ h h' => ⟨h', h⟩) (.refl _ _) rfl
theorem SolX.weak (h : SolX S w xb a1 c1 s B) (hS : ∀ b, S b → S' b) : SolX S' w xb a1 c1 s B := h.mono (fun b _ hb => hS b hb) (.refl _ _) rfl
theorem SolX.grown {db : Nat} (h : SolX S w xb a1 c1 s B) (hg : w.grownBy w' (some db)) (hS : ¬ S db) (hx : xb ≠ db) : SolX S w' xb a1 c1 s B :=
 h.mono (fun _ _ h => h) (.of_grown hg (fun b hb e => hS (by cases e; exact hb))) (hg.block xb h.lt (fun e => hx (by cases e; rfl)))
theorem SolX.sign (h : SolX S w xb a1 c1 s B) : w.cell? ⟨xb, 0, none⟩ = some (.slice a1 s.length c1) := by
 obtain ⟨vs, h1, -⟩ := h.blk
 simp [World.cell?, h1]
theorem SolX.slot (h : SolX S w xb a1 c1 s B) {n : Int} (hn : n < 0) (h24 : -24 ≤ n) : ∃ v, w.cell? ⟨xb, 1 + (-n - 1).toNat, none⟩ = some v ∧ SlotW S w (B n) v := by
 obtain ⟨vs, h1, h2, h3⟩ := h.blk
 have hi : (-n - 1).toNat < vs.length := by omega
 refine ⟨vs[(-n - 1).toNat], ?_, ?_⟩
 ·rw [Nat.add_comm]
  simp [World.cell?, h1]
 ·have := h3 _ hi
  rw [show (-(((-n - 1).toNat : Nat) : Int) - 1) = n by omega] at this
  exact this
theorem SolX.frozen (h : SolX S w xb a1 c1 s B) (o : Nat) : w.frozen? ⟨xb, o, none⟩ = false := by
 obtain ⟨vs, h1, -⟩ := h.blk
 simp [World.frozen?, h1]
theorem SolX.set (h : SolX S w xb a1 c1 s B) (hS : ¬ S xb) {n : Int} (hn : n < 0) (h24 : -24 ≤ n) {q : List Int} {a : Option Addr} {c : Nat} (hq : Ints S w a c q) (hl : q.length ≤ 60) :
  SolX S (w.setCell ⟨xb, 1 + (-n - 1).toNat, none⟩ (.slice a q.length c)) xb a1 c1 s (upB B n q) := by
 obtain ⟨vs, h1, h2, h3⟩ := h.blk
 have hg := gby_set w xb (1 + (-n - 1).toNat) (.slice a q.length c)
 have hA : Agree S w (w.setCell ⟨xb, 1 + (-n - 1).toNat, none⟩ (.slice a q.length c)) := .of_grown hg (fun b hb e => hS (by cases e; exact hb))
 refine ⟨⟨vs.set (-n - 1).toNat (.slice a q.length c), ?_, by simp [h2], fun i hi => ?_⟩, h.sg.same hA, fun m u hu => ?_⟩
 ·rw [heap_set h1]
  congr 2
  rw [Nat.add_comm]
  simp
 ·rw [List.length_set] at hi
  rw [List.getElem_set]
  unfold upB
  by_cases e : (-n - 1).toNat = i
  ·rw [if_pos e, if_pos (by omega)]; exact ⟨a, c, rfl, hq.same hA⟩
  ·rw [if_neg e, if_neg (by omega)]; exact (h3 i hi).mono (fun _ _ h => h) hA
 ·unfold upB at hu
  split at hu
  ·cases hu; exact hl
  ·exact h.len m u hu
end
def MarkW (w : World) (db : Nat) (T : TypeId) (f : Nat → Value) : Prop := w.heap[db]? = some (.cells ((List.range 24).map f).toArray T (0, 0))
section
variable {w w' : World} {db : Nat} {T : TypeId} {f : Nat → Value}
theorem MarkW.lt (h : MarkW w db T f) : db < w.heap.size := (Array.getElem?_eq_some_iff.1 h).1
theorem MarkW.cell (h : MarkW w db T f) {i : Nat} (hi : i < 24) : w.cell? ⟨db, i, none⟩ = some (f i) := by simp [World.cell?, show w.heap[db]? = _ from h, hi]
theorem MarkW.frozen (h : MarkW w db T f) (o : Nat) : w.frozen? ⟨db, o, none⟩ = false := by simp [World.frozen?, show w.heap[db]? = _ from h]
theorem MarkW.set (h : MarkW w db T f) {i : Nat} (v : Value) : MarkW (w.setCell ⟨db, i, none⟩ v) db T (fun j => if j = i then v else f j) := by
 unfold MarkW
 rw [heap_set h]
 congr 2
 apply Array.ext'
 apply List.ext_getElem
 ·simp
 ·intro j h1 h2
  simp [List.getElem_set, eq_comm]
theorem MarkW.same (h : MarkW w db T f) (hx : w'.heap[db]? = w.heap[db]?) : MarkW w' db T f := hx.trans h
theorem MarkW.below (h : MarkW w db T f) (hb : Below w.heap.size w w') : MarkW w' db T f := h.same (hb.block db h.lt)
theorem MarkW.congr {f' : Nat → Value} (h : MarkW w db T f) (he : ∀ i, i < 24 → f i = f' i) : MarkW w db T f' := by
 unfold MarkW at *
 rw [h]
 congr 3
 exact List.map_congr_left (fun i hi => he i (List.mem_range.1 hi))
end
end Go.Proofs.YtpmnnoopoblpgaaGreat

/- How a library lies in cells. -/
namespace Go.Proofs.YtpmnnoopoblpgaaGreat
open Go Go.RowKit

def entE : Enc Ent := pairE strE (pairE strE (pairE (slE intE) (pairE (slE strE) (slE stpE))))
abbrev LibL (S : Nat → Prop) (w : World) (a : Option Addr) (c : Nat) (l : List Ent) : Prop := Sl entE S w a c l
theorem Sl.ent {S : Nat → Prop} {w : World} {a : Option Addr} {c : Nat} {l : List Ent} (h : LibL S w a c l) (i : Nat) (hi : i < l.length) :
  ∃ b off a1 c1 a2 c2 a3 c3, a = some ⟨b, off, none⟩ ∧ S b ∧ w.cell? ⟨b, off + i * 5, none⟩ = some (.string (eNm l[i])) ∧ w.cell? ⟨b, off + i * 5 + 1, none⟩ = some (.string (eBy l[i])) ∧
   w.cell? ⟨b, off + i * 5 + 2, none⟩ = some (.slice a1 (eSays l[i]).length c1) ∧ w.cell? ⟨b, off + i * 5 + 3, none⟩ = some (.slice a2 (eUses l[i]).length c2) ∧ w.cell? ⟨b, off + i * 5 + 4, none⟩ = some (.slice a3 (ePf l[i]).length c3) ∧
   (eNm l[i]).size ≤ big ∧ (eBy l[i]).size ≤ big ∧ Ints S w a1 c1 (eSays l[i]) ∧ Sl strE S w a2 c2 (eUses l[i]) ∧ Steps S w a3 c3 (ePf l[i]) := by
 obtain ⟨b, off, ha, hb, hl, vs, _, hv, hr⟩ := h.at1 i hi
 obtain ⟨u1, t1, rfl, ⟨rfl, h1⟩, u2, t2, rfl, ⟨rfl, h2⟩, u3, t3, rfl, ⟨a1, c1, rfl, h3⟩, u4, t4, rfl, ⟨a2, c2, rfl, h4⟩, ⟨a3, c3, rfl, h5⟩⟩ := hr
 have g0 := hv 0 (by simp)
 have g1 := hv 1 (by simp)
 have g2 := hv 2 (by simp)
 have g3 := hv 3 (by simp)
 have g4 := hv 4 (by simp)
 simp [entE, pairE, slE, intE, strE, stpE] at g0 g1 g2 g3 g4
 exact ⟨b, off, a1, c1, a2, c2, a3, c3, ha, hb, g0, g1, g2, g3, g4, h1, h2, h3, h4, h5⟩
end Go.Proofs.YtpmnnoopoblpgaaGreat

/- Walks: the closure of kernel.Tree, which writes a step's tree to a builder. -/
namespace Go.Proofs.YtpmnnoopoblpgaaGreat
open Go Go.RowKit

section
variable {wI W W' : World} {bs b bf : Nat} {l l' : List UInt8}
end
end Go.Proofs.YtpmnnoopoblpgaaGreat

/- Walks: kernel.Tree. -/
namespace Go.Proofs.YtpmnnoopoblpgaaGreat
open Go Go.RowKit

end Go.Proofs.YtpmnnoopoblpgaaGreat

/- Walks: lemmaryref04.sums with the lengths of texts. -/
namespace Go.Proofs.YtpmnnoopoblpgaaGreat
open Go Go.RowKit

end Go.Proofs.YtpmnnoopoblpgaaGreat

/- Walks: lemmaryref04.two. -/
namespace Go.Proofs.YtpmnnoopoblpgaaGreat
open Go Go.RowKit

end Go.Proofs.YtpmnnoopoblpgaaGreat

/- Lists of strings of a call's own, and the texts of trees in them. -/
namespace Go.Proofs.YtpmnnoopoblpgaaGreat
open Go Go.RowKit

abbrev OwnS (w : World) (base : Nat) (v : Value) (l : List ByteArray) : Prop := OwnL strE (fun _ => False) w base 9 v l
theorem infoStr : (Tryz.prog.info? 9).map (fun i => (i.zero, i.size, i.bytes)) = some (some (.string ByteArray.empty), 1, 16) := by kernel_rfl
theorem OwnS.strs {w : World} {base : Nat} {v : Value} {l : List ByteArray} (h : OwnS w base v l) : ∃ a c, v = .slice a l.length c ∧ Sl strE (fun b => base ≤ b) w a c l := by
 obtain ⟨a, c, rfl, hI⟩ := OwnL.sl h
 exact ⟨a, c, rfl, hI.weak (fun b hb => hb.elim id False.elim)⟩
theorem Sl.str {S : Nat → Prop} {w : World} {a : Option Addr} {c : Nat} {l : List ByteArray} (h : Sl strE S w a c l) (i : Nat) (hi : i < l.length) :
  ∃ b off, a = some ⟨b, off, none⟩ ∧ S b ∧ w.cell? ⟨b, off + i, none⟩ = some (.string l[i]) ∧ l[i].size ≤ big := by
 obtain ⟨b, off, ha, hb, _, vs, _, hv, hr⟩ := h.at1 i hi
 obtain ⟨rfl, hx⟩ := hr
 have := hv 0 (by simp)
 simp [strE] at this
 exact ⟨b, off, ha, hb, this, hx⟩
end Go.Proofs.YtpmnnoopoblpgaaGreat

/- Walks: Name of both sides; Has; Index; different. -/
namespace Go.Proofs.YtpmnnoopoblpgaaGreat
open Go Go.RowKit Go.Maps

theorem ba_lenD (b : ByteArray) : b.data.toList.length = b.size := Array.length_toList
theorem getD_byte {s : ByteArray} {k : Nat} (h : k < s.size) : s.data.toList.getD k 0 = s[k]'h := by
 rw [List.getD_eq_getElem?_getD, List.getElem?_eq_getElem (by rw [ba_lenD]; exact h), Option.getD_some, Array.getElem_toList]; rfl
def nmRel (s : ByteArray) (w : World) (i : Value) (wr : World) : Prop := ∃ k : Nat, i = .int .i64 k ∧ k ≤ s.size ∧ nmTo s k = true ∧ w = wr
set_option maxHeartbeats 4000000 in
theorem dName_any (s : ByteArray) (hs : s.size ≤ big) (w : World) : Calls Tryz.prog 24 #[.string s] w fun e w' => e = .returned (.bool (nameB s)) ∧ w = w' := by
 unfold big at hs
 go_enter Tryz.func24, Tryz.ntmps24
 go_wp2_with fail
 go_loopw [7] (fun i wr => nmRel s w i wr) (fun i _ => s.size - (intOf i).toNat)
 case atStart => exact ⟨0, rfl, Nat.zero_le _, rfl, rfl⟩
 case round =>
  obtain ⟨k, rfl, hk, hn, rfl⟩ := hrel
  by_cases hlt : k < s.size
  ·have hg := getD_byte hlt
   have hsu := nmTo_succ s k
   rw [hn, Bool.true_and, hg] at hsu
   have hbad := fun h => nmTo_bad hlt (by rw [hg]; exact h)
   have hkl : ((k : Int) < (s.size : Int)) = True := eq_true (by omega)
   have hsuH := Lib.hid hsu
   have hbadH := Lib.hid hbad
   clear hg hsu hbad hn
   go_wp2_with fail
   all_goals try subst_vars
   all_goals first
    | (go_ret; exact ⟨ret_bool (hbadH.out (by simp [nmC]; (try simp at *); omega)).symm, rfl⟩)
    | (go_roundw; all_goals first | exact ⟨1, rfl, by omega, by (have h := hsuH.out; rw [h]; simp [nmC]; (try simp at *); omega), rfl⟩ | exact ⟨k + 1, by go_num, by omega, by (have h := hsuH.out; rw [h]; simp [nmC]; (try simp at *); omega), rfl⟩ | (simp [intOf]; omega))
    | (refine ⟨⟨k + 1, ?_, by omega, ?_, rfl⟩, ?_⟩; · go_num; · (have h := hsuH.out; rw [h]; simp [nmC]; (try simp at *); omega); · (simp [intOf]; omega))
    | (refine ⟨⟨1, rfl, by omega, ?_, rfl⟩, ?_⟩; · (have h := hsuH.out; rw [h]; simp [nmC]; (try simp at *); omega); · (simp [intOf]; omega))
  ·have hkk : k = s.size := by omega
   rw [hkk] at hn
   have hnb : nameB s = (decide (1 ≤ s.size) && decide (s.size ≤ 16)) := by unfold nameB; rw [hn, Bool.true_and]
   have hkl : ((k : Int) < (s.size : Int)) = False := eq_false (by omega)
   have hnbH := Lib.hid hnb
   have hkkH := Lib.hid hkk
   clear hn hnb hkk hlt hk
   by_cases h1 : 1 ≤ s.size
   ·have h1i : ((1 : Int) ≤ (s.size : Int)) = True := eq_true (by omega)
    by_cases h2 : s.size ≤ 16
    ·have h2i : ((s.size : Int) ≤ 16) = True := eq_true (by omega)
     go_wp2_with fail
     go_ret
     exact ⟨ret_bool (by rw [hnbH.out]; simp; omega), rfl⟩
    ·have h2i : ((s.size : Int) ≤ 16) = False := eq_false (by omega)
     go_wp2_with fail
     go_ret
     exact ⟨ret_bool (by rw [hnbH.out]; simp; omega), rfl⟩
   ·have h1i : ((1 : Int) ≤ (s.size : Int)) = False := eq_false (by omega)
    go_wp2_with fail
    go_ret
    exact ⟨ret_bool (by rw [hnbH.out]; simp; omega), rfl⟩
end Go.Proofs.YtpmnnoopoblpgaaGreat

/- Walks: lemmaryref06.Has. -/
namespace Go.Proofs.YtpmnnoopoblpgaaGreat
open Go Go.RowKit Go.Maps

theorem memB_take {l : List ByteArray} {x : ByteArray} {k : Nat} (hk : k < l.length) : memB (l.take (k + 1)) x = (memB (l.take k) x || decide (l[k] = x)) := by
 unfold memB
 rw [List.take_succ_eq_append_getElem hk, List.any_append]
 simp
set_option maxHeartbeats 1000000 in
theorem rHas_any {S : Nat → Prop} (a : Option Addr) (c : Nat) (l : List ByteArray) (x : ByteArray) (w : World) (h : Sl strE S w a c l) :
  Calls Tryz.prog 39 #[.slice a l.length c, .string x] w fun e w' => e = .returned (.bool (memB l x)) ∧ w = w' := by
 have m := h.le
 have hH := Lib.hid h
 clear h
 go_enter Tryz.func39, Tryz.ntmps39
 go_wp2_with fail
 go_loopw [5] (fun i wr => ∃ k : Nat, i = .int .i64 k ∧ k ≤ l.length ∧ memB (l.take k) x = false ∧ w = wr) (fun i _ => l.length - (intOf i).toNat)
 case atStart => exact ⟨0, rfl, Nat.zero_le _, rfl, rfl⟩
 case round =>
  obtain ⟨k, rfl, hk, hn, rfl⟩ := hrel
  by_cases hlt : k < l.length
  ·obtain ⟨b, o, rfl, -, q, -⟩ := hH.out.str k hlt
   have ht := memB_take (x := x) hlt
   rw [hn, Bool.false_or] at ht
   obtain ⟨y, hy⟩ : ∃ y, l[k] = y := ⟨_, rfl⟩
   have hmem : y = x → memB l x = true := fun e => memB_iff.2 (by rw [← e, ← hy]; exact List.getElem_mem hlt)
   rw [hy] at q ht
   have htH := Lib.hid ht
   have hmH := Lib.hid hmem
   clear ht hmem hn hy
   by_cases he : y = x
   ·have hq := str_eq he
    have hR := Lib.hid (hmH.out he)
    clear he
    go_wp2_with fail
    go_ret
    first | exact ⟨ret_bool hR.out.symm, rfl⟩ | exact ⟨ret_bool hR.out.symm, trivial⟩
   ·have hq := str_neq he
    have hR := Lib.hid (show memB (l.take (k + 1)) x = false by rw [htH.out]; exact decide_eq_false he)
    clear he
    go_wp2_with fail
    go_roundw
    case rel => first | exact ⟨k + 1, by go_num, hlt, hR.out, rfl⟩ | exact ⟨k + 1, by go_num, hlt, hR.out, trivial⟩
    case measure => simp [intOf]; omega
  ·have hkl : ((k : Int) < (l.length : Int)) = False := eq_false (by omega)
   rw [List.take_of_length_le (by omega)] at hn
   have hR := Lib.hid hn
   have hltH := Lib.hid hlt
   clear hn hlt
   go_wp2_with fail
   go_ret
   first | exact ⟨ret_bool hR.out.symm, rfl⟩ | exact ⟨ret_bool hR.out.symm, trivial⟩
end Go.Proofs.YtpmnnoopoblpgaaGreat

/- Walks: different; IndexFunc and ContainsFunc over strings with any closure. -/
namespace Go.Proofs.YtpmnnoopoblpgaaGreat
open Go Go.RowKit Go.Maps

theorem memB_upd {l : List ByteArray} {k : Nat} (hk : k < l.length) : (fun z => if z = l[k] then true else memB (l.take k) z) = memB (l.take (k + 1)) := by
 funext z
 rw [memB_take hk]
 by_cases e : z = l[k]
 ·rw [if_pos e, decide_eq_true e.symm, Bool.or_true]
 ·rw [if_neg e, decide_eq_false (fun h => e h.symm), Bool.or_false]
theorem cntD_take {l : List ByteArray} {k : Nat} (hk : k < l.length) : (if memB (l.take k) l[k] = true then cntD [] (l.take k) else cntD [] (l.take k) + 1) = cntD [] (l.take (k + 1)) := by
 rw [List.take_succ_eq_append_getElem hk, cntD_snoc, List.nil_append]
 split <;> rfl
abbrev SSet (w : World) (b M n : Nat) (f : ByteArray → Bool) : Prop := SMap Tryz.prog 9 4 w b M n f
def dfRel (l : List ByteArray) (w : World) (i : Value) (wr : World) : Prop :=
 ∃ k : Nat, i = .int .i64 k ∧ k ≤ l.length ∧ SSet wr w.heap.size k (cntD [] (l.take k)) (memB (l.take k)) ∧ Below w.heap.size w wr
set_option maxHeartbeats 1000000 in
theorem different_any {S : Nat → Prop} (a : Option Addr) (c : Nat) (l : List ByteArray) (w : World) (h : Sl strE S w a c l) (hl : l.length ≤ 1000000) :
  Calls Tryz.prog 74 #[.slice a l.length c] w fun e w' => e = .returned (.bool (decide l.Nodup)) ∧ Below w.heap.size w w' := by
 have m := h.le
 have hmm := @run_makeMap Tryz.prog
 have hH := Lib.hid h
 clear h
 go_enter Tryz.func74, Tryz.ntmps74
 go_wp2_with fail
 go_loopw [9] (fun i wr => dfRel l w i wr) (fun i _ => l.length - (intOf i).toNat)
 case atStart => exact ⟨0, rfl, Nat.zero_le _, (funext (fun x => by simp [memB]) : memB (l.take 0) = fun _ => false) ▸ SMap.made w, below1 _ _⟩
 case round =>
  obtain ⟨k, rfl, hk, hm, hB⟩ := hrel
  by_cases hlt : k < l.length
  ·obtain ⟨b, o, rfl, -, q, hsz⟩ := hH.out.str k hlt
   have p := (hB.cell (p := ⟨b, o + k, none⟩) (World.block_lt_of_cell? w _ q)).trans q
   clear q
   have hw0 := hm.lt
   obtain ⟨w2, hu1, hu2, hu3⟩ := hm.store (tm := 88) Tryz.underlying88 Tryz.underlying9 Tryz.underlying4 (by unfold maxLen; omega) l[k] (big_max hsz)
   rw [memB_upd hlt, cntD_take hlt] at hu2
   obtain ⟨x, hx⟩ : ∃ x, l[k] = x := ⟨_, rfl⟩
   rw [hx] at p hu1
   have hu2H := Lib.hid hu2
   have hu3H := Lib.hid hu3
   clear hu2 hu3 hx hm
   go_wp2_with fail
   go_roundw
   case rel => exact ⟨k + 1, by go_num, by omega, hu2H.out, hB.grown hu3H.out hB.size (fun j e => by cases e; exact Nat.le_refl _)⟩
   case measure => simp [intOf]; omega
  ·have hlen := hm.len (tm := 88) Tryz.underlying88 3
   have hkl : k = l.length := by omega
   rw [hkl, List.take_length] at hlen
   have hn := cntD_nodup l [] List.nodup_nil
   rw [List.nil_append] at hn
   obtain ⟨n, hnn⟩ : ∃ n, cntD [] l = n := ⟨_, rfl⟩
   rw [hnn] at hlen hn
   have hkk : ((k : Int) < (l.length : Int)) = False := eq_false (by omega)
   have hf : ((n : Int) == (l.length : Int)) = decide l.Nodup := by
    rw [Bool.eq_iff_iff, beq_iff_eq, decide_eq_true_eq, ← hn]
    exact ⟨fun h => by omega, fun h => by omega⟩
   have hfH := Lib.hid hf
   have hBH := Lib.hid hB
   clear hf hn hkl hm hB hnn hlt hk
   go_wp2_with fail
   go_ret
   exact ⟨ret_bool hfH.out, hBH.out⟩
/-! ### slices.IndexFunc over strings, with any closure that only answers -/
def idxE {α : Type} (l : List α) (pd : α → Bool) : Int := match l.findIdx? pd with | some i => (i : Int) | none => -1
theorem idxE_some {α : Type} {l : List α} {pd : α → Bool} {k : Nat} (hk : k < l.length) (h1 : ∀ j (hj : j < k), pd (l[j]'(by omega)) = false) (h2 : pd l[k] = true) : idxE l pd = k := by
 unfold idxE
 have : l.findIdx? pd = some k := by
  rw [List.findIdx?_eq_some_iff_getElem]
  exact ⟨hk, h2, fun j hj => by rw [h1 j hj]; simp⟩
 rw [this]
theorem idxE_none {α : Type} {l : List α} {pd : α → Bool} (h : ∀ j (hj : j < l.length), pd l[j] = false) : idxE l pd = -1 := by
 unfold idxE
 have : l.findIdx? pd = none := by
  rw [List.findIdx?_eq_none_iff]
  intro x hx
  obtain ⟨j, hj, rfl⟩ := List.getElem_of_mem hx
  exact h j hj
 rw [this]
theorem idxE_any {α : Type} (l : List α) (pd : α → Bool) : decide (0 ≤ idxE l pd) = l.any pd := by
 unfold idxE
 cases h : l.findIdx? pd with
 | none =>
  rw [List.findIdx?_eq_none_iff] at h
  have : l.any pd = false := by rw [List.any_eq_false]; intro x hx; rw [h x hx]; simp
  rw [this]; rfl
 | some i =>
  rw [List.findIdx?_eq_some_iff_getElem] at h
  obtain ⟨hi, h1, -⟩ := h
  have : l.any pd = true := by rw [List.any_eq_true]; exact ⟨l[i], List.getElem_mem hi, h1⟩
  rw [this]
  simp
def ixRel (l : List ByteArray) (pd : ByteArray → Bool) (w : World) (i : Value) (wr : World) : Prop :=
 ∃ k : Nat, i = .int .i64 k ∧ k ≤ l.length ∧ (∀ j (hj : j < k) (hl : j < l.length), pd l[j] = false) ∧ Below w.heap.size w wr
def FnSays (g : FuncId) (cb : Array Value) (l : List ByteArray) (pd : ByteArray → Bool) (w : World) : Prop :=
 ∀ (i : Nat) (hi : i < l.length) (W : World), Below w.heap.size w W → Calls Tryz.prog g (#[.string l[i]] ++ cb) W fun e w' => e = .returned (.bool (pd l[i])) ∧ Below W.heap.size W w'
set_option maxHeartbeats 1000000 in
theorem IndexS_any {S : Nat → Prop} (a : Option Addr) (c : Nat) (l : List ByteArray) (g : FuncId) (cb : Array Value) (eg : ∀ args w, (callFunc g args).run Tryz.prog w = .ok (.enter g args) w) (pd : ByteArray → Bool) (w : World) (h : Sl strE S w a c l) (hf : FnSays g cb l pd w) :
  Calls Tryz.prog 129 #[.slice a l.length c, .func (.func g) #[] cb] w fun e w' => e = .returned (.int .i64 (idxE l pd)) ∧ Below w.heap.size w w' := by
 have m := h.le
 have hH := Lib.hid h
 have hfH := Lib.hid hf
 clear h hf
 go_enter Tryz.func129, Tryz.ntmps129
 go_wp2_with fail
 go_loopw [8] (fun i wr => ixRel l pd w i wr) (fun i _ => l.length - (intOf i).toNat)
 case atStart => exact ⟨0, rfl, Nat.zero_le _, fun j hj => by omega, .refl _ _⟩
 case round =>
  obtain ⟨k, rfl, hk, hno, hB⟩ := hrel
  by_cases hlt : k < l.length
  ·obtain ⟨b, o, rfl, -, q, hsz⟩ := hH.out.str k hlt
   have p := (hB.cell (p := ⟨b, o + k, none⟩) (World.block_lt_of_cell? w _ q)).trans q
   clear q
   have hc := hfH.out k hlt wr hB
   cases hp : pd l[k] with
   | true =>
    have hfin := idxE_some hlt (fun j hj => hno j hj (by omega)) hp
    have hfinH := Lib.hid hfin
    rw [hp] at hc
    have hcH := Lib.hid hc
    have hBH := Lib.hid hB
    clear hfin hc hp hno hB
    go_wp2_with (first | (go_at_fn g; refine hcH.out.mono ?_; rintro e w2 ⟨rfl, hb⟩) | go_in)
    go_ret
    exact ⟨ret_int hfinH.out.symm, hBH.out.trans (hb.mono hBH.out.size)⟩
   | false =>
    have hno2 : ∀ j (hj : j < k + 1) (hl : j < l.length), pd l[j] = false := fun j hj hl => by
     by_cases e : j = k
     ·subst e; exact hp
     ·exact hno j (by omega) hl
    rw [hp] at hc
    have hcH := Lib.hid hc
    have hBH := Lib.hid hB
    have hnoH := Lib.hid hno2
    clear hc hp hno hno2 hB
    go_wp2_with (first | (go_at_fn g; refine hcH.out.mono ?_; rintro e w2 ⟨rfl, hb⟩) | go_in)
    go_roundw
    case rel => exact ⟨k + 1, by go_num, by omega, hnoH.out, hBH.out.trans (hb.mono hBH.out.size)⟩
    case measure => simp [intOf]; omega
  ·have hkk : ((k : Int) < (l.length : Int)) = False := eq_false (by omega)
   have hfin := Lib.hid (idxE_none (fun j hj => hno j (by omega) hj))
   have hBH := Lib.hid hB
   clear hno hB hlt hk
   go_wp2_with fail
   go_ret
   exact ⟨ret_int hfin.out.symm, hBH.out⟩
set_option maxHeartbeats 1000000 in
theorem ContainsS_any {S : Nat → Prop} (a : Option Addr) (c : Nat) (l : List ByteArray) (g : FuncId) (cb : Array Value) (eg : ∀ args w, (callFunc g args).run Tryz.prog w = .ok (.enter g args) w) (pd : ByteArray → Bool) (w : World) (h : Sl strE S w a c l) (hf : FnSays g cb l pd w) :
  Calls Tryz.prog 75 #[.slice a l.length c, .func (.func g) #[] cb] w fun e w' => e = .returned (.bool (l.any pd)) ∧ Below w.heap.size w w' := by
 have ci := IndexS_any a c l g cb eg pd w h hf
 have hg := idxE_any l pd
 have ciH := Lib.hid ci
 have hgH := Lib.hid hg
 clear ci h hf hg
 go_enter Tryz.func75, Tryz.ntmps75
 go_wp2_with (go_at_call 129; refine ciH.out.mono ?_; rintro e w' ⟨rfl, hb⟩)
 go_ret
 exact ⟨ret_bool hgH.out, hb⟩
end Go.Proofs.YtpmnnoopoblpgaaGreat

/- Walks: ValidEntry of the program. -/
namespace Go.Proofs.YtpmnnoopoblpgaaGreat
open Go Go.RowKit Go.Maps

theorem vE1_any (u : ByteArray) (hu : u.size ≤ big) (w : World) : Calls Tryz.prog 76 #[.string u] w fun e w' => e = .returned (.bool (!nameB u)) ∧ Below w.heap.size w w' := by
 have c := dName_any u hu w
 have cH := Lib.hid c
 clear c
 go_enter Tryz.func76, Tryz.ntmps76
 go_wp2_with (go_at_call 24; refine cH.out.mono ?_; rintro e w1 ⟨rfl, rfl⟩)
 go_ret
 exact ⟨rfl, .refl _ _⟩
abbrev entV (nm bn : ByteArray) (n1 n2 n3 : Nat) (a1 a2 a3 : Option Addr) (c1 c2 c3 : Nat) : Value := .agg #[.string nm, .string bn, .slice a1 n1 c1, .slice a2 n2 c2, .slice a3 n3 c3]
set_option maxHeartbeats 4000000 in
theorem ValidEntry_any {S1 S2 : Nat → Prop} (sa : Option Addr) (sc : Nat) (s : Sg) (x : Ent) (a1 a2 a3 : Option Addr) (c1 c2 c3 : Nat) (w : World) (h1 : Sign S1 w sa sc s) (hn : (eNm x).size ≤ big) (hb : (eBy x).size ≤ big)
  (hI : Ints S2 w a1 c1 (eSays x)) (hU : Sl strE S2 w a2 c2 (eUses x)) (hP : Steps S2 w a3 c3 (ePf x)) :
  Calls Tryz.prog 18 #[.slice sa s.length sc, entV (eNm x) (eBy x) (eSays x).length (eUses x).length (ePf x).length a1 a2 a3 c1 c2 c3] w fun e w' => e = .returned (.bool (okEnt s x)) ∧ Below w.heap.size w w' := by
 have m1 := hI.le
 have m2 := hU.le
 have m3 := hP.le
 have hok : okEnt s x = ((nameB (eNm x) && (nameB (eBy x) && isCanonT s (eSays x))) && ((decide ((eUses x).length ≤ 12) && (decide (eUses x).Nodup && (eUses x).all nameB)) && ((decide (eUses x = []) && decide (ePf x = [])) || proofB (eUses x).length (ePf x)))) := rfl
 obtain ⟨W, hW⟩ : ∃ W, w.alloc (.cells #[.string (eNm x), .string (eBy x), .slice a1 (eSays x).length c1, .slice a2 (eUses x).length c2, .slice a3 (ePf x).length c3] 37) = W := ⟨_, rfl⟩
 have hB : Below w.heap.size w W := by rw [← hW]; exact below1 w _
 have hWs : W.heap.size = w.heap.size + 1 := by rw [← hW]; simp
 have q0 : W.cell? ⟨w.heap.size, 0, none⟩ = some (.string (eNm x)) := by rw [← hW]; clear hW; go_simp
 have q1 : W.cell? ⟨w.heap.size, 1, none⟩ = some (.string (eBy x)) := by rw [← hW]; clear hW; go_simp
 have q2 : W.cell? ⟨w.heap.size, 2, none⟩ = some (.slice a1 (eSays x).length c1) := by rw [← hW]; clear hW; go_simp
 have q3 : W.cell? ⟨w.heap.size, 3, none⟩ = some (.slice a2 (eUses x).length c2) := by rw [← hW]; clear hW; go_simp
 have q4 : W.cell? ⟨w.heap.size, 4, none⟩ = some (.slice a3 (ePf x).length c3) := by rw [← hW]; clear hW; go_simp
 have k1 := dName_any (eNm x) hn W
 have k2 := dName_any (eBy x) hb W
 have k3 := IsCanonical_any sa a1 sc c1 s (eSays x) W (h1.below hB) (hI.below hB)
 have k4 : (eUses x).length ≤ 12 → ∀ W', Below W.heap.size W W' → Calls Tryz.prog 74 #[.slice a2 (eUses x).length c2] W' fun e w' => e = .returned (.bool (decide (eUses x).Nodup)) ∧ Below W'.heap.size W' w' := fun hl W' hb' => different_any a2 c2 (eUses x) W' ((hU.below hB).below hb') (by omega)
 have k5 : ∀ W', Below W.heap.size W W' → Calls Tryz.prog 75 #[.slice a2 (eUses x).length c2, .func (.func 76) #[] #[]] W' fun e w' => e = .returned (.bool ((eUses x).any (fun u => !nameB u))) ∧ Below W'.heap.size W' w' := fun W' hb' =>
  ContainsS_any a2 c2 (eUses x) 76 #[] (enters_of Tryz.func76 (by kernel_rfl) rfl) (fun u => !nameB u) W' ((hU.below hB).below hb') (fun i hi W2 _ => vE1_any _ (by obtain ⟨_, _, _, _, _, hz⟩ := hU.str i hi; exact hz) W2)
 have k6 : ∀ W', Below W.heap.size W W' → Calls Tryz.prog 77 #[.int .i64 ((eUses x).length : Int), .slice a3 (ePf x).length c3] W' fun e w' => e = .returned (.bool (proofB (eUses x).length (ePf x))) ∧ Below W'.heap.size W' w' := fun W' hb' =>
  ValidProof_any ((eUses x).length : Int) a3 c3 (ePf x) W' ((hP.below hB).below hb')
 have hall : (eUses x).all nameB = !((eUses x).any (fun u => !nameB u)) := by rw [List.all_eq_not_any_not]
 have he1 : decide (eUses x = []) = ((((eUses x).length : Nat) : Int) == 0) := by rw [Bool.eq_iff_iff, decide_eq_true_eq, beq_iff_eq, ← List.length_eq_zero_iff]; omega
 have he2 : decide (ePf x = []) = ((((ePf x).length : Nat) : Int) == 0) := by rw [Bool.eq_iff_iff, decide_eq_true_eq, beq_iff_eq, ← List.length_eq_zero_iff]; omega
 rw [hall, he1, he2] at hok
 clear h1 hI hU hP hn hb hall he1 he2
 generalize okEnt s x = OK at hok ⊢
 generalize eNm x = nm at *
 generalize eBy x = bn at *
 generalize (eSays x).length = n1 at *
 generalize isCanonT s (eSays x) = b3 at *
 generalize hU : eUses x = us at *
 generalize hP : ePf x = pf at *
 generalize proofB (us.length : Int) pf = b6 at *
 generalize decide us.Nodup = b4 at *
 generalize us.any (fun u => !nameB u) = b5 at *
 clear hU hP
 generalize us.length = n2 at *
 generalize pf.length = n3 at *
 cases hb1 : nameB nm with
 | false =>
  rw [hb1] at k1 hok
  have k1H := Lib.hid k1
  have hokH := Lib.hid hok
  have hBH := Lib.hid hB
  clear k1 k2 k3 k4 k5 k6 hok hB hb1
  go_enter Tryz.func18, Tryz.ntmps18
  go_wp2_with fail
  try rw [hW]
  refine k1H.out.mono ?_
  rintro e w1 ⟨rfl, rfl⟩
  go_wp2_with fail
  go_ret
  exact ⟨by rw [hokH.out]; rfl, hBH.out⟩
 | true =>
 cases hb2 : nameB bn with
 | false =>
  rw [hb1] at k1 hok
  rw [hb2] at k2 hok
  have k1H := Lib.hid k1
  have k2H := Lib.hid k2
  have hokH := Lib.hid hok
  have hBH := Lib.hid hB
  clear k1 k2 k3 k4 k5 k6 hok hB hb1 hb2
  go_enter Tryz.func18, Tryz.ntmps18
  go_wp2_with fail
  try rw [hW]
  refine k1H.out.mono ?_
  rintro e w1 ⟨rfl, rfl⟩
  go_wp2_with fail
  refine k2H.out.mono ?_
  rintro e w1 ⟨rfl, rfl⟩
  go_wp2_with fail
  go_ret
  exact ⟨by rw [hokH.out]; rfl, hBH.out⟩
 | true =>
 rw [hb1] at k1 hok
 rw [hb2] at k2 hok
 cases b3 with
 | false =>
  have k1H := Lib.hid k1
  have k2H := Lib.hid k2
  have k3H := Lib.hid k3
  have hokH := Lib.hid hok
  have hBH := Lib.hid hB
  clear k1 k2 k3 k4 k5 k6 hok hB hb1 hb2
  go_enter Tryz.func18, Tryz.ntmps18
  go_wp2_with fail
  try rw [hW]
  refine k1H.out.mono ?_
  rintro e w1 ⟨rfl, rfl⟩
  go_wp2_with fail
  refine k2H.out.mono ?_
  rintro e w1 ⟨rfl, rfl⟩
  go_wp2_with fail
  refine k3H.out.mono ?_
  rintro e w3 ⟨rfl, hb3⟩
  go_wp2_with fail
  go_ret
  exact ⟨by rw [hokH.out]; rfl, bcall hBH.out hb3⟩
 | true =>
 rw [Bool.true_and, Bool.true_and, Bool.true_and] at hok
 have k1H := Lib.hid k1
 have k2H := Lib.hid k2
 have k3H := Lib.hid k3
 have k4H := Lib.hid k4
 have k5H := Lib.hid k5
 have k6H := Lib.hid k6
 have hokH := Lib.hid hok
 have hBH := Lib.hid hB
 clear k1 k2 k3 k4 k5 k6 hok hB hb1 hb2
 go_enter Tryz.func18, Tryz.ntmps18
 go_wp2_with fail
 try rw [hW]
 refine k1H.out.mono ?_
 rintro e w1 ⟨rfl, rfl⟩
 go_wp2_with fail
 refine k2H.out.mono ?_
 rintro e w1 ⟨rfl, rfl⟩
 go_wp2_with fail
 refine k3H.out.mono ?_
 rintro e w3 ⟨rfl, hb3⟩
 have hB3 := Lib.hid (bcall hBH.out hb3)
 have p3 := cell_later hb3 q3
 have p4 := cell_later hb3 q4
 have hb3H := Lib.hid hb3
 clear q0 q1 q2 q3 q4 hb3
 by_cases h12 : n2 ≤ 12
 ·have h12i : ((12 : Int) < (n2 : Int)) = False := eq_false (by omega)
  have h12d : decide (n2 ≤ 12) = true := decide_eq_true h12
  have k4a := Lib.hid (k4H.out h12 w3 hb3H.out)
  have hok2 := hokH.out
  rw [h12d, Bool.true_and] at hok2
  have hokH := Lib.hid hok2
  clear hok2 h12d h12
  cases b4 with
  | false =>
   go_wp2_with fail
   refine k4a.out.mono ?_
   rintro e w4 ⟨rfl, hb4⟩
   go_wp2_with fail
   go_ret
   exact ⟨by rw [hokH.out]; rfl, bcall hB3.out hb4⟩
  | true =>
  go_wp2_with fail
  refine k4a.out.mono ?_
  rintro e w4 ⟨rfl, hb4⟩
  have p3' := cell_later hb4 p3
  have p4' := cell_later hb4 p4
  have k5a := Lib.hid (k5H.out w4 (bcall hb3H.out hb4))
  have hB4 := Lib.hid (bcall hB3.out hb4)
  have hb4H := Lib.hid (bcall hb3H.out hb4)
  clear p3 p4 hb4
  cases b5 with
  | true =>
   go_wp2_with fail
   refine k5a.out.mono ?_
   rintro e w5 ⟨rfl, hb5⟩
   go_wp2_with fail
   go_ret
   exact ⟨by rw [hokH.out]; rfl, bcall hB4.out hb5⟩
  | false =>
  go_wp2_with fail
  refine k5a.out.mono ?_
  rintro e w5 ⟨rfl, hb5⟩
  have p3 := cell_later hb5 p3'
  have p4 := cell_later hb5 p4'
  have k6a := Lib.hid (k6H.out w5 (bcall hb4H.out hb5))
  have hB5 := Lib.hid (bcall hB4.out hb5)
  clear p3' p4' hb5
  have hok2 := hokH.out
  simp only [Bool.not_false, Bool.and_true, Bool.true_and] at hok2
  have hokH := Lib.hid hok2
  clear hok2
  cases hz : (((n2 : Int) == 0) && ((n3 : Int) == 0)) with
  | true =>
   rw [Bool.and_eq_true, beq_iff_eq, beq_iff_eq] at hz
   obtain ⟨e1, e2⟩ := hz
   have z1 : n2 = 0 := by omega
   have z2 : n3 = 0 := by omega
   subst z1
   subst z2
   go_wp2_with fail
   go_ret
   exact ⟨by rw [hokH.out]; rfl, hB5.out⟩
  | false =>
   rw [hz, Bool.false_or] at hokH
   have hzH := Lib.hid hz
   cases hz1 : ((n2 : Int) == 0) with
   | true =>
    have hz2 : ((n3 : Int) == 0) = false := by have := hzH.out; rw [hz1, Bool.true_and] at this; exact this
    clear hz
    go_wp2_with fail
    refine k6a.out.mono ?_
    rintro e w6 ⟨rfl, hb6⟩
    go_wp2_with fail
    go_ret
    exact ⟨by rw [hokH.out]; rfl, bcall hB5.out hb6⟩
   | false =>
    clear hz
    go_wp2_with fail
    refine k6a.out.mono ?_
    rintro e w6 ⟨rfl, hb6⟩
    go_wp2_with fail
    go_ret
    exact ⟨by rw [hokH.out]; rfl, bcall hB5.out hb6⟩
 ·have h12i : ((12 : Int) < (n2 : Int)) = True := eq_true (by omega)
  have h12d : decide (n2 ≤ 12) = false := decide_eq_false h12
  have hok2 := hokH.out
  rw [h12d] at hok2
  have hokH := Lib.hid hok2
  clear hok2 h12d h12
  go_wp2_with fail
  go_ret
  exact ⟨by rw [hokH.out]; rfl, hB3.out⟩
end Go.Proofs.YtpmnnoopoblpgaaGreat

/- Walks: Valid of the program; what a library knows of itself; open, named, Find. -/
namespace Go.Proofs.YtpmnnoopoblpgaaGreat
open Go Go.RowKit Go.Maps

def nmsT (l : List Ent) (k : Nat) : List ByteArray := (l.take k).map eNm
theorem nmsT_len {l : List Ent} {k : Nat} (hk : k ≤ l.length) : (nmsT l k).length = k := by unfold nmsT; rw [List.length_map, List.length_take]; omega
theorem nmsT_succ {l : List Ent} {k : Nat} (hk : k < l.length) : nmsT l k ++ [eNm l[k]] = nmsT l (k + 1) := by
 unfold nmsT; rw [List.take_succ_eq_append_getElem hk, List.map_append]; rfl
def vlRel (s : Sg) (l : List Ent) (w : World) (i v : Value) (wr : World) : Prop :=
 ∃ k : Nat, i = .int .i64 k ∧ k ≤ l.length ∧ (l.take k).all (okEnt s) = true ∧ OwnS wr w.heap.size v (nmsT l k) ∧ Below w.heap.size w wr
set_option maxHeartbeats 4000000 in
theorem dValid_any {S1 S2 : Nat → Prop} (sa la : Option Addr) (sc lc : Nat) (s : Sg) (l : List Ent) (w : World) (h1 : Sign S1 w sa sc s) (h2 : LibL S2 w la lc l) (hl : l.length ≤ 1000) :
  Calls Tryz.prog 26 #[.slice sa s.length sc, .slice la l.length lc] w fun e w' => e = .returned (.bool (okLib s l)) ∧ Below w.heap.size w w' := by
 have m := h2.le
 have m1 := h1.le
 have h1H := Lib.hid h1
 have h2H := Lib.hid h2
 clear h1 h2
 go_enter Tryz.func26, Tryz.ntmps26
 go_wp2_with fail
 go_loopw [10, 5] (fun i v wr => vlRel s l w i v wr) (fun i _ _ => l.length - (intOf i).toNat)
 case atStart => exact ⟨0, rfl, Nat.zero_le _, rfl, by unfold nmsT; exact OwnL.nil _ _ _ _ _, .refl _ _⟩
 case round =>
  obtain ⟨k, rfl, hk, hall, hO, hB⟩ := hrel
  by_cases hlt : k < l.length
  ·obtain ⟨b, off, a1, c1, a2, c2, a3, c3, rfl, -, p0, p1, p2, p3, p4, z1, z2, hI, hU, hP⟩ := (h2H.out.below hB).ent k hlt
   obtain ⟨W, hW⟩ : ∃ W, wr.alloc (.cells #[.string (eNm l[k]), .string (eBy l[k]), .slice a1 (eSays l[k]).length c1, .slice a2 (eUses l[k]).length c2, .slice a3 (ePf l[k]).length c3] 37) = W := ⟨_, rfl⟩
   have hBW : Below wr.heap.size wr W := by rw [← hW]; exact below1 wr _
   have q0 : W.cell? ⟨wr.heap.size, 0, none⟩ = some (.string (eNm l[k])) := by rw [← hW]; clear hW; go_simp
   have q1 : W.cell? ⟨wr.heap.size, 1, none⟩ = some (.string (eBy l[k])) := by rw [← hW]; clear hW; go_simp
   have q2 : W.cell? ⟨wr.heap.size, 2, none⟩ = some (.slice a1 (eSays l[k]).length c1) := by rw [← hW]; clear hW; go_simp
   have q3 : W.cell? ⟨wr.heap.size, 3, none⟩ = some (.slice a2 (eUses l[k]).length c2) := by rw [← hW]; clear hW; go_simp
   have q4 : W.cell? ⟨wr.heap.size, 4, none⟩ = some (.slice a3 (ePf l[k]).length c3) := by rw [← hW]; clear hW; go_simp
   have ve := ValidEntry_any sa sc s l[k] a1 a2 a3 c1 c2 c3 W ((h1H.out.below hB).below hBW) z1 z2 (hI.below hBW) (hU.below hBW) (hP.below hBW)
   have hst : okEnt s l[k] = true → (l.take (k + 1)).all (okEnt s) = true := fun h => by rw [List.take_succ_eq_append_getElem hlt, List.all_append, hall]; simpa using h
   have hbad : okEnt s l[k] = false → okLib s l = false := fun h => by
    have : l.all (okEnt s) = false := by rw [List.all_eq_false]; exact ⟨l[k], List.getElem_mem hlt, by rw [h]; simp⟩
    unfold okLib; rw [this]; simp
   have hns := nmsT_succ hlt
   have hnl := nmsT_len (l := l) hk
   have hO1 := OwnL.call hO hBW
   have hBW1 := bcall hB hBW
   clear hI hU hP hall hO
   generalize okEnt s l[k] = ok at ve hst hbad
   generalize eNm l[k] = nm at *
   generalize eBy l[k] = bn at *
   generalize (eSays l[k]).length = n1 at *
   generalize (eUses l[k]).length = n2 at *
   generalize (ePf l[k]).length = n3 at *
   have veH := Lib.hid ve
   have hstH := Lib.hid hst
   have hbadH := Lib.hid hbad
   have hnsH := Lib.hid hns
   have hO1H := Lib.hid hO1
   have hBH := Lib.hid hBW1
   have hWH := Lib.hid hW
   clear ve hst hbad hns hO1 hBW1 hBW hB hW
   cases ok with
   | false =>
    go_wp2_with (go_at_call 18; rw [hWH.out]; refine veH.out.mono ?_; rintro e w2 ⟨rfl, hb2⟩)
    go_ret
    exact ⟨ret_bool (hbadH.out (by simp)).symm, bcall hBH.out hb2⟩
   | true =>
    go_wp2_with (go_at_call 18; rw [hWH.out]; refine veH.out.mono ?_; rintro e w2 ⟨rfl, hb2⟩; obtain ⟨v', W', hrun, ho, hg, -⟩ := OwnL.push (P := Tryz.prog) (t := 29) (ty := 29) (OwnL.call hO1H.out hb2) Tryz.underlying29 infoStr rfl (vs := [.string nm]) (x := nm) ⟨rfl, z1⟩ (by rw [hnl]; omega) (by rw [hnl]; unfold big; omega) (Nat.le_trans hBH.out.size hb2.size); rw [hnsH.out] at ho; have r0 := cell_later hb2 q0; have hoH := Lib.hid ho; have hgH := Lib.hid hg; have hb2H := Lib.hid hb2; clear ho hg hb2 q0 q1 q2 q3 q4; go_wp2_with (at_builtin; refine wpList_append_run rfl _ _ _ rfl rfl rfl hrun ?_))
    go_roundw
    case rel => exact ⟨k + 1, by go_num, hlt, hstH.out (by simp), hoH.out, (bcall hBH.out hb2H.out).grown hgH.out (Nat.le_trans hBH.out.size hb2H.out.size) (fun j e => (OwnL.lt (OwnL.call hO1H.out hb2H.out) j e).1)⟩
    case measure => simp [intOf]; omega
  ·have hkl : k = l.length := by omega
   subst hkl
   rw [List.take_of_length_le (Nat.le_refl _)] at hall
   have hnm : nmsT l l.length = l.map eNm := by unfold nmsT; rw [List.take_length]
   rw [hnm] at hO
   obtain ⟨na, nc, rfl, hN⟩ := OwnS.strs hO
   rw [List.length_map] at *
   have hok : okLib s l = (okSign s && (decide (l.length ≤ 60) && decide (l.map eNm).Nodup)) := by unfold okLib; rw [hall, Bool.true_and]
   have v1 := ValidSign_any sa sc s wr (h1H.out.below hB)
   have v2 : ∀ W, Below wr.heap.size wr W → Calls Tryz.prog 74 #[.slice na l.length nc] W fun e w' => e = .returned (.bool (decide (l.map eNm).Nodup)) ∧ Below W.heap.size W w' := fun W hb => by
    have := different_any na nc (l.map eNm) W (hN.below hb) (by rw [List.length_map]; omega)
    rw [List.length_map] at this
    exact this
   have v1H := Lib.hid v1
   have v2H := Lib.hid v2
   have hokH := Lib.hid hok
   have hBH := Lib.hid hB
   clear v1 v2 hok hB hN hO hall hnm hlt hk
   generalize decide (l.map eNm).Nodup = nd at *
   have hkk : ((l.length : Int) < (l.length : Int)) = False := eq_false (by omega)
   cases hx : okSign s with
   | false =>
    rw [hx] at v1H hokH
    clear hx
    go_wp2_with fail
    refine v1H.out.mono ?_
    rintro e w1 ⟨rfl, hb1⟩
    go_wp2_with fail
    go_ret
    exact ⟨by rw [hokH.out]; rfl, bcall hBH.out hb1⟩
   | true =>
    rw [hx] at v1H hokH
    clear hx
    by_cases h60 : l.length ≤ 60
    ·have hd : decide ((l.length : Int) ≤ 60) = true := by simp; omega
     have h60d := Lib.hid (decide_eq_true h60)
     clear h60
     go_wp2_with fail
     refine v1H.out.mono ?_
     rintro e w1 ⟨rfl, hb1⟩
     have v2a := Lib.hid (v2H.out w1 hb1)
     have hB1 := Lib.hid (bcall hBH.out hb1)
     clear hb1
     go_wp2_with fail
     refine v2a.out.mono ?_
     rintro e w2 ⟨rfl, hb2⟩
     go_wp2_with fail
     go_ret
     exact ⟨by rw [hokH.out, h60d.out]; rfl, bcall hB1.out hb2⟩
    ·have hd : decide ((l.length : Int) ≤ 60) = false := by simp; omega
     have h60d := Lib.hid (decide_eq_false h60)
     clear h60
     go_wp2_with fail
     refine v1H.out.mono ?_
     rintro e w1 ⟨rfl, hb1⟩
     go_wp2_with fail
     go_ret
     exact ⟨by rw [hokH.out, h60d.out]; rfl, bcall hBH.out hb1⟩
end Go.Proofs.YtpmnnoopoblpgaaGreat

/- What a library knows of itself; open. -/
namespace Go.Proofs.YtpmnnoopoblpgaaGreat
open Go Go.RowKit Go.Maps

noncomputable abbrev nmK : KeyK ByteArray Tryz.prog 9 := strK Tryz.underlying9
def atV (l : List Ent) (x : ByteArray) : Option Value := (atN l x).map (fun i : Nat => Value.int .i64 i)
theorem atN_snoc {l : List Ent} (x : Ent) (z : ByteArray) : atN (l ++ [x]) z = match atN l z with | some i => some i | none => if eNm x = z then some l.length else none := by
 unfold atN
 rw [List.findIdx?_append]
 cases h : l.findIdx? (fun x => decide (eNm x = z)) with
 | some i => rfl
 | none =>
  rw [Option.none_or]
  by_cases e : eNm x = z
  ·simp [List.findIdx?_cons, e]
  ·simp [List.findIdx?_cons, e]
theorem atV_store {l : List Ent} {k : Nat} (hk : k < l.length) (hd : (l.map eNm).Nodup) : (fun z => if z = eNm l[k] then some (Value.int .i64 k) else atV (l.take k) z) = atV (l.take (k + 1)) := by
 have hno : atN (l.take k) (eNm l[k]) = none := by
  cases h : atN (l.take k) (eNm l[k]) with
  | none => rfl
  | some i =>
   obtain ⟨hi, e⟩ := atN_some h
   rw [List.length_take] at hi
   rw [List.getElem_take] at e
   have := (List.getElem_inj (xs := l.map eNm) (i := i) (j := k) (h₀ := by rw [List.length_map]; omega) (h₁ := by rw [List.length_map]; exact hk) hd).1 (by rw [List.getElem_map, List.getElem_map]; exact e)
   omega
 funext z
 unfold atV
 rw [List.take_succ_eq_append_getElem hk, atN_snoc]
 by_cases e : z = eNm l[k]
 ·subst e
  rw [hno, if_pos rfl, List.length_take, Nat.min_eq_left (by omega)]
  simp
 ·rw [if_neg e]
  cases atN (l.take k) z with
  | some i => rfl
  | none => rw [if_neg (fun h : eNm l[k] = z => e h.symm)]
def AtMap (w : World) (bm : Nat) (l : List Ent) : Prop := ∃ n, n ≤ 1000 ∧ VMap nmK w bm n (atV l)
def DLib (B : Nat) (w : World) (xb : Nat) (s : Sg) (l : List Ent) : Prop :=
 B ≤ w.heap.size ∧ xb < B ∧ okLib s l = true ∧ ∃ sa sc la lc bm, w.cell? ⟨xb, 0, none⟩ = some (.slice sa s.length sc) ∧ w.cell? ⟨xb, 1, none⟩ = some (.slice la l.length lc) ∧ w.cell? ⟨xb, 2, none⟩ = some (.map (some bm)) ∧ bm < B ∧
  Sign (fun b => b < B) w sa sc s ∧ LibL (fun b => b < B) w la lc l ∧ AtMap w bm l
theorem DLib.below {B xb : Nat} {w w' : World} {s : Sg} {l : List Ent} (h : DLib B w xb s l) (hb : Below B w w') : DLib B w' xb s l := by
 obtain ⟨h1, h2, h0, sa, sc, la, lc, bm, q0, q1, q2, h3, h4, h5, n, h6, h7⟩ := h
 have hA : Agree (fun b => b < B) w w' := .of_below hb (fun b h _ => h)
 exact ⟨Nat.le_trans h1 hb.size, h2, h0, sa, sc, la, lc, bm, (hb.cell (p := ⟨xb, 0, none⟩) h2).trans q0, (hb.cell (p := ⟨xb, 1, none⟩) h2).trans q1, (hb.cell (p := ⟨xb, 2, none⟩) h2).trans q2, h3, h4.same hA, h5.same hA, n, h6, h7.below hb h3⟩
theorem DLib.call {B xb : Nat} {w w' : World} {s : Sg} {l : List Ent} (h : DLib B w xb s l) (hb : Below w.heap.size w w') : DLib B w' xb s l := h.below (hb.mono h.1)
theorem DLib.mono {B B' xb : Nat} {w : World} {s : Sg} {l : List Ent} (h : DLib B w xb s l) (h1 : B ≤ B') (h2 : B' ≤ w.heap.size) : DLib B' w xb s l := by
 obtain ⟨_, h3, h0, sa, sc, la, lc, bm, q0, q1, q2, h4, h5, h6, h7⟩ := h
 exact ⟨h2, Nat.lt_of_lt_of_le h3 h1, h0, sa, sc, la, lc, bm, q0, q1, q2, Nat.lt_of_lt_of_le h4 h1, h5.weak (fun b h => Nat.lt_of_lt_of_le h h1), h6.weak (fun b h => Nat.lt_of_lt_of_le h h1), h7⟩
theorem okLib_parts {s : Sg} {l : List Ent} (h : okLib s l = true) : okSign s = true ∧ l.length ≤ 60 ∧ (∀ x ∈ l, okEnt s x = true) ∧ (l.map eNm).Nodup := by
 unfold okLib at h
 simp only [Bool.and_eq_true, decide_eq_true_eq, List.all_eq_true] at h
 exact ⟨h.1, h.2.1, h.2.2.1, h.2.2.2⟩
def OpenRet (s : Sg) (l : List Ent) (w : World) (e : Ending) (w' : World) : Prop :=
 Below w.heap.size w w' ∧ ((okLib s l = false ∧ e = .returned (.tuple #[.pointer none, .int .i64 1])) ∨ (okLib s l = true ∧ ∃ xb, w.heap.size ≤ xb ∧ e = .returned (.tuple #[.pointer (some ⟨xb, 0, none⟩), .int .i64 0]) ∧ DLib w'.heap.size w' xb s l))
def opRel (l : List Ent) (w1 : World) (bm : Nat) (i : Value) (wr : World) : Prop := ∃ k n : Nat, i = .int .i64 k ∧ k ≤ l.length ∧ n ≤ k ∧ VMap nmK wr bm n (atV (l.take k)) ∧ w1.grownBy wr (some bm)
abbrev libO (sa la : Option Addr) (n sc m lc bm : Nat) : Obj := .cells #[.slice sa n sc, .slice la m lc, .map (some bm)] 70
set_option maxHeartbeats 4000000 in
theorem open_any {S1 S2 : Nat → Prop} (sa la : Option Addr) (sc lc : Nat) (s : Sg) (l : List Ent) (w : World) (h1 : Sign S1 w sa sc s) (h2 : LibL S2 w la lc l) (hl : l.length ≤ 1000) :
  Calls Tryz.prog 65 #[.slice sa s.length sc, .slice la l.length lc] w (OpenRet s l w) := by
 have m := h2.le
 have m1 := h1.le
 have hmm := @run_makeMap Tryz.prog
 have v := dValid_any sa la sc lc s l w h1 h2 hl
 have h1H := Lib.hid h1.any.lt
 have h2H := Lib.hid h2.any.lt
 clear h1 h2
 cases hok : okLib s l with
 | false =>
  rw [hok] at v
  have vH := Lib.hid v
  have hokH := Lib.hid hok
  clear v hok
  go_enter Tryz.func65, Tryz.ntmps65
  go_wp2_with fail
  refine vH.out.mono ?_
  rintro e w1 ⟨rfl, hb⟩
  go_wp2_with fail
  go_ret2
  exact ⟨hb, .inl ⟨hokH.out, rfl⟩⟩
 | true =>
  rw [hok] at v
  obtain ⟨-, hl60, -, hnd⟩ := okLib_parts hok
  have vH := Lib.hid v
  have hokH := Lib.hid hok
  have hndH := Lib.hid hnd
  clear v hok hnd
  go_enter Tryz.func65, Tryz.ntmps65
  go_wp2_with fail
  refine vH.out.mono ?_
  rintro e w1 ⟨rfl, hb⟩
  obtain ⟨W1, hW1⟩ : ∃ W1, (w1.alloc (.map #[] 0)).alloc (libO sa la s.length sc l.length lc w1.heap.size) = W1 := ⟨_, rfl⟩
  have hb1 : Below w1.heap.size w1 W1 := by rw [← hW1]; exact below2 w1 _ _
  have q0 : W1.cell? ⟨w1.heap.size + 1, 0, none⟩ = some (.slice sa s.length sc) := by rw [← hW1]; clear hW1; go_simp
  have q1 : W1.cell? ⟨w1.heap.size + 1, 1, none⟩ = some (.slice la l.length lc) := by rw [← hW1]; clear hW1; go_simp
  have q2 : W1.cell? ⟨w1.heap.size + 1, 2, none⟩ = some (.map (some w1.heap.size)) := by rw [← hW1]; clear hW1; go_simp
  have hV0 : VMap nmK W1 w1.heap.size 0 (atV (l.take 0)) := by
   rw [← hW1]
   have := VMap.made nmK w1
   exact this.below (below1 _ _) (by simp)
  have hsz : W1.heap.size = w1.heap.size + 2 := by rw [← hW1]; simp
  have hbb := bcall hb hb1
  have vsz := hb.size
  have vszH := Lib.hid vsz
  clear vsz
  have hV0H := Lib.hid hV0
  have hbbH := Lib.hid hbb
  have hszH := Lib.hid hsz
  have hW1H := Lib.hid hW1
  clear hV0 hbb hsz hb hb1 hW1
  go_wp2_with fail
  rw [hW1H.out]
  go_loopw [21] (fun i wr => opRel l W1 w1.heap.size i wr) (fun i _ => l.length - (intOf i).toNat)
  case atStart => exact ⟨0, 0, rfl, Nat.zero_le _, Nat.le_refl _, hV0H.out, gby_refl _ _⟩
  case round =>
   obtain ⟨k, n, rfl, hk, hn, hV, hG⟩ := hrel
   have hszr := hG.size
   have hwW := vszH.out
   have hWs := hszH.out
   have hB : Below w.heap.size w wr := hbbH.out.grown hG hbbH.out.size (fun j e => by injection e with e; omega)
   have q0' := hG.cell q0 (by intro e; injection e with e; simp at e)
   have q1' := hG.cell q1 (by intro e; injection e with e; simp at e)
   have q2' := hG.cell q2 (by intro e; injection e with e; simp at e)
   by_cases hlt : k < l.length
   ·obtain ⟨b, off, a1, c1, a2, c2, a3, c3, rfl, -, p0, p1, p2, p3, p4, z1, z2, hI, hU, hP⟩ := (h2H.out.below hB).ent k hlt
    clear hI hU hP
    obtain ⟨W, hW⟩ : ∃ W, wr.alloc (.cells #[.string (eNm l[k]), .string (eBy l[k]), .slice a1 (eSays l[k]).length c1, .slice a2 (eUses l[k]).length c2, .slice a3 (ePf l[k]).length c3] 37) = W := ⟨_, rfl⟩
    have hBW : Below wr.heap.size wr W := by rw [← hW]; exact below1 wr _
    have hBd : Below wr.heap.size wr W.drew := Below.drew hBW
    have r0 : W.drew.cell? ⟨wr.heap.size, 0, none⟩ = some (.string (eNm l[k])) := by rw [← hW]; clear hW; go_simp
    have r2 := cell_later hBd q2'
    have hV2 := hV.below hBd (by omega)
    obtain ⟨w2, hrun, hV3, hG2⟩ := hV2.store (tm := 68) Tryz.underlying68 (by unfold maxLen; omega) (eNm l[k]) (big_max z1) (.int .i64 (k : Int))
    rw [atV_store hlt hndH.out] at hV3
    have hrun2 : (Instr.mapUpdate 68 (.map (some w1.heap.size)) (.string (eNm l[k])) (.int .i64 (k : Int))).run Tryz.prog W.drew = .ok () w2 := hrun
    clear hrun
    have hGn := gby_trans (gby_trans hG (gby_below (row := some w1.heap.size) hBd)) hG2
    have hnn : (if (atV (l.take k) (eNm l[k])).isSome = true then n else n + 1) ≤ k + 1 := by split <;> omega
    generalize (if (atV (l.take k) (eNm l[k])).isSome = true then n else n + 1) = n' at hV3 hnn
    have hfin : opRel l W1 w1.heap.size (.int .i64 ((k : Int) + 1)) w2 := ⟨k + 1, n', by simp, hlt, hnn, hV3, hGn⟩
    have hfinH := Lib.hid hfin
    clear hfin hV3 hGn hnn hV2 hBd hBW hV hG hB hG2 hszr hwW hWs q0' q1'
    generalize eNm l[k] = nm at *
    generalize eBy l[k] = bn at *
    generalize (eSays l[k]).length = n1 at *
    generalize (eUses l[k]).length = n2 at *
    generalize (ePf l[k]).length = n3 at *
    go_wp2_with fail
    try rw [hW]
    clear hW
    go_region
    all_goals (go_wp2_with fail; go_roundw; (case rel => exact hfinH.out); (case measure => simp [intOf]; omega))
   ·have hkl : k = l.length := by omega
    subst hkl
    rw [List.take_length] at hV
    have hS := Lib.hid (h1H.out.below hB)
    have hL := Lib.hid (h2H.out.below hB)
    have hfin : DLib wr.heap.size wr (w1.heap.size + 1) s l := ⟨Nat.le_refl _, by omega, hokH.out, sa, sc, la, lc, w1.heap.size, q0', q1', q2', by omega, h1H.out.below hB |>.lt.weak (fun b h => h.2), h2H.out.below hB |>.lt.weak (fun b h => h.2), n, by omega, hV⟩
    have hfinH := Lib.hid hfin
    have hBH := Lib.hid hB
    clear hfin hB hV hG hS hL q0' q1' q2' hszr hWs hlt hk hn
    go_wp2_with fail
    go_ret2
    exact ⟨hBH.out, .inr ⟨hokH.out, w1.heap.size + 1, by omega, rfl, hfinH.out⟩⟩
end Go.Proofs.YtpmnnoopoblpgaaGreat
