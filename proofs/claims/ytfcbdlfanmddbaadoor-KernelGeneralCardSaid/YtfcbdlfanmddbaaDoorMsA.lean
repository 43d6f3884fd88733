/- The proof of a statement, some of its texts joined in build order: part A. -/
import Derived.Test.YtfcbdlfanmddbaaDoorMsC
import Derived.Test.YtfcbdlfanmddbaaDoorKeys
import Derived.Test.YtfcbdlfanmddbaaDoorBoxList
import Derived.Test.YtfcbdlfanmddbaaDoorRegion
import Derived.Deep.RegionLaw
import Derived.Test.YtfcbdlfanmddbaaDoorShAtoi
/- Trees of proofs as texts, and proofs read back from such texts, in plain words. No program is named. -/
namespace Go.Proofs.YtfcbdlfanmddbaaDoor

/-! ### trees -/
inductive Tr where
  | g (n : Nat)
  | d (a b : Tr)
def digs (n : Nat) : List UInt8 := [UInt8.ofNat (48 + n / 10), UInt8.ofNat (48 + n % 10)]
def Tr.text : Tr → List UInt8
  | .g n => 103 :: digs n
  | .d a b => 68 :: (a.text ++ b.text)
def Tr.leaves : Tr → List Nat
  | .g n => [n]
  | .d a b => a.leaves ++ b.leaves
def Tr.subs : Tr → List Tr
  | .g n => [.g n]
  | .d a b => .d a b :: (a.subs ++ b.subs)
theorem Tr.text_len (t : Tr) : 3 ≤ t.text.length := by
  induction t with
  | g n => simp [Tr.text, digs]
  | d a b iha ihb => simp [Tr.text]; omega
theorem Tr.sub_self (t : Tr) : t ∈ t.subs := by cases t <;> simp [Tr.subs]
/-- the tree of a step, from those of the steps before it -/
def trS (ts : List Tr) (x : Stp) : Tr := if x.1 = 2 then .d (ts.getD x.2.1.toNat (.g 0)) (ts.getD x.2.2.toNat (.g 0)) else .g x.2.1.toNat
def trL : List Stp → List Tr → List Tr
  | [], ts => ts
  | x :: p, ts => trL p (ts ++ [trS ts x])
def trees (p : List Stp) : List Tr := trL p []
theorem trL_append : ∀ (p q : List Stp) (ts : List Tr), trL (p ++ q) ts = trL q (trL p ts)
  | [], _, _ => rfl
  | x :: p, q, ts => by rw [List.cons_append, trL, trL, trL_append p q]
theorem trL_len : ∀ (p : List Stp) (ts : List Tr), (trL p ts).length = ts.length + p.length
  | [], _ => rfl
  | x :: p, ts => by rw [trL, trL_len p, List.length_append, List.length_singleton, List.length_cons]; omega
theorem trees_len (p : List Stp) : (trees p).length = p.length := by unfold trees; rw [trL_len]; simp
theorem trees_snoc (p : List Stp) (x : Stp) : trees (p ++ [x]) = trees p ++ [trS (trees p) x] := by unfold trees; rw [trL_append]; rfl
theorem trees_more : ∀ (q p : List Stp), ∃ us, trees (p ++ q) = trees p ++ us := by
  intro q
  induction q with
  | nil => intro p; exact ⟨[], by simp⟩
  | cons x q ih =>
    intro p
    obtain ⟨us, h⟩ := ih (p ++ [x])
    rw [trees_snoc, List.append_assoc, List.append_assoc] at h
    exact ⟨_, h⟩
theorem getD_more {α : Type} {ts us : List α} {k : Nat} (d : α) (h : k < ts.length) : (ts ++ us).getD k d = ts.getD k d := by
  rw [List.getD_eq_getElem?_getD, List.getD_eq_getElem?_getD, List.getElem?_append_left h]
theorem getD_end {α : Type} (ts : List α) (x d : α) : (ts ++ [x]).getD ts.length d = x := by
  rw [List.getD_eq_getElem?_getD, List.getElem?_append_right (Nat.le_refl _)]; simp
theorem trS_more {G : Int} {n : Nat} {x : Stp} {ts us : List Tr} (h : rightB G n x = true) (hn : n ≤ ts.length) : trS (ts ++ us) x = trS ts x := by
  unfold trS
  by_cases h2 : x.1 = 2
  · obtain ⟨-, d1, d2, d3, d4⟩ := rightB_detach h (by omega)
    rw [if_pos h2, if_pos h2, getD_more _ (by omega), getD_more _ (by omega)]
  · rw [if_neg h2, if_neg h2]
theorem okS_snoc {G : Int} : ∀ (p : List Stp) (n : Nat) (x : Stp), okSteps G n (p ++ [x]) = (okSteps G n p && rightB G (n + p.length) x)
  | [], n, x => by simp [okSteps]
  | y :: p, n, x => by
    rw [List.cons_append, okSteps, okSteps, okS_snoc p (n + 1) x, Bool.and_assoc, List.length_cons, show n + 1 + p.length = n + (p.length + 1) by omega]
theorem okS_get {G : Int} : ∀ (p : List Stp) (n k : Nat) (hk : k < p.length), okSteps G n p = true → rightB G (n + k) p[k] = true
  | x :: p, n, 0, _, h => by simp only [okSteps, Bool.and_eq_true] at h; exact h.1
  | x :: p, n, k + 1, hk, h => by
    simp only [okSteps, Bool.and_eq_true] at h
    have := okS_get p (n + 1) k (by simpa using hk) h.2
    rw [show n + (k + 1) = n + 1 + k by omega]
    simpa using this
theorem trees_get {G : Int} : ∀ (q p : List Stp), okSteps G 0 (p ++ q) = true → (∀ k (hk : k < p.length), (trees p).getD k (.g 0) = trS (trees p) p[k]) → ∀ k (hk : k < (p ++ q).length), (trees (p ++ q)).getD k (.g 0) = trS (trees (p ++ q)) (p ++ q)[k]
  | [], p, _, h, k, hk => by
    simp only [List.append_nil] at hk ⊢
    exact h k hk
  | x :: q, p, ho, h, k, hk => by
    have e : p ++ x :: q = (p ++ [x]) ++ q := by simp
    have ho' : okSteps G 0 ((p ++ [x]) ++ q) = true := by rw [← e]; exact ho
    have hx : rightB G p.length x = true := by
      have := okS_get (p ++ x :: q) 0 p.length (by simp) ho
      simpa using this
    have hp : ∀ j (hj : j < p.length), rightB G j p[j] = true := fun j hj => by
      have := okS_get (p ++ x :: q) 0 j (by simp; omega) ho
      rw [List.getElem_append_left hj] at this
      simpa using this
    have ih := trees_get q (p ++ [x]) ho' (fun j hj => by
      rw [trees_snoc]
      rw [List.length_append, List.length_singleton] at hj
      by_cases hj' : j < p.length
      · rw [getD_more _ (by rw [trees_len]; exact hj'), h j hj', List.getElem_append_left hj', trS_more (hp j hj') (by rw [trees_len]; omega)]
      · obtain rfl : j = p.length := by omega
        have := getD_end (trees p) (trS (trees p) x) (.g 0)
        rw [trees_len] at this
        rw [this, List.getElem_append_right (Nat.le_refl _)]
        simp only [Nat.sub_self, List.getElem_singleton]
        rw [trS_more hx (by rw [trees_len]; omega)]) k (by rw [← e]; exact hk)
    simp only [← e] at ih
    exact ih
theorem trees_at {G : Int} {p : List Stp} (h : okSteps G 0 p = true) (k : Nat) (hk : k < p.length) : (trees p).getD k (.g 0) = trS (trees p) p[k] := by
  have := trees_get (G := G) p [] (by simpa using h) (fun k hk => by simp at hk) k (by simpa using hk)
  simpa using this

/-! ### reading a tree -/
def addP (p : List Stp) (x : Stp) : List Stp × Nat := if x ∈ p then (p, p.idxOf x) else (p ++ [x], p.length)
structure AddP (G : Int) (p : List Stp) (x : Stp) (p' : List Stp) (k : Nat) : Prop where
  nd : p'.Nodup
  ok : okSteps G 0 p' = true
  more : ∃ us, trees p' = trees p ++ us
  le : p.length ≤ p'.length
  lt : k < p'.length
  len : p'.length ≤ p.length + 1
  new : x ∉ p → k + 1 = p'.length
  tr : (trees p').getD k (.g 0) = trS (trees p) x
  all : ∀ t ∈ trees p', t ∈ trees p ∨ t = trS (trees p) x
  old : x ∈ p → p' = p
  pre : p <+: p'
theorem addP_spec {G : Int} {p : List Stp} {x : Stp} (nd : p.Nodup) (ok : okSteps G 0 p = true) (hx : rightB G p.length x = true) : AddP G p x (addP p x).1 (addP p x).2 := by
  unfold addP
  by_cases hm : x ∈ p
  · rw [if_pos hm]
    have hi := List.idxOf_lt_length_of_mem hm
    exact ⟨nd, ok, ⟨[], by simp⟩, Nat.le_refl _, hi, Nat.le_succ _, fun h => (h hm).elim, by rw [trees_at ok _ hi]; simp, fun t ht => .inl ht, fun _ => rfl, List.prefix_refl _⟩
  · rw [if_neg hm]
    refine ⟨?_, ?_, ⟨_, trees_snoc _ _⟩, by simp, by simp, by simp, fun _ => by simp, ?_, fun t ht => ?_, fun h => (hm h).elim, List.prefix_append _ _⟩
    · rw [List.nodup_append]
      exact ⟨nd, by simp, fun a ha b hb e => by rw [List.mem_singleton] at hb; subst hb; subst e; exact hm ha⟩
    · rw [okS_snoc, ok, Nat.zero_add, hx]; rfl
    · rw [trees_snoc]
      have := getD_end (trees p) (trS (trees p) x) (.g 0)
      rw [trees_len] at this; exact this
    · rw [trees_snoc, List.mem_append, List.mem_singleton] at ht; exact ht
def closeP : List (Option Nat) → List Stp → Nat → List (Option Nat) × List Stp × Option Nat
  | [], p, k => ([], p, some k)
  | none :: st, p, k => (some k :: st, p, none)
  | some m :: st, p, k => closeP st (addP p (2, m, k)).1 (addP p (2, m, k)).2
def isDig (b : UInt8) : Bool := decide (48 ≤ b.toNat) && decide (b.toNat ≤ 57)
def numOf (a b : UInt8) : Nat := 10 * (a.toNat - 48) + (b.toNat - 48)
def untR (G : Int) : List UInt8 → List (Option Nat) → List Stp → Option Nat → List Stp × Int
  | [], _, _, none => ([], 2)
  | [], _, p, some _ => if p.length ≤ 60 then (p, 0) else ([], 4)
  | _ :: _, _, _, some _ => ([], 2)
  | c :: r, st, p, none =>
    if c = 68 then untR G r (none :: st) p none
    else if c = 103 then
      match r with
      | a :: b :: r' => if isDig a = true ∧ isDig b = true ∧ (numOf a b : Int) < G then untR G r' (closeP st (addP p (1, numOf a b, 0)).1 (addP p (1, numOf a b, 0)).2).1 (closeP st (addP p (1, numOf a b, 0)).1 (addP p (1, numOf a b, 0)).2).2.1 (closeP st (addP p (1, numOf a b, 0)).1 (addP p (1, numOf a b, 0)).2).2.2 else ([], 2)
      | _ => ([], 2)
    else ([], 2)
theorem untR_D (G : Int) (r : List UInt8) (st : List (Option Nat)) (p : List Stp) : untR G (68 :: r) st p none = untR G r (none :: st) p none := by
  rw [untR.eq_def]; simp
theorem untR_g (G : Int) (a b : UInt8) (r : List UInt8) (st : List (Option Nat)) (p : List Stp) : untR G (103 :: a :: b :: r) st p none = if isDig a = true ∧ isDig b = true ∧ (numOf a b : Int) < G then untR G r (closeP st (addP p (1, numOf a b, 0)).1 (addP p (1, numOf a b, 0)).2).1 (closeP st (addP p (1, numOf a b, 0)).1 (addP p (1, numOf a b, 0)).2).2.1 (closeP st (addP p (1, numOf a b, 0)).1 (addP p (1, numOf a b, 0)).2).2.2 else ([], 2) := by
  rw [untR.eq_def]; simp
theorem untR_g0 (G : Int) (st : List (Option Nat)) (p : List Stp) : untR G [103] st p none = ([], 2) := by rw [untR.eq_def]; simp
theorem untR_g1 (G : Int) (a : UInt8) (st : List (Option Nat)) (p : List Stp) : untR G [103, a] st p none = ([], 2) := by rw [untR.eq_def]; simp
theorem untR_no (G : Int) (c : UInt8) (r : List UInt8) (st : List (Option Nat)) (p : List Stp) (h1 : c ≠ 68) (h2 : c ≠ 103) : untR G (c :: r) st p none = ([], 2) := by rw [untR.eq_def]; simp [h1, h2]
theorem untR_over (G : Int) (c : UInt8) (r : List UInt8) (st : List (Option Nat)) (p : List Stp) (k : Nat) : untR G (c :: r) st p (some k) = ([], 2) := by rw [untR.eq_def]
theorem untR_end (G : Int) (st : List (Option Nat)) (p : List Stp) (k : Nat) : untR G [] st p (some k) = if p.length ≤ 60 then (p, 0) else ([], 4) := by rw [untR.eq_def]
theorem untR_short (G : Int) (st : List (Option Nat)) (p : List Stp) : untR G [] st p none = ([], 2) := by rw [untR.eq_def]
def untE (G : Int) (t : ByteArray) : List Stp × Int :=
  if 0 ≤ G ∧ G ≤ 60 then (if t.size ≤ 65536 then untR G t.data.toList [] [] none else ([], 3)) else ([], 1)
theorem digs_num {a b : UInt8} (ha : isDig a = true) (hb : isDig b = true) : digs (numOf a b) = [a, b] := by
  simp only [isDig, Bool.and_eq_true, decide_eq_true_eq] at ha hb
  unfold digs numOf
  have e1 : 48 + (10 * (a.toNat - 48) + (b.toNat - 48)) / 10 = a.toNat := by omega
  have e2 : 48 + (10 * (a.toNat - 48) + (b.toNat - 48)) % 10 = b.toNat := by omega
  rw [e1, e2]; simp
theorem num_digs {n : Nat} (h : n < 100) : isDig (UInt8.ofNat (48 + n / 10)) = true ∧ isDig (UInt8.ofNat (48 + n % 10)) = true ∧ numOf (UInt8.ofNat (48 + n / 10)) (UInt8.ofNat (48 + n % 10)) = n := by
  have e1 : (UInt8.ofNat (48 + n / 10)).toNat = 48 + n / 10 := UInt8.toNat_ofNat_of_lt' (by show _ < 256; omega)
  have e2 : (UInt8.ofNat (48 + n % 10)).toNat = 48 + n % 10 := UInt8.toNat_ofNat_of_lt' (by show _ < 256; omega)
  unfold isDig numOf
  rw [e1, e2]
  simp only [Bool.and_eq_true, decide_eq_true_eq]
  omega

def rend (ts : List Tr) : List (Option Nat) → List UInt8
  | [] => []
  | none :: st => rend ts st ++ [68]
  | some m :: st => rend ts st ++ 68 :: (ts.getD m (.g 0)).text
theorem rend_more {ts us : List Tr} : ∀ {st : List (Option Nat)}, (∀ m, some m ∈ st → m < ts.length) → rend (ts ++ us) st = rend ts st
  | [], _ => rfl
  | none :: st, h => by rw [rend, rend, rend_more (fun m hm => h m (by simp [hm]))]
  | some m :: st, h => by rw [rend, rend, rend_more (fun m hm => h m (by simp [hm])), getD_more _ (h m (by simp))]
/-- between two parts of a text -/
structure Jo (G : Int) (st : List (Option Nat)) (p : List Stp) (w : Option Nat) (c : List UInt8) : Prop where
  nd : p.Nodup
  ok : okSteps G 0 p = true
  stl : ∀ m, some m ∈ st → m < p.length
  open_ : w = none → c = rend (trees p) st
  whole : ∀ k, w = some k → st = [] ∧ k + 1 = p.length ∧ c = ((trees p).getD k (.g 0)).text
  le : ∀ t ∈ trees p, t.text.length ≤ c.length
  cnt : p.length + st.length ≤ c.length
/-- behind the end of the part k -/
structure Jc (G : Int) (st : List (Option Nat)) (p : List Stp) (k b : Nat) (c : List UInt8) : Prop where
  nd : p.Nodup
  ok : okSteps G 0 p = true
  stl : ∀ m, some m ∈ st → m < p.length
  kl : k < p.length
  txt : c = rend (trees p) st ++ ((trees p).getD k (.g 0)).text
  le : ∀ t ∈ trees p, t.text.length ≤ b ∨ t.text.length ≤ ((trees p).getD k (.g 0)).text.length
  bl : b < c.length
  last : st = [] → k + 1 = p.length
  cnt : p.length + st.length ≤ c.length
theorem Jo.start (G : Int) : Jo G [] [] none [] := ⟨.nil, rfl, (fun m h => by cases h), fun _ => rfl, (fun k h => by cases h), (fun t h => by cases h), Nat.le_refl _⟩
theorem Jo.d {G : Int} {st : List (Option Nat)} {p : List Stp} {c : List UInt8} (h : Jo G st p none c) : Jo G (none :: st) p none (c ++ [68]) :=
  ⟨h.nd, h.ok, fun m hm => h.stl m (by simpa using hm), fun _ => by rw [rend, ← h.open_ rfl], (fun k e => by cases e), fun t ht => by have := h.le t ht; simp; omega, by have := h.cnt; simp; omega⟩
theorem right_cite {G : Int} {n i : Nat} (h : (n : Int) < G) : rightB G i (1, (n : Int), 0) = true := by
  simp only [rightB, Bool.or_eq_true, Bool.and_eq_true, decide_eq_true_eq]; left; exact ⟨⟨trivial, by omega, by omega⟩, trivial⟩
theorem right_det {G : Int} {m k n : Nat} (hm : m < n) (hk : k < n) : rightB G n (2, (m : Int), (k : Int)) = true := by
  simp only [rightB, Bool.or_eq_true, Bool.and_eq_true, decide_eq_true_eq]; right; exact ⟨⟨trivial, by omega, by omega⟩, by omega, by omega⟩
theorem trS_cite (ts : List Tr) (n : Nat) : trS ts (1, (n : Int), 0) = .g n := by unfold trS; rw [if_neg (by simp)]; rfl
theorem trS_det (ts : List Tr) (m k : Nat) : trS ts (2, (m : Int), (k : Int)) = .d (ts.getD m (.g 0)) (ts.getD k (.g 0)) := by unfold trS; rw [if_pos rfl]; rfl
theorem mem_trees {G : Int} {p : List Stp} {x : Stp} (ok : okSteps G 0 p = true) (h : x ∈ p) : trS (trees p) x ∈ trees p := by
  obtain ⟨i, hi, rfl⟩ := List.getElem_of_mem h
  rw [← trees_at ok i hi, List.getD_eq_getElem?_getD, List.getElem?_eq_getElem (by rw [trees_len]; exact hi)]
  exact List.getElem_mem _
theorem Jo.g {G : Int} {st : List (Option Nat)} {p : List Stp} {c : List UInt8} {a b : UInt8} (h : Jo G st p none c) (ha : isDig a = true) (hb : isDig b = true) (hG : (numOf a b : Int) < G) :
    Jc G st (addP p (1, (numOf a b : Int), 0)).1 (addP p (1, (numOf a b : Int), 0)).2 c.length (c ++ [103, a, b]) := by
  have hS := addP_spec h.nd h.ok (right_cite (i := p.length) hG)
  obtain ⟨us, hus⟩ := hS.more
  have htr := hS.tr
  rw [trS_cite] at htr
  have htx : (Tr.g (numOf a b)).text = [103, a, b] := by rw [Tr.text, digs_num ha hb]
  refine ⟨hS.nd, hS.ok, fun m hm => Nat.lt_of_lt_of_le (h.stl m hm) hS.le, hS.lt, ?_, fun t ht => ?_, by simp, fun hst => hS.new fun hm => ?_, ?_⟩
  · rw [htr, htx, hus, rend_more (by rw [trees_len]; exact h.stl), ← h.open_ rfl]
  · rcases hS.all t ht with h1 | h1
    · exact .inl (h.le t h1)
    · rw [htr, h1, trS_cite]; exact .inr (Nat.le_refl _)
  · have h1 := h.le _ (mem_trees h.ok hm)
    have h2 := Tr.text_len (trS (trees p) (1, (numOf a b : Int), 0))
    rw [h.open_ rfl, hst] at h1
    simp only [rend, List.length_nil] at h1
    omega
  · have := h.cnt
    have := hS.len
    simp; omega
theorem Jc.close {G : Int} {st : List (Option Nat)} {p : List Stp} {m k b : Nat} {c : List UInt8} (h : Jc G (some m :: st) p k b c) : Jc G st (addP p (2, (m : Int), (k : Int))).1 (addP p (2, (m : Int), (k : Int))).2 b c := by
  have hm := h.stl m (by simp)
  have hS := addP_spec h.nd h.ok (right_det (G := G) hm h.kl)
  obtain ⟨us, hus⟩ := hS.more
  have htr := hS.tr
  rw [trS_det] at htr
  have hc := h.txt
  rw [rend] at hc
  have hst : ∀ j, some j ∈ st → j < p.length := fun j hj => h.stl j (by simp [hj])
  have hcl := congrArg List.length hc
  simp only [List.length_append, List.length_cons] at hcl
  refine ⟨hS.nd, hS.ok, fun j hj => Nat.lt_of_lt_of_le (hst j hj) hS.le, hS.lt, ?_, fun t ht => ?_, h.bl, fun e => hS.new fun hx => ?_, ?_⟩
  · rw [htr, hus, rend_more (by rw [trees_len]; exact hst), hc, Tr.text]; simp
  · rw [htr]
    rcases hS.all t ht with h1 | h1
    · rcases h.le t h1 with h2 | h2
      · exact .inl h2
      · right; simp only [Tr.text, List.length_cons, List.length_append]; omega
    · rw [h1, trS_det]; exact .inr (Nat.le_refl _)
  · have h1 := h.le _ (mem_trees h.ok hx)
    rw [trS_det] at h1
    have hb := h.bl
    subst e
    simp only [rend, List.length_nil] at hcl
    simp only [Tr.text, List.length_cons, List.length_append] at h1
    omega
  · have := h.cnt
    have := hS.len
    simp at *; omega
theorem Jc.wait {G : Int} {st : List (Option Nat)} {p : List Stp} {k b : Nat} {c : List UInt8} (h : Jc G (none :: st) p k b c) : Jo G (some k :: st) p none c := by
  have hc := h.txt
  rw [rend] at hc
  have hcl := congrArg List.length hc
  simp only [List.length_append] at hcl
  refine ⟨h.nd, h.ok, fun m hm => ?_, fun _ => by rw [rend, hc]; simp, (fun k e => by cases e), fun t ht => ?_, by simpa using h.cnt⟩
  · rcases List.mem_cons.1 hm with e | e
    · cases e; exact h.kl
    · exact h.stl m (by simp [e])
  · have hb := h.bl
    rcases h.le t ht with h1 | h1 <;> omega
theorem Jc.done {G : Int} {p : List Stp} {k b : Nat} {c : List UInt8} (h : Jc G [] p k b c) : Jo G [] p (some k) c := by
  have hc := h.txt
  rw [rend, List.nil_append] at hc
  refine ⟨h.nd, h.ok, h.stl, (fun e => by cases e), fun j e => by cases e; exact ⟨rfl, h.last rfl, hc⟩, fun t ht => ?_, h.cnt⟩
  have hb := h.bl
  rw [hc] at hb ⊢
  rcases h.le t ht with h1 | h1 <;> omega
theorem closeP_ok {G : Int} {b : Nat} {c : List UInt8} : ∀ (st : List (Option Nat)) (p : List Stp) (k : Nat), Jc G st p k b c → Jo G (closeP st p k).1 (closeP st p k).2.1 (closeP st p k).2.2 c
  | [], _, _, h => h.done
  | none :: _, _, _, h => h.wait
  | some _ :: st, _, _, h => closeP_ok st _ _ h.close
theorem untR_ok {G : Int} {q : List Stp} : ∀ (n : Nat) (r : List UInt8) (st : List (Option Nat)) (p : List Stp) (w : Option Nat) (c : List UInt8), r.length ≤ n → Jo G st p w c → untR G r st p w = (q, 0) → ∃ k, Jo G [] q (some k) (c ++ r) ∧ q.length ≤ 60
  | _, [], st, p, none, c, _, h, e => by rw [untR_short] at e; cases e
  | _, [], st, p, some k, c, _, h, e => by
    rw [untR_end] at e
    split at e
    · cases e
      obtain ⟨rfl, -⟩ := h.whole k rfl
      exact ⟨k, by simpa using h, ‹_›⟩
    · cases e
  | _, x :: r, st, p, some k, c, _, h, e => by rw [untR_over] at e; cases e
  | 0, x :: r, st, p, none, c, hn, h, e => by simp at hn
  | n + 1, x :: r, st, p, none, c, hn, h, e => by
    by_cases hx : x = 68
    · subst hx
      rw [untR_D] at e
      obtain ⟨k, h1, h2⟩ := untR_ok n r _ _ _ _ (by simpa using hn) h.d e
      exact ⟨k, by simpa using h1, h2⟩
    · by_cases hg : x = 103
      · subst hg
        match r with
        | a :: b :: r' =>
          rw [untR_g] at e
          split at e
          · rename_i hc
            obtain ⟨k, h1, h2⟩ := untR_ok n r' _ _ _ _ (by simp at hn; omega) (closeP_ok _ _ _ (h.g hc.1 hc.2.1 hc.2.2)) e
            exact ⟨k, by simpa using h1, h2⟩
          · cases e
        | [] => rw [untR_g0] at e; cases e
        | [a] => rw [untR_g1] at e; cases e
      · rw [untR_no _ _ _ _ _ hx hg] at e; cases e
end Go.Proofs.YtfcbdlfanmddbaaDoor

/- Walks: the closure of kernel.Untree that puts a step where it stands. -/
namespace Go.Proofs.YtfcbdlfanmddbaaDoor
open Go Go.RowKit Go.Maps Go.WideMaps

/-- a list in a box gets one element more: what is left alone -/
theorem box_push2 {α : Type} {E : Enc α} {P : Program} {W : World} {B0 base B : Nat} {T e : TypeId} {v : Value} {l : List α} (hv : Boxed W B0 T v) (ho : OwnL E (fun _ => False) W base e v l) (hT : T ≠ e) (hbs : base ≤ W.heap.size) (hBb : B ≤ base) (hB0 : B ≤ B0)
    {t ty : TypeId} {z : Value} {bytes : Nat} (ht : P.underlying t = some (.slice e)) (hinfo : (P.info? e).map (fun i => (i.zero, i.size, i.bytes)) = some (some z, E.size, bytes)) (hzs : z.cells.size = E.size)
    {vs : List Value} {x : α} (hR : E.R (Off (fun _ => False) v) W vs x) (hlen : (l.length + 1) * bytes ≤ 140737488355328) (hmax : l.length + 1 ≤ big) :
    ∃ a' cap W2, RowKit.Hid ((Builtin.append_ #[t, t] ty #[v, .slice (some ⟨W.heap.size, 0, none⟩) 1 1]).run P (W.alloc (.cells vs.toArray e)) = .ok (.slice a' (l.length + 1) cap) W2) ∧
      RowKit.Hid (W2.cell? ⟨B0, 0, none⟩ = some v) ∧ RowKit.Hid (W2.frozen? ⟨B0, 0, none⟩ = false) ∧
      RowKit.Hid (Boxed (W2.setCell ⟨B0, 0, none⟩ (.slice a' (l.length + 1) cap)) B0 T (.slice a' (l.length + 1) cap)) ∧ RowKit.Hid (OwnL E (fun _ => False) (W2.setCell ⟨B0, 0, none⟩ (.slice a' (l.length + 1) cap)) base e (.slice a' (l.length + 1) cap) (l ++ [x])) ∧
      RowKit.Hid (∀ k, k < W.heap.size → k ≠ B0 → v.ownBlock ≠ some k → (W2.setCell ⟨B0, 0, none⟩ (.slice a' (l.length + 1) cap)).heap[k]? = W.heap[k]?) ∧ RowKit.Hid (Below B W (W2.setCell ⟨B0, 0, none⟩ (.slice a' (l.length + 1) cap))) ∧
      RowKit.Hid ((Value.slice a' (l.length + 1) cap).ownBlock = v.ownBlock ∨ ∃ k, (Value.slice a' (l.length + 1) cap).ownBlock = some k ∧ W.heap.size ≤ k) ∧
      RowKit.Hid (∀ k, k < W.heap.size → v.ownBlock ≠ some k → W2.heap[k]? = W.heap[k]?) := by
  obtain ⟨v', W2, hrun, ho2, hg, hat⟩ := ho.push (P := P) (t := t) (ty := ty) ht hinfo hzs hR hlen hmax hbs
  obtain ⟨a', cap, rfl, -⟩ := ho2.sl
  rw [List.length_append, List.length_singleton] at hrun ho2 hat
  have hnr : v.ownBlock ≠ some B0 := ho.notBox hv hT
  have hv2 : Boxed W2 B0 T v := hv.kept hg (fun e => hnr e.symm)
  have hg3 : W2.grownBy (W2.setCell ⟨B0, 0, none⟩ (.slice a' (l.length + 1) cap)) (some B0) := grownBy_setCell' _ _ _
  have hnr2 := ho2.notBox hv2 hT
  have ho3 := ho2.grown hg3 (fun k hk e => by cases e; exact hnr2 hk) (fun b hb _ => hb.elim)
  have hfr : ∀ k, k < W.heap.size → v.ownBlock ≠ some k → W2.heap[k]? = W.heap[k]? := fun k hk hr => hg.block k hk (fun e => hr e.symm)
  refine ⟨a', cap, W2, Lib.hid hrun, Lib.hid hv2.cell, Lib.hid hv2.frozen, Lib.hid (hv2.set _), Lib.hid ho3, Lib.hid (fun k hk h0 hr => ?_), Lib.hid ?_, Lib.hid hat, Lib.hid hfr⟩
  · exact (hg3.block k (Nat.lt_of_lt_of_le hk hg.size) (fun e => h0 (by injection e))).trans (hfr k hk hr)
  · exact ((Below.refl B W).grown hg (Nat.le_trans hBb hbs) (fun k e => Nat.le_trans hBb (ho.lt k e).1)).grown hg3 (Nat.le_trans (Nat.le_trans hBb hbs) hg.size) (fun k e => by cases e; exact hB0)

abbrev StK : Type := {x : Stp // stpR x}
theorem stKeyed : Keyed Tryd.prog 63 := Keyed.of_law (deep_law_laid (by kernel_rfl) (m := 3) (by omega) (of_decide_eq_true (by kernel_rfl)) (by kernel_rfl) (by kernel_rfl))
theorem typesPosS : ∃ m, Tryd.prog.types.size = m + 1 := ⟨Tryd.prog.types.size - 1, by have : 0 < Tryd.prog.types.size := of_decide_eq_true (by kernel_rfl); omega⟩
noncomputable abbrev KSt : KeyK StK Tryd.prog 63 := keyK stKeyed (fun x => stpV x.1) (fun x => .string (keyBytes [.int .i64 x.1.1, .int .i64 x.1.2.1, .int .i64 x.1.2.2]))
  (fun x => keyOf_ints3 Tryd.underlying63 (by kernel_rfl) (by kernel_rfl) typesPosS rfl rfl rfl (by kernel_rfl) (by kernel_rfl) (by kernel_rfl) (by decide) (by decide) (by decide) Tryd.underlying3 Tryd.underlying3 Tryd.underlying3 x.2.1 x.2.2.1 x.2.2.2)
  (fun x y h => by
    simp only [Value.agg.injEq, Array.mk.injEq, List.cons.injEq, Value.int.injEq, true_and, and_true] at h
    exact Subtype.ext (Prod.ext h.1 (Prod.ext h.2.1 h.2.2)))
def atF (p : List Stp) (x : StK) : Option Value := if x.1 ∈ p then some (.int .i64 (p.idxOf x.1 : Nat)) else none
theorem atF_new {p : List Stp} {x : StK} (h : x.1 ∉ p) : (fun z => if z = x then some (.int .i64 (p.length : Nat)) else atF p z) = atF (p ++ [x.1]) := by
  funext z
  unfold atF
  by_cases hz : z = x
  · subst hz
    rw [if_pos rfl, if_pos (by simp), List.idxOf_append, if_neg h]; simp
  · rw [if_neg hz]
    have hne : z.1 ≠ x.1 := fun e => hz (Subtype.ext e)
    by_cases hm : z.1 ∈ p
    · rw [if_pos hm, if_pos (by simp [hm]), List.idxOf_append, if_pos hm]
    · rw [if_neg hm, if_neg (by simp [hm, hne])]
/-- what Untree keeps: the steps, where they stand, the steps that are done; its own list of what is open -/
structure Um (B : Nat) (W : World) (q p : List Stp) (dn op : List Int) (vO : Value) : Prop where
  p : ∃ v, Boxed W B 43 v ∧ OwnSt W (B + 4) v p
  m : VMap KSt W (B + 1) q.length (atF q)
  a : Boxed W (B + 2) 61 (.map (some (B + 1)))
  d : ∃ v, Boxed W (B + 3) 24 v ∧ OwnI W (B + 4) v dn ∧ ∀ k, vO.ownBlock = some k → v.ownBlock ≠ some k
  o : OwnI W (B + 4) vO op
  sz : B + 4 ≤ W.heap.size
section
variable {B : Nat} {W W' : World} {q p : List Stp} {dn op : List Int} {vO : Value}
theorem Um.below (h : Um B W q p dn op vO) (hb : Below W.heap.size W W') : Um B W' q p dn op vO := by
  obtain ⟨v, h1, h2⟩ := h.p
  obtain ⟨u, h3, h4, h5⟩ := h.d
  exact ⟨⟨v, (hb.block _ h1.lt).trans h1, OwnL.call h2 hb⟩, h.m.below hb h.m.lt, (hb.block _ h.a.lt).trans h.a, ⟨u, (hb.block _ h3.lt).trans h3, OwnL.call h4 hb, h5⟩, OwnL.call h.o hb, Nat.le_trans h.sz hb.size⟩
/-- a new step gets its place -/
theorem Um.store (h : Um B W p p dn op vO) (x : StK) (hx : x.1 ∉ p) (hl : p.length ≤ 1000000) :
    ∃ W', RowKit.Hid ((Instr.mapUpdate 61 (.map (some (B + 1))) (stpV x.1) (.int .i64 (p.length : Nat))).run Tryd.prog W = .ok () W') ∧ RowKit.Hid (Um B W' (p ++ [x.1]) p dn op vO) ∧ RowKit.Hid (W.grownBy W' (some (B + 1))) := by
  obtain ⟨W', hrun, hm, hg⟩ := h.m.store (tm := 61) Tryd.underlying61 (by unfold maxLen; omega) x trivial (.int .i64 (p.length : Nat))
  have hn : atF p x = none := by unfold atF; rw [if_neg hx]
  rw [hn, atF_new hx] at hm
  simp only [Option.isSome_none, Bool.false_eq_true, if_false] at hm
  obtain ⟨v, h1, h2⟩ := h.p
  obtain ⟨u, h3, h4, h5⟩ := h.d
  have far : ∀ {E : Enc Stp} {e : TypeId} {v : Value} {l : List Stp}, OwnL E (fun _ => False) W (B + 4) e v l → OwnL E (fun _ => False) W' (B + 4) e v l := fun ho => ho.grown hg (fun k hk e => by have := (ho.lt k hk).1; injection e with e; omega) (fun b hb _ => hb.elim)
  have farI : ∀ {v : Value} {l : List Int}, OwnI W (B + 4) v l → OwnI W' (B + 4) v l := fun ho => OwnL.grown ho hg (fun k hk e => by have := (OwnL.lt ho k hk).1; injection e with e; omega) (fun b hb _ => hb.elim)
  exact ⟨W', Lib.hid hrun, Lib.hid ⟨⟨v, h1.kept hg (fun e => by injection e with e; omega), far h2⟩, by rw [List.length_append, List.length_singleton]; exact hm, h.a.kept hg (fun e => by injection e with e; omega), ⟨u, h3.kept hg (fun e => by injection e with e; omega), farI h4, h5⟩, farI h.o, Nat.le_trans h.sz hg.size⟩, Lib.hid hg⟩
theorem own_types {E F : Type} {A : Enc E} {C : Enc F} {e f : TypeId} {v u : Value} {l : List E} {m : List F} {S T : Nat → Prop} {b b' : Nat} (h : OwnL A S W b e v l) (k : OwnL C T W b' f u m) (hef : e ≠ f) : ∀ j, v.ownBlock = some j → u.ownBlock ≠ some j := fun j hj hk => by
  obtain ⟨c1, e1⟩ := OwnL.rowCells h j hj
  obtain ⟨c2, e2⟩ := OwnL.rowCells k j hk
  rw [e1] at e2
  simp only [Option.some.injEq, Obj.cells.injEq] at e2
  exact hef e2.2.1
/-- one step more -/
theorem Um.pushP (h : Um B W q p dn op vO) (x : Stp) (hx : stpR x) (hl : p.length ≤ 1000000) :
    ∃ av cv a' cap W2, RowKit.Hid (W.cell? ⟨B, 0, none⟩ = some (.slice av p.length cv)) ∧ RowKit.Hid ((Builtin.append_ #[43, 43] 43 #[.slice av p.length cv, .slice (some ⟨W.heap.size, 0, none⟩) 1 1]).run Tryd.prog (W.alloc (.cells #[.int .i64 x.1, .int .i64 x.2.1, .int .i64 x.2.2] 63)) = .ok (.slice a' (p.length + 1) cap) W2) ∧
      RowKit.Hid (W2.cell? ⟨B, 0, none⟩ = some (.slice av p.length cv)) ∧ RowKit.Hid (W2.frozen? ⟨B, 0, none⟩ = false) ∧ RowKit.Hid (Um B (W2.setCell ⟨B, 0, none⟩ (.slice a' (p.length + 1) cap)) q (p ++ [x]) dn op vO) ∧ RowKit.Hid (Below B W (W2.setCell ⟨B, 0, none⟩ (.slice a' (p.length + 1) cap))) ∧
      RowKit.Hid (∀ k, k < W.heap.size → k ≠ B → (Value.slice av p.length cv).ownBlock ≠ some k → (W2.setCell ⟨B, 0, none⟩ (.slice a' (p.length + 1) cap)).heap[k]? = W.heap[k]?) ∧ RowKit.Hid (∀ k, (Value.slice av p.length cv).ownBlock = some k → B + 4 ≤ k ∧ ∃ cs, W.heap[k]? = some (.cells cs 63 (0, 0))) := by
  obtain ⟨v, h1, h2⟩ := h.p
  obtain ⟨u, h3, h4, h5⟩ := h.d
  obtain ⟨a', cap, W2, r1, r2, r3, r4, r5, r6, r7, r8, -⟩ := box_push2 (P := Tryd.prog) (t := 43) (ty := 43) (B := B) h1 h2 (by decide) h.sz (by omega) (Nat.le_refl _) Tryd.underlying43 infoStp rfl (vs := [.int .i64 x.1, .int .i64 x.2.1, .int .i64 x.2.2]) (stp_R hx) (by omega) (by unfold big; omega)
  obtain ⟨av, cv, rfl, -⟩ := OwnL.sl h2
  have hv := fun k hk => (OwnL.lt h2 k hk).1
  have t1 := own_types h4 h2 (by decide)
  have t2 := own_types h.o h2 (by decide)
  refine ⟨av, cv, a', cap, W2, Lib.hid h1.cell, r1, r2, r3, Lib.hid ⟨⟨_, r4.out, r5.out⟩, h.m.same (r6.out _ h.m.lt (by omega) (fun e => by have := hv _ e; omega)), (r6.out _ h.a.lt (by omega) (fun e => by have := hv _ e; omega)).trans h.a, ⟨u, (r6.out _ h3.lt (by omega) (fun e => by have := hv _ e; omega)).trans h3, ?_, h5⟩, ?_, Nat.le_trans h.sz ?_⟩, r7, r6, Lib.hid (fun k hk => ⟨hv k hk, OwnL.rowCells h2 k hk⟩)⟩
  · exact OwnL.kept h4 (fun k hk => r6.out k (OwnL.lt h4 k hk).2 (by have := (OwnL.lt h4 k hk).1; omega) (t1 k hk)) (fun b hb _ => hb.1.elim)
  · exact OwnL.kept h.o (fun k hk => r6.out k (OwnL.lt h.o k hk).2 (by have := (OwnL.lt h.o k hk).1; omega) (t2 k hk)) (fun b hb _ => hb.1.elim)
  · exact r7.out.size
/-- one done step more -/
theorem Um.pushD (h : Um B W q p dn op vO) (x : Int) (hx : inRange x) (hl : dn.length ≤ 1000000) :
    ∃ av cv a' cap W2, RowKit.Hid (W.cell? ⟨B + 3, 0, none⟩ = some (.slice av dn.length cv)) ∧ RowKit.Hid ((Builtin.append_ #[24, 24] 24 #[.slice av dn.length cv, .slice (some ⟨W.heap.size, 0, none⟩) 1 1]).run Tryd.prog (W.alloc (.cells #[.int .i64 x] 3)) = .ok (.slice a' (dn.length + 1) cap) W2) ∧
      RowKit.Hid (W2.cell? ⟨B + 3, 0, none⟩ = some (.slice av dn.length cv)) ∧ RowKit.Hid (W2.frozen? ⟨B + 3, 0, none⟩ = false) ∧ RowKit.Hid (Um B (W2.setCell ⟨B + 3, 0, none⟩ (.slice a' (dn.length + 1) cap)) q p (dn ++ [x]) op vO) ∧ RowKit.Hid (Below B W (W2.setCell ⟨B + 3, 0, none⟩ (.slice a' (dn.length + 1) cap)))  := by
  obtain ⟨v, h1, h2⟩ := h.p
  obtain ⟨u, h3, h4, h5⟩ := h.d
  obtain ⟨a', cap, W2, r1, r2, r3, r4, r5, r6, r7, r8, -⟩ := box_push2 (P := Tryd.prog) (t := 24) (ty := 24) (B := B) h3 h4 (by decide) h.sz (by omega) (by omega) Tryd.underlying24 infoInt rfl (vs := [.int .i64 x]) (x := x) ⟨rfl, hx⟩ (by omega) (by unfold big; omega)
  obtain ⟨av, cv, rfl, -⟩ := OwnL.sl h4
  have hv := fun k hk => (OwnL.lt h4 k hk).1
  have t1 := own_types h2 h4 (by decide)
  refine ⟨av, cv, a', cap, W2, Lib.hid h3.cell, r1, r2, r3, Lib.hid ⟨⟨v, (r6.out _ h1.lt (by omega) (fun e => by have := hv _ e; omega)).trans h1, ?_⟩, h.m.same (r6.out _ h.m.lt (by omega) (fun e => by have := hv _ e; omega)), (r6.out _ h.a.lt (by omega) (fun e => by have := hv _ e; omega)).trans h.a, ⟨_, r4.out, r5.out, fun k hk e => ?_⟩, ?_, Nat.le_trans h.sz r7.out.size⟩, r7⟩
  · exact OwnL.kept h2 (fun k hk => r6.out k (OwnL.lt h2 k hk).2 (by have := (OwnL.lt h2 k hk).1; omega) (t1 k hk)) (fun b hb _ => hb.1.elim)
  · rcases r8.out with g | ⟨j, g1, g2⟩
    · rw [g] at e; exact h5 k hk e
    · rw [g1] at e; cases e; have := (OwnL.lt h.o k hk).2; omega
  · exact OwnL.kept h.o (fun k hk => r6.out k (OwnL.lt h.o k hk).2 (by have := (OwnL.lt h.o k hk).1; omega) (h5 k hk)) (fun b hb _ => hb.1.elim)
theorem Um.look (h : Um B W q p dn op vO) (x : StK) : (Instr.lookup 61 (.map (some (B + 1))) (stpV x.1) false).run Tryd.prog W = .ok ((atF q x).getD (.int .i64 0)) W := h.m.look (tm := 61) Tryd.underlying61 (zInt W) x trivial
theorem Um.look_ok (h : Um B W q p dn op vO) (x : StK) : (Instr.lookup 61 (.map (some (B + 1))) (stpV x.1) true).run Tryd.prog W = .ok (.tuple #[(atF q x).getD (.int .i64 0), .bool (atF q x).isSome]) W := h.m.look_ok (tm := 61) Tryd.underlying61 (zInt W) x trivial
end
theorem atF_old {p : List Stp} {x : StK} (h : x.1 ∈ p) : atF p x = some (.int .i64 (p.idxOf x.1 : Nat)) := by unfold atF; rw [if_pos h]
theorem atF_last {p : List Stp} {x : StK} (h : x.1 ∉ p) : atF (p ++ [x.1]) x = some (.int .i64 (p.length : Nat)) := by
  rw [← atF_new h]; simp
set_option maxRecDepth 100000 in
set_option maxHeartbeats 4000000 in
theorem untadd_any {B : Nat} {p : List Stp} {dn op : List Int} {vO : Value} (x : Stp) (w : World) (hU : Um B w p p dn op vO) (hx : stpR x) (hp : p.length ≤ 100000) (hd : dn.length ≤ 100000) :
    Calls Tryd.prog 26 #[stpV x, .pointer (some ⟨B + 2, 0, none⟩), .pointer (some ⟨B, 0, none⟩), .pointer (some ⟨B + 3, 0, none⟩)] w fun e w' => e = .returned (.tuple #[]) ∧ Um B w' (addP p x).1 (addP p x).1 (dn ++ [((addP p x).2 : Int)]) op vO ∧ Below B w w' := by
  obtain ⟨W0, hW0⟩ : ∃ W, w.alloc (.cells #[.int .i64 x.1, .int .i64 x.2.1, .int .i64 x.2.2] 63) = W := ⟨_, rfl⟩
  have hb0 : Below w.heap.size w W0 := by rw [← hW0]; exact below1 w _
  have hU0 := hU.below hb0
  have hX : W0.heap[w.heap.size]? = some (.cells #[.int .i64 x.1, .int .i64 x.2.1, .int .i64 x.2.2] 63 (0, 0)) := by rw [← hW0]; exact World.alloc_heap_new w _
  have hszB := hU.sz
  have hBb : Below B w W0 := hb0.mono (by omega)
  obtain ⟨x1, x2, x3⟩ := x
  dsimp only at hX hW0
  have hxc : ∀ {W : World}, W.heap[w.heap.size]? = some (.cells #[.int .i64 x1, .int .i64 x2, .int .i64 x3] 63 (0, 0)) → W.cell? ⟨w.heap.size, 0, none⟩ = some (.int .i64 x1) ∧ W.cell? ⟨w.heap.size, 1, none⟩ = some (.int .i64 x2) ∧ W.cell? ⟨w.heap.size, 2, none⟩ = some (.int .i64 x3) := fun h => by simp [World.cell?, h]
  obtain ⟨q1, q2, q3⟩ := hxc hX
  have qa := hU0.a.cell
  by_cases hm : (x1, x2, x3) ∈ p
  · have ha : addP p (x1, x2, x3) = (p, p.idxOf (x1, x2, x3)) := if_pos hm
    have hk := List.idxOf_lt_length_of_mem hm
    have hl1 := hU0.look_ok ⟨(x1, x2, x3), hx⟩
    have hbd : Below W0.heap.size W0 W0.drew := (Below.refl _ W0).drew
    have hUd := hU0.below hbd
    have hl2 := hUd.look ⟨(x1, x2, x3), hx⟩
    rw [atF_old hm] at hl1 hl2
    obtain ⟨k, hkk⟩ : ∃ k, p.idxOf (x1, x2, x3) = k := ⟨_, rfl⟩
    rw [hkk] at ha hk
    simp only [Option.getD_some, Option.isSome_some, hkk] at hl1 hl2
    obtain ⟨av, cv, a', cap, W2, r1, r2, r3, r4, r5, r6⟩ := hUd.pushD (k : Int) (by unfold inRange; omega) (by omega)
    have qd := r1.out
    have qad : W0.drew.cell? ⟨B + 2, 0, none⟩ = some (.map (some (B + 1))) := qa
    have q1d : W0.drew.cell? ⟨w.heap.size, 0, none⟩ = some (.int .i64 x1) := q1
    have q2d : W0.drew.cell? ⟨w.heap.size, 1, none⟩ = some (.int .i64 x2) := q2
    have q3d : W0.drew.cell? ⟨w.heap.size, 2, none⟩ = some (.int .i64 x3) := q3
    have qd2 : (W0.alloc (.cells #[.int .i64 (k : Int)] 3)).cell? ⟨B + 3, 0, none⟩ = some (.slice av dn.length cv) := cell_later (below1 W0 (.cells #[.int .i64 (k : Int)] 3)) qd
    have rrun := r2.out
    have rc := r3.out
    have rf := r4.out
    have hUH := r5
    have hBH := Lib.hid (hBb.trans ((hbd.mono (by have := hU0.sz; omega)).trans r6.out))
    have haH := Lib.hid ha
    clear hU hU0 hUd hX hxc hm ha hb0 hbd hkk hBb r1 r2 r3 r4 r5 r6
    go_enter Tryd.func26, Tryd.ntmps26
    go_wp2_with fail
    go_region_law (rw [if_pos (by kernel_rfl)]; refine oper_append_run (.tmp 23) (.tmp 27) _ rfl rfl rfl rrun ?_)
    all_goals go_end0
    all_goals rw [haH.out]
    all_goals exact ⟨rfl, hUH.out, hBH.out⟩
  · have ha : addP p (x1, x2, x3) = (p ++ [(x1, x2, x3)], p.length) := if_neg hm
    have hl1 := hU0.look_ok ⟨(x1, x2, x3), hx⟩
    have hno : atF p ⟨(x1, x2, x3), hx⟩ = none := by unfold atF; rw [if_neg hm]
    rw [hno] at hl1
    simp only [Option.getD_none, Option.isSome_none] at hl1
    obtain ⟨W1, s1, s2, s3⟩ := hU0.store ⟨(x1, x2, x3), hx⟩ hm (by omega)
    have hU1 := s2.out
    have hg1 := s3.out
    have hX1 : W1.heap[w.heap.size]? = some (.cells #[.int .i64 x1, .int .i64 x2, .int .i64 x3] 63 (0, 0)) := (hg1.block _ (by have := (Array.getElem?_eq_some_iff.1 hX).1; exact this) (fun e => by injection e with e; omega)).trans hX
    obtain ⟨u1, u2, u3⟩ := hxc hX1
    have ua := hU1.a.cell
    obtain ⟨v0, b0, o0⟩ := hU.p
    have ub : W0.cell? ⟨B, 0, none⟩ = some v0 := cell_later hb0 b0.cell
    obtain ⟨pv, pc, p', pcap, W2, t1, t2, t3, t4, t5, t6, t7, t8⟩ := hU1.pushP (x1, x2, x3) hx (by omega)
    have hv0 : v0 = .slice pv p.length pc := by
      have := t1.out
      rw [World.cell?_of_block (w := W0) (hg1.block B (by have := World.block_lt_of_cell? _ _ ub; exact this) (fun e => by injection e with e; omega)), ub] at this
      exact Option.some.inj this
    subst hv0
    have hU3 := t5.out
    obtain ⟨W3, hW3⟩ : ∃ W, W2.setCell ⟨B, 0, none⟩ (.slice p' (p.length + 1) pcap) = W := ⟨_, rfl⟩
    rw [hW3] at hU3
    have hX3 : W3.heap[w.heap.size]? = some (.cells #[.int .i64 x1, .int .i64 x2, .int .i64 x3] 63 (0, 0)) := by
      rw [← hW3]
      exact (t7.out _ (by have := (Array.getElem?_eq_some_iff.1 hX1).1; exact this) (by omega) (fun e => by have := (OwnL.lt o0 _ e).2; omega)).trans hX1
    obtain ⟨z1, z2, z3⟩ := hxc hX3
    have za := hU3.a.cell
    have hbd : Below W3.heap.size W3 W3.drew := (Below.refl _ W3).drew
    have hUd := hU3.below hbd
    have hl2 := hUd.look ⟨(x1, x2, x3), hx⟩
    rw [atF_last (x := ⟨(x1, x2, x3), hx⟩) hm] at hl2
    simp only [Option.getD_some] at hl2
    obtain ⟨av, cv, a', cap, W4, r1, r2, r3, r4, r5, r6⟩ := hUd.pushD (p.length : Int) (by unfold inRange; omega) (by omega)
    have qd := r1.out
    have qad : W3.drew.cell? ⟨B + 2, 0, none⟩ = some (.map (some (B + 1))) := za
    have q1d : W3.drew.cell? ⟨w.heap.size, 0, none⟩ = some (.int .i64 x1) := z1
    have q2d : W3.drew.cell? ⟨w.heap.size, 1, none⟩ = some (.int .i64 x2) := z2
    have q3d : W3.drew.cell? ⟨w.heap.size, 2, none⟩ = some (.int .i64 x3) := z3
    have qd2 : (W3.alloc (.cells #[.int .i64 (p.length : Int)] 3)).cell? ⟨B + 3, 0, none⟩ = some (.slice av dn.length cv) := cell_later (below1 W3 (.cells #[.int .i64 (p.length : Int)] 3)) qd
    have s1o := s1.out
    have t1o := t1.out
    have t2o := t2.out
    have t3o := t3.out
    have t4o := t4.out
    have rrun := r2.out
    have rc := r3.out
    have rf := r4.out
    have hUH := r5
    have hB3 : Below B w W3 := by rw [← hW3]; exact ((hBb.grown hg1 (by have := hU0.sz; omega) (fun k e => by injection e with e; omega))).trans t6.out
    have hBH := Lib.hid (hB3.trans ((hbd.mono (by have := hU3.sz; omega)).trans r6.out))
    have haH := Lib.hid ha
    clear hU hU0 hU1 hU3 hUd hX hX1 hX3 hxc hm ha hb0 hbd hBb r1 r2 r3 r4 r5 r6 s1 s2 s3 hno t1 t2 t3 t4 t5 t6 t7 t8 o0 b0 hB3 hg1
    go_enter Tryd.func26, Tryd.ntmps26
    go_wp2_with (at_builtin; refine wpList_append_run rfl _ _ _ rfl rfl rfl t2o ?_)
    go_region_law (rw [if_pos (by kernel_rfl)]; refine oper_append_run (.tmp 23) (.tmp 27) _ rfl rfl rfl rrun ?_)
    all_goals go_end0
    all_goals rw [haH.out]
    all_goals exact ⟨rfl, hUH.out, hBH.out⟩
end Go.Proofs.YtfcbdlfanmddbaaDoor

/- Walks: kernel.Untree. -/
namespace Go.Proofs.YtfcbdlfanmddbaaDoor
open Go Go.RowKit Go.Maps Go.WideMaps

theorem OwnI.takeN {w : World} {base g n cap k : Nat} {l : List Int} (h : OwnI w base (.slice (some ⟨g, 0, none⟩) n cap) l) (hn : n = l.length) (hk : k ≤ n) : OwnI w base (.slice (some ⟨g, 0, none⟩) k cap) (l.take k) := by
  subst hn
  obtain ⟨ho, hr⟩ := OwnL.row h
  refine OwnL.of_row ?_ (fun x hx => hr x (List.mem_of_mem_take hx))
  have hlk : (l.take k).length = k := by rw [List.length_take]; omega
  rw [hlk, List.map_take]
  obtain ⟨e1, e2⟩ := ho
  refine ⟨by rw [List.length_take, e1]; omega, ?_⟩
  rcases e2 with ⟨e2, -⟩ | ⟨g', cap', cur, e3, e4, e5, e6, e7, e8, e9⟩
  · cases e2
  · cases e3
    refine .inr ⟨g, cap, cur, rfl, e4, e5, by omega, e7, e8, ?_⟩
    rw [← e9, List.take_take, Nat.mul_one, Nat.mul_one, Nat.min_eq_left hk]
def opOf : List (Option Nat) → List Int
  | [] => []
  | none :: st => opOf st ++ [2]
  | some _ :: st => opOf st ++ [1]
def dnOf : List (Option Nat) → List Int
  | [] => []
  | none :: st => dnOf st
  | some m :: st => dnOf st ++ [(m : Int)]
def dnW (st : List (Option Nat)) : Option Nat → List Int
  | none => dnOf st
  | some k => dnOf st ++ [(k : Int)]
theorem opOf_len : ∀ st : List (Option Nat), (opOf st).length = st.length
  | [] => rfl
  | none :: st => by rw [opOf, List.length_append, opOf_len st]; rfl
  | some _ :: st => by rw [opOf, List.length_append, opOf_len st]; rfl
theorem dnOf_len : ∀ st : List (Option Nat), (dnOf st).length ≤ st.length
  | [] => Nat.le_refl _
  | none :: st => by have := dnOf_len st; rw [dnOf, List.length_cons]; omega
  | some _ :: st => by have := dnOf_len st; rw [dnOf, List.length_append, List.length_cons]; simp; omega
section
variable {B : Nat} {W : World} {q p : List Stp} {dn op : List Int} {vO : Value}
/-- one more that is open -/
theorem Um.pushO (h : Um B W q p dn op vO) (x : Int) (hx : inRange x) (hl : op.length ≤ 1000000) :
    ∃ v' W', RowKit.Hid ((Builtin.append_ #[24, 24] 24 #[vO, .slice (some ⟨W.heap.size, 0, none⟩) 1 1]).run Tryd.prog (W.alloc (.cells #[.int .i64 x] 3)) = .ok v' W') ∧ RowKit.Hid (Um B W' q p dn (op ++ [x]) v') ∧ RowKit.Hid (Below B W W') := by
  obtain ⟨v', W', hrun, ho, hg, hat⟩ := OwnL.push (P := Tryd.prog) (t := 24) (ty := 24) h.o Tryd.underlying24 infoInt rfl (vs := [.int .i64 x]) (x := x) ⟨rfl, hx⟩ (by omega) (by unfold big; omega) h.sz
  obtain ⟨v, h1, h2⟩ := h.p
  obtain ⟨u, h3, h4, h5⟩ := h.d
  have hv := fun k hk => (OwnL.lt h.o k hk).1
  have t1 := own_types h2 h.o (by decide)
  have keep : ∀ k, k < W.heap.size → vO.ownBlock ≠ some k → W'.heap[k]? = W.heap[k]? := fun k hk hr => hg.block k hk (fun e => hr e.symm)
  refine ⟨v', W', Lib.hid hrun, Lib.hid ⟨⟨v, (keep _ h1.lt (fun e => by have := hv _ e; omega)).trans h1, ?_⟩, h.m.same (keep _ h.m.lt (fun e => by have := hv _ e; omega)), (keep _ h.a.lt (fun e => by have := hv _ e; omega)).trans h.a, ⟨u, (keep _ h3.lt (fun e => by have := hv _ e; omega)).trans h3, ?_, fun k hk e => ?_⟩, ho, Nat.le_trans h.sz hg.size⟩, Lib.hid ?_⟩
  · exact OwnL.kept h2 (fun k hk => keep k (OwnL.lt h2 k hk).2 (t1 k hk)) (fun b hb _ => hb.1.elim)
  · exact OwnL.kept h4 (fun k hk => keep k (OwnL.lt h4 k hk).2 (fun e => h5 k e hk)) (fun b hb _ => hb.1.elim)
  · rcases hat with g | ⟨j, g1, g2⟩
    · rw [g] at hk; exact h5 k hk e
    · have := (OwnL.lt h4 k e).2
      rw [g1] at hk
      injection hk with hk
      omega
  · exact (Below.refl B W).grown hg (Nat.le_trans (by omega) h.sz) (fun k e => Nat.le_trans (by omega) (hv k e))
/-- the last open one is written -/
theorem Um.setO {l : List Int} {x0 : Int} (h : Um B W q p dn (l ++ [x0]) vO) (x : Int) (hx : inRange x) :
    ∃ g cap, vO = .slice (some ⟨g, 0, none⟩) (l.length + 1) cap ∧ l.length + 1 ≤ cap ∧ RowKit.Hid (W.cell? ⟨g, l.length, none⟩ = some (.int .i64 x0)) ∧ RowKit.Hid (W.frozen? ⟨g, l.length, none⟩ = false) ∧
      RowKit.Hid (Um B (W.setCell ⟨g, l.length, none⟩ (.int .i64 x)) q p dn (l ++ [x]) vO) ∧ RowKit.Hid (Below B W (W.setCell ⟨g, l.length, none⟩ (.int .i64 x))) ∧ RowKit.Hid ((W.setCell ⟨g, l.length, none⟩ (.int .i64 x)).cell? ⟨g, l.length, none⟩ = some (.int .i64 x)) := by
  have ho := h.o
  obtain ⟨g, cap, hv, hb, hlt⟩ := OwnL.form ho (by simp)
  have hll : (l ++ [x0]).length = l.length + 1 := by simp
  rw [hll] at hv
  subst hv
  obtain ⟨c1, c2⟩ := OwnL.cellInt ho hll.symm l.length (by simp)
  obtain ⟨s1, s2⟩ := OwnL.setInt ho hll.symm l.length x hx
  have hc : l.length + 1 ≤ cap := by obtain ⟨a, c, e, hI⟩ := OwnI.ints ho; simp only [Value.slice.injEq] at e; obtain ⟨-, -, rfl⟩ := e; rw [← hll]; exact hI.cap
  rw [List.getElem_concat_length (by rfl)] at c1
  have hset : (l ++ [x0]).set l.length x = l ++ [x] := by simp
  rw [hset] at s1
  obtain ⟨c3, -⟩ := OwnL.cellInt s1 (by simp) l.length (by simp)
  rw [List.getElem_concat_length (by rfl)] at c3
  obtain ⟨v, h1, h2⟩ := h.p
  obtain ⟨u, h3, h4, h5⟩ := h.d
  have t1 := own_types h2 ho (by decide)
  have keep : ∀ k, k < W.heap.size → g ≠ k → (W.setCell ⟨g, l.length, none⟩ (.int .i64 x)).heap[k]? = W.heap[k]? := fun k hk hr => s2.block k hk (fun e => hr (by injection e with e; exact e.symm))
  refine ⟨g, cap, rfl, hc, Lib.hid c1, Lib.hid c2, Lib.hid ⟨⟨v, (keep _ h1.lt (by omega)).trans h1, ?_⟩, h.m.same (keep _ h.m.lt (by omega)), (keep _ h.a.lt (by omega)).trans h.a, ⟨u, (keep _ h3.lt (by omega)).trans h3, ?_, h5⟩, s1, Nat.le_trans h.sz s2.size⟩, Lib.hid ?_, Lib.hid c3⟩
  · exact OwnL.kept h2 (fun k hk => keep k (OwnL.lt h2 k hk).2 (fun e => t1 k hk (by rw [← e]; rfl))) (fun b hb _ => hb.1.elim)
  · exact OwnL.kept h4 (fun k hk => keep k (OwnL.lt h4 k hk).2 (fun e => h5 k (by rw [← e]; rfl) hk)) (fun b hb _ => hb.1.elim)
  · exact (Below.refl B W).grown s2 (Nat.le_trans (by omega) h.sz) (fun k e => by injection e with e; omega)
/-- the last open one is left -/
theorem Um.takeO {l : List Int} {x0 : Int} {g n cap : Nat} (h : Um B W q p dn (l ++ [x0]) (.slice (some ⟨g, 0, none⟩) n cap)) (hn : n = l.length + 1) : Um B W q p dn l (.slice (some ⟨g, 0, none⟩) l.length cap) := by
  obtain ⟨u, h3, h4, h5⟩ := h.d
  have := OwnI.takeN h.o (k := l.length) (by simp [hn]) (by omega)
  rw [List.take_left'] at this
  · exact ⟨h.p, h.m, h.a, ⟨u, h3, h4, h5⟩, this, h.sz⟩
  · rfl
/-- the last two that are done are left -/
theorem Um.takeD {l : List Int} {x0 x1 : Int} (h : Um B W q p (l ++ [x0] ++ [x1]) op vO) :
    ∃ g cap, l.length + 1 + 1 ≤ cap ∧ RowKit.Hid (W.cell? ⟨B + 3, 0, none⟩ = some (.slice (some ⟨g, 0, none⟩) (l.length + 1 + 1) cap)) ∧ RowKit.Hid (W.frozen? ⟨B + 3, 0, none⟩ = false) ∧ RowKit.Hid (W.cell? ⟨g, l.length, none⟩ = some (.int .i64 x0)) ∧ RowKit.Hid (W.cell? ⟨g, l.length + 1, none⟩ = some (.int .i64 x1)) ∧
      RowKit.Hid (Um B (W.setCell ⟨B + 3, 0, none⟩ (.slice (some ⟨g, 0, none⟩) l.length cap)) q p l op vO) ∧ RowKit.Hid (Below B W (W.setCell ⟨B + 3, 0, none⟩ (.slice (some ⟨g, 0, none⟩) l.length cap))) := by
  obtain ⟨v, h1, h2⟩ := h.p
  obtain ⟨u, h3, h4, h5⟩ := h.d
  obtain ⟨g, cap, hv, hb, hlt⟩ := OwnL.form h4 (by simp)
  have hll : (l ++ [x0] ++ [x1]).length = l.length + 1 + 1 := by simp
  rw [hll] at hv
  subst hv
  have hc : l.length + 1 + 1 ≤ cap := by obtain ⟨a, c, e, hI⟩ := OwnI.ints h4; simp only [Value.slice.injEq] at e; obtain ⟨-, -, rfl⟩ := e; rw [← hll]; exact hI.cap
  obtain ⟨c1, -⟩ := OwnL.cellInt h4 hll.symm l.length (by simp)
  obtain ⟨c2, -⟩ := OwnL.cellInt h4 hll.symm (l.length + 1) (by simp)
  rw [List.getElem_append_left (by simp), List.getElem_concat_length (by rfl)] at c1
  rw [List.getElem_concat_length (by simp)] at c2
  have hk := OwnI.takeN h4 (k := l.length) hll.symm (by omega)
  rw [List.append_assoc, List.take_left' (by rfl)] at hk
  have hg3 : W.grownBy (W.setCell ⟨B + 3, 0, none⟩ (.slice (some ⟨g, 0, none⟩) l.length cap)) (some (B + 3)) := grownBy_setCell' _ _ _
  have keep : ∀ k, k < W.heap.size → k ≠ B + 3 → (W.setCell ⟨B + 3, 0, none⟩ (.slice (some ⟨g, 0, none⟩) l.length cap)).heap[k]? = W.heap[k]? := fun k hk hr => hg3.block k hk (fun e => hr (by injection e))
  refine ⟨g, cap, hc, Lib.hid h3.cell, Lib.hid h3.frozen, Lib.hid c1, Lib.hid c2, Lib.hid ⟨⟨v, (keep _ h1.lt (by omega)).trans h1, ?_⟩, h.m.same (keep _ h.m.lt (by omega)), (keep _ h.a.lt (by omega)).trans h.a, ⟨_, h3.set _, ?_, h5⟩, ?_, Nat.le_trans h.sz hg3.size⟩, Lib.hid ?_⟩
  · exact OwnL.kept h2 (fun k hk => keep k (OwnL.lt h2 k hk).2 (by have := (OwnL.lt h2 k hk).1; omega)) (fun b hb _ => hb.1.elim)
  · exact OwnL.kept hk (fun k hk' => keep k (OwnL.lt hk k hk').2 (by have := (OwnL.lt hk k hk').1; omega)) (fun b hb _ => hb.1.elim)
  · exact OwnL.kept h.o (fun k hk => keep k (OwnL.lt h.o k hk).2 (by have := (OwnL.lt h.o k hk).1; omega)) (fun b hb _ => hb.1.elim)
  · exact (Below.refl B W).grown hg3 (Nat.le_trans (by omega) h.sz) (fun k e => by injection e with e; omega)
end
theorem atoi2 {a b : UInt8} (ha : isDig a = true) (hb : isDig b = true) {s : ByteArray} (hs : s.data.toList = [a, b]) : Lib.atoi s.data.toList = some (numOf a b : Int) := by
  simp only [isDig, Bool.and_eq_true, decide_eq_true_eq] at ha hb
  have h45 : (a == 45) = false := by rw [beq_eq_false_iff_ne]; intro e; rw [e] at ha; simp at ha
  have h43 : (a == 43) = false := by rw [beq_eq_false_iff_ne]; intro e; rw [e] at ha; simp at ha
  rw [hs, Lib.atoi, h45, h43]
  simp only [Bool.false_eq_true, if_false, Lib.decNat, List.isEmpty_cons, Lib.decFrom, Lib.digitVal, if_pos ha, if_pos hb, Option.map_some]
  unfold numOf
  congr 2; omega
theorem digit_any (b : UInt8) (w : World) : Calls Tryd.prog 27 #[.int .u8 b.toNat] w fun e w' => e = .returned (.bool (isDig b)) ∧ w = w' := by
  have h := b.toNat_lt
  have hd : isDig b = (decide ((48 : Int) ≤ (b.toNat : Int)) && decide ((b.toNat : Int) ≤ 57)) := by
    unfold isDig; rw [Bool.eq_iff_iff]; simp only [Bool.and_eq_true, decide_eq_true_eq]; omega
  rw [hd]
  go_enter Tryd.func27, Tryd.ntmps27
  go_wp2
  all_goals go_ret
  all_goals exact ⟨ret_bool (by simp; omega), rfl⟩
def untI (G : Int) (t : ByteArray) (w : World) (vO iV : Value) (wr : World) : Prop :=
  ∃ (k : Nat) (st : List (Option Nat)) (p : List Stp) (w0 : Option Nat), iV = .int .i64 k ∧ k ≤ t.size ∧ Jo G st p w0 (t.data.toList.take k) ∧ untR G (t.data.toList.drop k) st p w0 = untR G t.data.toList [] [] none ∧ Um w.heap.size wr p p (dnW st w0) (opOf st) vO ∧ Below w.heap.size w wr
def untC (G : Int) (t : ByteArray) (w : World) (k : Nat) (vO : Value) (wr : World) : Prop :=
  ∃ (st : List (Option Nat)) (p : List Stp) (kk : Nat), Jc G st p kk k (t.data.toList.take (k + 3)) ∧ untR G (t.data.toList.drop (k + 3)) (closeP st p kk).1 (closeP st p kk).2.1 (closeP st p kk).2.2 = untR G t.data.toList [] [] none ∧ Um w.heap.size wr p p (dnOf st ++ [(kk : Int)]) (opOf st) vO ∧ Below w.heap.size w wr
def lenV (v : Value) : Nat := match v with | .slice _ n _ => n | _ => 0
theorem um_start (w : World) : Um w.heap.size ((((w.alloc (.cells #[.slice none 0 0] 43)).alloc (.map #[] 0)).alloc (.cells #[.map (some (w.heap.size + 1))] 61)).alloc (.cells #[.slice none 0 0] 24)) [] [] [] [] (.slice none 0 0) := by
  have h1 := Boxed.new w 43 (.slice none 0 0)
  have h2 := VMap.made KSt (w.alloc (.cells #[.slice none 0 0] 43))
  have h3 := Boxed.new ((w.alloc (.cells #[.slice none 0 0] 43)).alloc (.map #[] 0)) 61 (.map (some (w.heap.size + 1)))
  have h4 := Boxed.new (((w.alloc (.cells #[.slice none 0 0] 43)).alloc (.map #[] 0)).alloc (.cells #[.map (some (w.heap.size + 1))] 61)) 24 (.slice none 0 0)
  have hm := h2.same (w' := (((w.alloc (.cells #[.slice none 0 0] 43)).alloc (.map #[] 0)).alloc (.cells #[.map (some (w.heap.size + 1))] 61)).alloc (.cells #[.slice none 0 0] 24)) ((below2 _ _ _).block _ (by simp))
  have he : atF [] = fun _ => none := by funext x; unfold atF; simp
  simp only [World.size_alloc] at h2 h3 h4 hm
  refine ⟨⟨_, ((h1.alloc _).alloc _).alloc _, .nil _ _ _ _ _⟩, by rw [he]; exact hm, h3.alloc _, ⟨_, h4, .nil _ _ _ _ _, fun k hk => by simp [Value.ownBlock] at hk⟩, .nil _ _ _ _ _, by simp⟩
theorem below4 (w : World) (o1 o2 o3 o4 : Obj) : Below w.heap.size w ((((w.alloc o1).alloc o2).alloc o3).alloc o4) := bcall (below3 w o1 o2 o3) (below1 _ o4)
theorem drop_cons {t : ByteArray} {k : Nat} (h : k < t.size) : t.data.toList.drop k = t[k] :: t.data.toList.drop (k + 1) := by
  rw [List.drop_eq_getElem_cons (by simpa using h)]; rfl
theorem take_cons {t : ByteArray} {k : Nat} (h : k < t.size) : t.data.toList.take (k + 1) = t.data.toList.take k ++ [t[k]] := by
  rw [List.take_succ_eq_append_getElem (by simpa using h)]; rfl
theorem u8_int_eq {b : UInt8} {n : Nat} (hn : n < 256) : ((b.toNat : Int) == (n : Int)) = decide (b = UInt8.ofNat n) := by
  rw [Bool.eq_iff_iff]
  simp only [beq_iff_eq, decide_eq_true_eq]
  constructor
  · intro h; have : b.toNat = n := by omega
    rw [← this]; simp
  · intro h; rw [h, UInt8.toNat_ofNat_of_lt' hn]
theorem extract2 {t : ByteArray} {k : Nat} (h : k + 3 ≤ t.size) : (t.extract (k + 1) (k + 3)).data.toList = [t[k + 1], t[k + 2]] ∧ (t.extract (k + 1) (k + 3)).size ≤ 18 := by
  have hs : (t.extract (k + 1) (k + 3)).size = 2 := by rw [ByteArray.size_extract]; omega
  refine ⟨?_, by omega⟩
  apply List.ext_getElem
  · rw [Array.length_toList]; exact hs
  · intro i h1 h2
    have hi : i < (t.extract (k + 1) (k + 3)).size := by rw [Array.length_toList] at h1; exact h1
    have e : (t.extract (k + 1) (k + 3)).data.toList[i] = (t.extract (k + 1) (k + 3))[i] := rfl
    rw [e, ByteArray.getElem_extract]
    match i, hi with
    | 0, _ => rfl
    | 1, _ => rfl
    | n + 2, hi => omega
theorem bcall' {B : Nat} {w w1 w2 w3 : World} (h1 : Below B w w1) (h2 : Below w1.heap.size w1 w2) (h3 : Below B w2 w3) (hB : B ≤ w1.heap.size) : Below B w w3 := h1.trans ((h2.mono hB).trans h3)
theorem take_size_le (t : ByteArray) (k : Nat) : (t.data.toList.take k).length ≤ t.size := by
  rw [List.length_take, Array.length_toList]; exact Nat.min_le_right _ _
theorem numOf_le {a b : UInt8} (ha : isDig a = true) (hb : isDig b = true) : numOf a b < 100 := by
  simp only [isDig, Bool.and_eq_true, decide_eq_true_eq] at ha hb
  unfold numOf; omega
end Go.Proofs.YtfcbdlfanmddbaaDoor

/- Walks: kernel.Untree. -/
namespace Go.Proofs.YtfcbdlfanmddbaaDoor
open Go Go.RowKit Go.Maps Go.WideMaps
set_option maxRecDepth 100000 in
set_option maxHeartbeats 8000000 in
theorem Untree_any (G : Int) (t : ByteArray) (w : World) :
    Calls Tryd.prog 12 #[.int .i64 G, .string t] w (retStE (untE G t) w) := by
  have v1 := kwithin_any G 0 60 w
  by_cases hG : 0 ≤ G ∧ G ≤ 60
  case neg =>
    have hx : (decide (0 ≤ G) && decide (G ≤ 60)) = false := by rw [Bool.eq_false_iff]; simpa using hG
    rw [hx] at v1
    have hrH := Lib.hid (show untE G t = ([], 1) by unfold untE; rw [if_neg hG])
    have v1H := Lib.hid v1
    clear v1 hx hG
    go_enter Tryd.func12, Tryd.ntmps12
    go_wp2_with fail
    refine v1H.out.mono ?_
    rintro e w1 ⟨rfl, rfl⟩
    go_wp2_with fail
    go_ret2
    rw [hrH.out]
    exact ⟨_, rfl, .nil _ _ _ _ _, .refl _ _⟩
  have hx : (decide (0 ≤ G) && decide (G ≤ 60)) = true := by simpa using hG
  rw [hx] at v1
  have v1H := Lib.hid v1
  clear v1 hx
  by_cases hs : t.size ≤ 65536
  case neg =>
    have hs' : (65536 : Int) < (t.size : Int) := by omega
    have hrH := Lib.hid (show untE G t = ([], 3) by unfold untE; rw [if_pos hG, if_neg hs])
    clear hs
    go_enter Tryd.func12, Tryd.ntmps12
    go_wp2_with fail
    refine v1H.out.mono ?_
    rintro e w1 ⟨rfl, rfl⟩
    go_wp2_with fail
    go_ret2
    rw [hrH.out]
    exact ⟨_, rfl, .nil _ _ _ _ _, .refl _ _⟩
  have hs' : ¬ (65536 : Int) < (t.size : Int) := by omega
  have hr : untE G t = untR G t.data.toList [] [] none := by unfold untE; rw [if_pos hG, if_pos hs]
  have hrH := Lib.hid hr
  have hGH := Lib.hid hG
  have hmm := @run_makeMap Tryd.prog
  clear hr hG
  go_enter Tryd.func12, Tryd.ntmps12
  go_wp2_with fail
  refine v1H.out.mono ?_
  rintro e w1 ⟨rfl, rfl⟩
  go_wp2_with fail
  go_loopw [9, 11] (fun vO iV wr => untI G t w vO iV wr) (fun _ iV _ => t.size - (intOf iV).toNat)
  case atStart => exact ⟨0, [], [], none, rfl, Nat.zero_le _, by rw [List.take_zero]; exact .start G, by rw [List.drop_zero], um_start w, below4 w _ _ _ _⟩
  case round =>
    obtain ⟨k, st, p, w0, rfl, hk, hJ, hR, hU, hB⟩ := hrel
    have holen := opOf_len st
    obtain ⟨aO, cO, hvO, hIO⟩ := OwnI.ints hU.o
    rw [holen] at hvO
    subst hvO
    have hst60 : st.length ≤ 65536 := by have := hJ.cnt; rw [List.length_take] at this; omega
    have hp60 : p.length ≤ 65536 := by have := hJ.cnt; rw [List.length_take] at this; omega
    have hcap := hIO.cap
    clear hIO
    by_cases hlt : k < t.size
    · have hd := drop_cons hlt
      have htk := take_cons hlt
      cases w0 with
      | some kk =>
        obtain ⟨rfl, -, hc⟩ := hJ.whole kk rfl
        have hk0 : 0 < k := by
          have h1 := congrArg List.length hc
          have h2 := Tr.text_len ((trees p).getD kk (.g 0))
          rw [List.length_take] at h1; omega
        rw [hd, untR_over] at hR
        have hrr := hrH.out
        rw [← hR] at hrr
        have hrrH := Lib.hid hrr
        have hBH := Lib.hid hB
        have hk1 : (0 : Int) < (k : Int) := by omega
        clear hR hU hJ hB hc hrr hd htk
        --{
        go_wp2_with fail
        all_goals go_ret2
        all_goals rw [hrrH.out]
        all_goals exact ⟨_, rfl, .nil _ _ _ _ _, hBH.out⟩
        --}
      | none =>
        have hg : (¬ (0 : Int) < (k : Int)) ∨ ((0 : Int) < (k : Int) ∧ ((st.length : Int) == 0) = false) := by
          by_cases h0 : k = 0
          · left; omega
          · right
            refine ⟨by omega, ?_⟩
            have hc := congrArg List.length (hJ.open_ rfl)
            rw [List.length_take] at hc
            cases st with
            | nil => simp only [rend, List.length_nil, Array.length_toList] at hc; have : t.size = t.data.size := rfl; omega
            | cons o st => simp; omega
        by_cases h68 : t[k] = 68
        · have h68b : (((t[k]'hlt).toNat : Int) == 68) = true := by rw [h68]; rfl
          rw [h68] at hd htk
          rw [hd, untR_D] at hR
          have hJ1 := hJ.d
          rw [← htk] at hJ1
          obtain ⟨v', W', r1, r2, r3⟩ := hU.pushO 2 (by unfold inRange; omega) (by rw [holen]; omega)
          have rrun := r1.out
          have hrel : untI G t w v' (.int .i64 ((k + 1 : Nat) : Int)) W' := ⟨k + 1, none :: st, p, none, rfl, by omega, hJ1, hR, r2.out, hB.trans r3.out⟩
          have hrelH := Lib.hid hrel
          clear hR hU hJ hB hd htk hJ1 r1 r2 r3 hrel h68
          --{
          rcases hg with hg | ⟨hg1, hg2⟩
          all_goals go_wp2_with (at_builtin; refine wpList_append_run rfl _ _ _ rfl rfl rfl rrun ?_)
          all_goals go_roundw
          all_goals first | exact hrelH.out | (simp [intOf]; omega)
          --}
        · have h68b : (((t[k]'hlt).toNat : Int) == 68) = false := by
            rw [beq_eq_false_iff_ne]; intro e; exact h68 (UInt8.toNat_inj.1 (by show t[k].toNat = 68; omega))
          by_cases h103 : t[k] = 103
          case neg =>
            have h103b : (((t[k]'hlt).toNat : Int) != 103) = true := by
              simp only [bne_iff_ne, ne_eq]; intro e; exact h103 (UInt8.toNat_inj.1 (by show t[k].toNat = 103; omega))
            rw [hd, untR_no _ _ _ _ _ h68 h103] at hR
            have hrr := hrH.out
            rw [← hR] at hrr
            have hrrH := Lib.hid hrr
            have hBH := Lib.hid hB
            clear hR hU hJ hB hrr hd htk h103 h68
            --{
            rcases hg with hg | ⟨hg1, hg2⟩
            all_goals go_wp2_with fail
            all_goals go_ret2
            all_goals rw [hrrH.out]
            all_goals exact ⟨_, rfl, .nil _ _ _ _ _, hBH.out⟩
            --}
          have h103b : (((t[k]'hlt).toNat : Int) != 103) = false := by rw [h103]; rfl
          rw [h103] at hd htk
          have e1 : IntKind.i64.wrap ((k : Int) + 1) = ((k + 1 : Nat) : Int) := by rw [IntWalk.i64_in _ (by omega)]; omega
          have e2 : IntKind.i64.wrap ((k : Int) + 2) = ((k + 2 : Nat) : Int) := by rw [IntWalk.i64_in _ (by omega)]; omega
          have e3 : IntKind.i64.wrap ((k : Int) + 3) = ((k + 3 : Nat) : Int) := by rw [IntWalk.i64_in _ (by omega)]; omega
          by_cases h3 : k + 3 ≤ t.size
          case neg =>
            have h3b : (t.size : Int) < ((k + 3 : Nat) : Int) := by omega
            have hres : untR G (t.data.toList.drop k) st p none = ([], 2) := by
              rw [hd]
              have hl : (t.data.toList.drop (k + 1)).length ≤ 1 := by rw [List.length_drop, Array.length_toList]; have : t.size = t.data.size := rfl; omega
              match hm : t.data.toList.drop (k + 1), hl with
              | [], _ => rw [untR_g0]
              | [a], _ => rw [untR_g1]
            rw [hres] at hR
            have hrr := hrH.out
            rw [← hR] at hrr
            have hrrH := Lib.hid hrr
            have hBH := Lib.hid hB
            clear hR hU hJ hB hrr hd htk h103 h68 hres
            --{
            rcases hg with hg | ⟨hg1, hg2⟩
            all_goals go_wp2_with fail
            all_goals go_ret2
            all_goals rw [hrrH.out]
            all_goals exact ⟨_, rfl, .nil _ _ _ _ _, hBH.out⟩
            --}
          have h4 : k + 1 < t.size := by omega
          have h5 : k + 2 < t.size := by omega
          have hd3 : t.data.toList.drop k = 103 :: t[k + 1] :: t[k + 2] :: t.data.toList.drop (k + 3) := by rw [hd, drop_cons h4, drop_cons h5]
          have ht3 : t.data.toList.take (k + 3) = t.data.toList.take k ++ [103, t[k + 1], t[k + 2]] := by
            rw [take_cons h5, take_cons h4, htk]; simp
          have h3b : ¬ (t.size : Int) < ((k + 3 : Nat) : Int) := by omega
          have cd1 := fun W => digit_any t[k + 1] W
          have cd2 := fun W => digit_any t[k + 2] W
          rw [hd3, untR_g] at hR
          have hend : ([], (2 : Int)) = untR G t.data.toList [] [] none → untE G t = ([], 2) := fun h => by rw [hrH.out, ← h]
          have hBH := Lib.hid hB
          cases hx1 : isDig t[k + 1] with
          | false =>
            rw [if_neg (by rw [hx1]; simp)] at hR
            rw [hx1] at cd1
            have hrrH := Lib.hid (hend hR)
            have cd1H := Lib.hid cd1
            clear hR hU hJ hB hd htk h103 h68 hd3 ht3 cd1 cd2 hend hx1
            --{
            rcases hg with hg | ⟨hg1, hg2⟩
            all_goals go_wp2_with fail
            all_goals refine (cd1H.out _).mono ?_
            all_goals rintro e w1 ⟨rfl, rfl⟩
            all_goals go_wp2_with fail
            all_goals go_ret2
            all_goals rw [hrrH.out]
            all_goals exact ⟨_, rfl, .nil _ _ _ _ _, hBH.out⟩
            --}
          | true =>
            rw [hx1] at cd1
            cases hx2 : isDig t[k + 2] with
            | false =>
              rw [if_neg (by rw [hx2]; simp)] at hR
              rw [hx2] at cd2
              have hrrH := Lib.hid (hend hR)
              have cd1H := Lib.hid cd1
              have cd2H := Lib.hid cd2
              clear hR hU hJ hB hd htk h103 h68 hd3 ht3 cd1 cd2 hend hx1 hx2
              --{
              rcases hg with hg | ⟨hg1, hg2⟩
              all_goals go_wp2_with fail
              all_goals refine (cd1H.out _).mono ?_
              all_goals rintro e w1 ⟨rfl, rfl⟩
              all_goals go_wp2_with fail
              all_goals refine (cd2H.out _).mono ?_
              all_goals rintro e w1 ⟨rfl, rfl⟩
              all_goals go_wp2_with fail
              all_goals go_ret2
              all_goals rw [hrrH.out]
              all_goals exact ⟨_, rfl, .nil _ _ _ _ _, hBH.out⟩
              --}
            | true =>
              rw [hx2] at cd2
              obtain ⟨hse, hss⟩ := extract2 h3
              have ca := fun W => Atoi_any (t.extract (k + 1) (k + 3)) (numOf t[k + 1] t[k + 2] : Int) (by omega) (atoi2 hx1 hx2 hse) W
              have hn := numOf_le hx1 hx2
              by_cases hnG : (numOf t[k + 1] t[k + 2] : Int) < G
              case neg =>
                rw [if_neg (fun h => hnG h.2.2)] at hR
                have hrrH := Lib.hid (hend hR)
                have cd1H := Lib.hid cd1
                have cd2H := Lib.hid cd2
                have caH := Lib.hid ca
                have hnGb : (G ≤ (numOf t[k + 1] t[k + 2] : Int)) := by omega
                obtain ⟨N, hN⟩ : ∃ N, numOf t[k + 1] t[k + 2] = N := ⟨_, rfl⟩
                rw [hN] at caH hnGb
                clear hR hU hJ hB hd htk h103 h68 hd3 ht3 cd1 cd2 hend hx1 hx2 hN hnG ca hse
                --{
                rcases hg with hg | ⟨hg1, hg2⟩
                all_goals go_wp2_with fail
                all_goals refine (cd1H.out _).mono ?_
                all_goals rintro e w1 ⟨rfl, rfl⟩
                all_goals go_wp2_with fail
                all_goals refine (cd2H.out _).mono ?_
                all_goals rintro e w1 ⟨rfl, rfl⟩
                all_goals go_wp2_with fail
                all_goals refine (caH.out _).mono ?_
                all_goals rintro e w1 ⟨rfl, hb1⟩
                all_goals go_wp2_with fail
                all_goals go_ret2
                all_goals rw [hrrH.out]
                all_goals exact ⟨_, rfl, .nil _ _ _ _ _, bcall hBH.out hb1⟩
                --}
              rw [if_pos ⟨hx1, hx2, hnG⟩] at hR
              have hJg := hJ.g hx1 hx2 hnG
              rw [← ht3, List.length_take, Array.length_toList, Nat.min_eq_left (show k ≤ t.data.size from hk)] at hJg
              have hrt : stpR (1, (numOf t[k + 1] t[k + 2] : Int), 0) := ⟨(show inRange (1 : Int) by unfold inRange; omega), (show inRange (numOf t[k + 1] t[k + 2] : Int) by unfold inRange; omega), (show inRange (0 : Int) by unfold inRange; omega)⟩
              have cadd := fun W (hb : Below wr.heap.size wr W) => untadd_any (1, (numOf t[k + 1] t[k + 2] : Int), 0) W (hU.below hb) hrt (by omega) (by have := dnOf_len st; show (dnOf st).length ≤ 100000; omega)
              obtain ⟨N, hN⟩ : ∃ N, numOf t[k + 1] t[k + 2] = N := ⟨_, rfl⟩
              rw [hN] at ca hn hnG hR hJg cadd
              have hnGb : ¬ (G ≤ (N : Int)) := by omega
              have cd1H := Lib.hid cd1
              have cd2H := Lib.hid cd2
              have caH := Lib.hid ca
              have hJgH := Lib.hid hJg
              have hRH := Lib.hid hR
              have caddH := Lib.hid cadd
              clear hR hU hJ hB hd htk h103 h68 hd3 ht3 cd1 cd2 hend hx1 hx2 hN hnG ca hse hJg cadd
              rcases hg with hg | ⟨hg1, hg2⟩
              all_goals go_wp2_with fail
              all_goals refine (cd1H.out _).mono ?_
              all_goals rintro e w1 ⟨rfl, rfl⟩
              all_goals go_wp2_with fail
              all_goals refine (cd2H.out _).mono ?_
              all_goals rintro e w1 ⟨rfl, rfl⟩
              all_goals go_wp2_with fail
              all_goals refine (caH.out _).mono ?_
              all_goals rintro e w1 ⟨rfl, hb1⟩
              all_goals go_wp2_with fail
              all_goals refine (caddH.out w1 hb1).mono ?_
              all_goals rintro e w2 ⟨rfl, hU2, hb2⟩
              all_goals
                have hC0 : untC G t w k (.slice aO st.length cO) w2 := ⟨st, _, _, hJgH.out, hRH.out, hU2, bcall' hBH.out hb1 hb2 (by have := hb1.size; have := hBH.out.size; omega)⟩
                have hC0H := Lib.hid hC0
                clear hC0 hU2 hb1 hb2
                go_wp2_with fail
              all_goals
                go_loopw [9] (fun vO wr => untC G t w k vO wr) (fun vO _ => lenV vO)
                case atStart => exact hC0H.out
                case round =>
                  clear hC0H
                  obtain ⟨st, p, kk, hJ, hR, hU, hB⟩ := hrel
                  have hst60 : p.length + st.length ≤ 65536 := Nat.le_trans hJ.cnt (Nat.le_trans (take_size_le t (k + 3)) hs)
                  cases st with
                  | nil =>
                    obtain ⟨a1, c1, hv, -⟩ := OwnI.ints hU.o
                    rw [opOf_len] at hv
                    subst hv
                    have hrel : untI G t w (.slice a1 0 c1) (.int .i64 ((k + 3 : Nat) : Int)) wr := ⟨k + 3, [], p, some kk, rfl, by omega, hJ.done, hR, hU, hB⟩
                    have hrelH := Lib.hid hrel
                    clear hrel hU hB hJ hR
                    simp only [List.length_nil]
                    go_wp2_with fail
                    all_goals go_roundw
                    all_goals first | exact hrelH.out | (simp [intOf]; omega)
                  | cons o st =>
                    rw [List.length_cons] at hst60
                    have hL := opOf_len st
                    have eL : IntKind.i64.wrap (((st.length + 1 : Nat) : Int) - 1) = ((st.length : Nat) : Int) := by rw [IntWalk.i64_in _ (by omega)]; omega
                    cases o with
                    | none =>
                      obtain ⟨g, cap, hv, hcp, d1, d2, d3, d4, d5⟩ := Um.setO (l := opOf st) (x0 := 2) hU 1 (by unfold inRange; omega)
                      rw [hL] at hv d1 d2 d3 d4 d5 hcp
                      subst hv
                      have c1 := d1.out
                      have c2 := d2.out
                      have c3 := d5.out
                      have hrel : untI G t w (.slice (some ⟨g, 0, none⟩) (st.length + 1) cap) (.int .i64 ((k + 3 : Nat) : Int)) (wr.setCell ⟨g, st.length, none⟩ (.int .i64 1)) := ⟨k + 3, some kk :: st, p, none, rfl, by omega, hJ.wait, hR, d3.out, hB.trans d4.out⟩
                      have hrelH := Lib.hid hrel
                      clear hrel hU hB hJ hR d1 d2 d3 d4 d5 hL
                      go_wp2_with fail
                      all_goals go_roundw
                      all_goals first | exact hrelH.out | (simp [intOf]; omega)
                    | some m =>
                      have hm := hJ.stl m (by simp)
                      have hkk := hJ.kl
                      obtain ⟨g, cap, hv, hcp, d1, d2, d3, d4, d5⟩ := Um.setO (l := opOf st) (x0 := 1) hU 0 (by unfold inRange; omega)
                      rw [hL] at hv d1 d2 d3 d4 d5 hcp
                      subst hv
                      have c1 := d1.out
                      have c2 := d2.out
                      have c3 := d5.out
                      have hUt := Um.takeO (x0 := 0) d3.out (by rw [hL])
                      rw [hL] at hUt
                      obtain ⟨W2, hW2⟩ : ∃ W, wr.setCell ⟨g, st.length, none⟩ (.int .i64 0) = W := ⟨_, rfl⟩
                      rw [hW2] at hUt c3 d4
                      have hD := dnOf_len st
                      obtain ⟨gD, cD, hcD, f1, f2, f3, f4, f5, f6⟩ := Um.takeD (l := dnOf st) (x0 := (m : Int)) (x1 := (kk : Int)) hUt
                      obtain ⟨M, hM⟩ : ∃ M, (dnOf st).length = M := ⟨_, rfl⟩
                      rw [hM] at hcD f1 f3 f4 f5 f6 hD
                      have q1 := f1.out
                      have q2 := f2.out
                      have q3 := f3.out
                      have q4 := f4.out
                      have eM1 : IntKind.i64.wrap (((M + 1 + 1 : Nat) : Int) - 2) = ((M : Nat) : Int) := by rw [IntWalk.i64_in _ (by omega)]; omega
                      have eM2 : IntKind.i64.wrap (((M + 1 + 1 : Nat) : Int) - 1) = ((M + 1 : Nat) : Int) := by rw [IntWalk.i64_in _ (by omega)]; omega
                      have hJc := hJ.close
                      have cadd := fun W (hb : Below (W2.setCell ⟨w.heap.size + 3, 0, none⟩ (.slice (some ⟨gD, 0, none⟩) M cD)).heap.size (W2.setCell ⟨w.heap.size + 3, 0, none⟩ (.slice (some ⟨gD, 0, none⟩) M cD)) W) => untadd_any (2, (m : Int), (kk : Int)) W (f5.out.below hb) ⟨(show inRange (2 : Int) by unfold inRange; omega), (show inRange (m : Int) by unfold inRange; omega), (show inRange (kk : Int) by unfold inRange; omega)⟩ (by omega) (by omega)
                      have hB2 := hB.trans (d4.out.trans f6.out)
                      have hJH := Lib.hid hJc
                      have hRH := Lib.hid hR
                      have caddH := Lib.hid cadd
                      have hB2H := Lib.hid hB2
                      clear hU hB hJ hR d1 d2 d3 d4 d5 hL f1 f2 f3 f4 f5 f6 hUt hJc cadd hB2 hM
                      go_wp2_with fail
                      try rw [hW2]
                      go_quiet (fail)
                      go_wp2_with fail
                      refine (caddH.out _ (below_drewN (Below.refl _ _) nq)).mono ?_
                      rintro e w4 ⟨rfl, hU4, hb4⟩
                      have hrel : untC G t w k (.slice (some ⟨g, 0, none⟩) st.length cap) w4 := ⟨st, _, _, hJH.out, hRH.out, hU4, (below_drewN hB2H.out nq).trans hb4⟩
                      have hrelH := Lib.hid hrel
                      clear hrel hU4 hb4
                      go_wp2_with fail
                      all_goals go_roundw
                      all_goals first | exact hrelH.out | (simp only [lenV]; omega)
    · clear hcap
      obtain rfl : k = t.size := by omega
      rw [List.drop_of_length_le (by rw [Array.length_toList]; exact Nat.le_refl _)] at hR
      cases w0 with
      | none =>
        rw [untR_short] at hR
        have hrr := hrH.out
        rw [← hR] at hrr
        have hrrH := Lib.hid hrr
        have hBH := Lib.hid hB
        obtain ⟨vD, hbD, hoD, -⟩ := hU.d
        have cD := hbD.cell
        obtain ⟨aD, cD', hvD, -⟩ := OwnI.ints hoD
        subst hvD
        have hcase : (0 : Int) < (st.length : Int) ∨ (¬ (0 : Int) < (st.length : Int) ∧ (((dnW st none).length : Int) != 1) = true) := by
          cases st with
          | nil => right; exact ⟨by simp, rfl⟩
          | cons o st => left; simp
        clear hR hU hJ hB hrr hbD hoD holen hst60
        generalize st.length = n at *
        generalize (dnW st none).length = m at *
        rcases hcase with hg | ⟨hg1, hg2⟩
        all_goals go_wp2_with fail
        all_goals go_ret2
        all_goals rw [hrrH.out]
        all_goals exact ⟨_, rfl, .nil _ _ _ _ _, hBH.out⟩
      | some kk =>
        obtain ⟨rfl, -, -⟩ := hJ.whole kk rfl
        rw [untR_end] at hR
        have hBH := Lib.hid hB
        obtain ⟨vD, hbD, hoD, -⟩ := hU.d
        have cD := hbD.cell
        obtain ⟨aD, cD', hvD, -⟩ := OwnI.ints hoD
        subst hvD
        have hg1 : ¬ (0 : Int) < ((([] : List (Option Nat)).length : Nat) : Int) := by simp
        have hg2 : (((dnW [] (some kk)).length : Int) != 1) = false := rfl
        obtain ⟨vP, hbP, hoP⟩ := hU.p
        have cP := hbP.cell
        obtain ⟨aP, cP', hvP, -⟩ := OwnL.sl hoP
        subst hvP
        have hoH := Lib.hid (OwnL.baseMono (base' := w.heap.size) hoP (by omega))
        have hrr := hrH.out
        rw [← hR] at hrr
        by_cases h60 : p.length ≤ 60
        · rw [if_pos h60] at hrr
          have hrrH := Lib.hid hrr
          have h60b : ¬ (60 : Int) < (p.length : Int) := by omega
          clear hR hU hJ hB hrr hbD hoD hbP hoP h60
          go_wp2_with fail
          all_goals go_ret2
          all_goals rw [hrrH.out]
          all_goals exact ⟨_, rfl, hoH.out, hBH.out⟩
        · rw [if_neg h60] at hrr
          have hrrH := Lib.hid hrr
          have h60b : (60 : Int) < (p.length : Int) := by omega
          clear hR hU hJ hB hrr hbD hoD hbP hoP h60
          go_wp2_with fail
          all_goals go_ret2
          all_goals rw [hrrH.out]
          all_goals exact ⟨_, rfl, .nil _ _ _ _ _, hBH.out⟩
end Go.Proofs.YtfcbdlfanmddbaaDoor
